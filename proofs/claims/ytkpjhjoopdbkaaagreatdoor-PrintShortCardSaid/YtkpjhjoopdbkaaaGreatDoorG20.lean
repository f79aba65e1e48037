/- Joined: Package parse: one. Printed by gen_pbH.py. The tasker begins and ends. Printed by gen_pbI.py. A task's clauses: how far they come; no program in sight. Printed by gen_pbJ.py. -/
import Derived.Test.YtkpjhjoopdbkaaaGreatDoorG19
import Derived.Laws.EntriesVeiled
import Derived.Shelf.Abstract
import Derived.Test.YtkpjhjoopdbkaaaGreatDoorG16
namespace Go.Proofs.YtkpjhjoopdbkaaaGreatDoor
open Go.RowKit
/-- What a task has so far is not too much. -/
structure TsS (u : Ts) : Prop where
  cols : u.s.cols.length ≤ 1000000
  pls : u.s.pls.length ≤ 1000000
  vars : u.t.vars.length ≤ 1000000
  ins : u.t.ins.length ≤ 1000000
  outs : u.t.outs.length ≤ 1000000
  cancel : u.t.cancel.length ≤ 1000000
  pv : u.s.vars.length ≤ 1000000
theorem had_contains (l : List ByteArray) (x : ByteArray) : (l.map (·.data.toList)).contains x.data.toList = Lib.containsS l x := by
  rw [Bool.eq_iff_iff, Lib.containsS_iff, List.contains_iff_mem, List.mem_map]
  constructor
  · rintro ⟨y, hy, e⟩
    have : y = x := by
      rcases y with ⟨⟨y⟩⟩
      rcases x with ⟨⟨x⟩⟩
      simp at e
      rw [e]
    rw [← this]; exact hy
  · exact fun h => ⟨x, h, rfl⟩
theorem clause_none {K : List Kt} {x : ByteArray} {t : Tk} {s : Ps} (h : clauseP K x t s = none) : clauseId x = none := by
  unfold clauseP at h
  unfold clauseId
  split at h
  · cases h
  rename_i hh
  rw [if_neg hh]
  clear hh
  split at h
  · cases h
  rename_i hh
  rw [if_neg hh]
  clear hh
  split at h
  · cases h
  rename_i hh
  rw [if_neg hh]
  clear hh
  split at h
  · cases h
  rename_i hh
  rw [if_neg hh]
  clear hh
  split at h
  · cases h
  rename_i hh
  rw [if_neg hh]
  clear hh
  split at h
  · cases h
  rename_i hh
  rw [if_neg hh]
  clear hh
  split at h
  · cases h
  rename_i hh
  rw [if_neg hh]
  clear hh
  split at h
  · cases h
  rename_i hh
  rw [if_neg hh]
  clear hh
  split at h
  · cases h
  rename_i hh
  exact if_neg hh
theorem clause_short {K : List Kt} {x : ByteArray} {t : Tk} {s : Ps} {r : Tk × Ps} (h : clauseP K x t s = some r) : x.size ≤ 32 := by
  unfold clauseP at h
  split at h
  · rename_i hh; rw [hh]; decide
  split at h
  · rename_i hh; rw [hh]; decide
  split at h
  · rename_i hh; rw [hh]; decide
  split at h
  · rename_i hh; rw [hh]; decide
  split at h
  · rename_i hh; rw [hh]; decide
  split at h
  · rename_i hh; rw [hh]; decide
  split at h
  · rename_i hh; rw [hh]; decide
  split at h
  · rename_i hh; rw [hh]; decide
  split at h
  · rename_i hh; rw [hh]; decide
  cases h
section
variable {T : List Tok} {en : Int} {g : Nat} {A : Option Addr} {c base : Nat} {w0 : World} {h0 : Hs} {gt mb : Nat} {h : Hs} {L1 : List ColV} {L2 : List PlV} {L3 : List TkV} {k : TkV} {li lo : List ArV} {nm : Nat} {D : DataW Unit} {u : Ts} {w W : World}
/-- Who reads a clause reads it. -/
def Reads (T : List Tok) (en : Int) (g : Nat) (A : Option Addr) (c base : Nat) (w0 : World) (h0 : Hs) (gt mb : Nat) (L1 : List ColV) (L2 : List PlV) (L3 : List TkV) (u u' : Ts) (F : FuncId) : Prop :=
  ∀ W h k li lo nm D, TsAt T en g A c base w0 h0 gt mb h L1 L2 L3 k li lo nm D u W → nm ≤ u.had.length → Calls Tryz.prog F #[.pointer (some ⟨gt, 0, none⟩)] W fun e w' => e = .returned (.tuple #[]) ∧ TsI T en g A c base w0 h0 gt mb L1 L2 L3 u' w'
theorem clause_some {x : ByteArray} {r : Tk × Ps} (hr : clauseP (ktOf T) x u.t u.s = some r) (hS : TsS u) : ∃ F, clauseId x = some F ∧ Enters Tryz.prog F ∧ Reads T en g A c base w0 h0 gt mb L1 L2 L3 u { u with t := r.1, s := r.2 } F := by
  unfold clauseP at hr
  unfold clauseId
  split at hr
  · rename_i hh
    injection hr with hr
    subst hr
    exact ⟨178, if_pos hh, enters_of Tryz.func178 (by kernel_rfl) rfl, fun W h k li lo nm D t hm => pa_variable W (Lib.hid t) hm (Lib.hid hS.cols) (Lib.hid hS.vars) (Lib.hid hS.pv)⟩
  rename_i hh
  rw [if_neg hh]
  clear hh
  split at hr
  · rename_i hh
    injection hr with hr
    subst hr
    exact ⟨179, if_pos hh, enters_of Tryz.func179 (by kernel_rfl) rfl, fun W h k li lo nm D t hm => pa_when W (Lib.hid t) hm ⟩
  rename_i hh
  rw [if_neg hh]
  clear hh
  split at hr
  · rename_i hh
    injection hr with hr
    subst hr
    exact ⟨180, if_pos hh, enters_of Tryz.func180 (by kernel_rfl) rfl, fun W h k li lo nm D t hm => pa_join W (Lib.hid t) hm ⟩
  rename_i hh
  rw [if_neg hh]
  clear hh
  split at hr
  · rename_i hh
    injection hr with hr
    subst hr
    exact ⟨181, if_pos hh, enters_of Tryz.func181 (by kernel_rfl) rfl, fun W h k li lo nm D t hm => pa_split W (Lib.hid t) hm ⟩
  rename_i hh
  rw [if_neg hh]
  clear hh
  split at hr
  · rename_i hh
    injection hr with hr
    subst hr
    exact ⟨182, if_pos hh, enters_of Tryz.func182 (by kernel_rfl) rfl, fun W h k li lo nm D t hm => pa_in W (Lib.hid t) hm (Lib.hid hS.pls) (Lib.hid (by have := hS.ins; rw [t.ei, List.length_map] at this; exact this))⟩
  rename_i hh
  rw [if_neg hh]
  clear hh
  split at hr
  · rename_i hh
    injection hr with hr
    subst hr
    exact ⟨183, if_pos hh, enters_of Tryz.func183 (by kernel_rfl) rfl, fun W h k li lo nm D t hm => pa_out W (Lib.hid t) hm (Lib.hid hS.pls) (Lib.hid (by have := hS.outs; rw [t.eo, List.length_map] at this; exact this))⟩
  rename_i hh
  rw [if_neg hh]
  clear hh
  split at hr
  · rename_i hh
    injection hr with hr
    subst hr
    exact ⟨184, if_pos hh, enters_of Tryz.func184 (by kernel_rfl) rfl, fun W h k li lo nm D t hm => pa_cancel W (Lib.hid t) hm (Lib.hid hS.pls) (Lib.hid hS.cancel)⟩
  rename_i hh
  rw [if_neg hh]
  clear hh
  split at hr
  · rename_i hh
    injection hr with hr
    subst hr
    exact ⟨185, if_pos hh, enters_of Tryz.func185 (by kernel_rfl) rfl, fun W h k li lo nm D t hm => pa_after W (Lib.hid t) hm ⟩
  rename_i hh
  rw [if_neg hh]
  clear hh
  split at hr
  · rename_i hh
    injection hr with hr
    subst hr
    exact ⟨186, if_pos hh, enters_of Tryz.func186 (by kernel_rfl) rfl, fun W h k li lo nm D t hm => pa_many W (Lib.hid t) hm ⟩
  rename_i hh
  rw [if_neg hh]
  clear hh
  cases hr
set_option maxRecDepth 100000 in
set_option maxHeartbeats 16000000 in
theorem pa_one (w : World) (ht : Hid (TsAt T en g A c base w0 h0 gt mb h L1 L2 L3 k li lo nm D u w)) (hm : nm ≤ u.had.length) (hS : Hid (TsS u)) (hh : Hid (u.had.length ≤ 1000000)) :
    Calls Tryz.prog 133 #[.pointer (some ⟨gt, 0, none⟩)] w fun e w' => e = .returned (.tuple #[]) ∧ TsI T en g A c base w0 h0 gt mb L1 L2 L3 (oneP (ktOf T) u) w' := by
  have HMU := Lib.hid hm
  clear hm
  obtain ⟨x, hx⟩ : ∃ x, x = seesP (ktOf T) u.s := ⟨_, rfl⟩
  have HX := Lib.hid hx
  have CS := Lib.hid (pa_sees w (Lib.hid ht.out.net.pat))
  have HO := Lib.hid (show oneP (ktOf T) u = match clauseP (ktOf T) x u.t (stepP u.s) with | none => { u with s := wrongP 4 u.s } | some r => if Lib.containsS u.had x && isOnce x then { u with s := wrongP 5 u.s } else ⟨r.1, x :: u.had, wantP (ktOf T) ⟨#[59]⟩ r.2⟩ by rw [hx]; rfl)
  rw [← hx] at CS
  obtain ⟨Z, hZ⟩ : ∃ y, y = oneP (ktOf T) u := ⟨_, rfl⟩
  rw [← hZ] at HO ⊢
  have CC := Lib.hid (fun W => pa_clause x gt W)
  have HCF := Lib.hid (show clauseFn x gt = match clauseId x with | some f => .func (.func f) #[.pointer (some ⟨gt, 0, none⟩)] #[] | none => .nilFunc from rfl)
  obtain ⟨V, hV⟩ : ∃ y, y = clauseFn x gt := ⟨_, rfl⟩
  rw [← hV] at CC HCF
  have b0 := ht.out.b0
  clear hx hZ hV
  rcases hr : clauseP (ktOf T) x u.t (stepP u.s) with _ | r
  · have HV := Lib.hid (show V = .nilFunc by rw [HCF.out, clause_none hr])
    have HZ := Lib.hid (show Z = { u with s := wrongP 4 u.s } by rw [HO.out, hr])
    clear hr HCF HO
    go_enter Tryz.func133, Tryz.ntmps133
    go_wp2_with fail
    refine CS.out.mono ?_
    rintro e w1 ⟨rfl, hB⟩
    have HT1 := Lib.hid (ht.out.turn (turned_below ht.out.net.pat hB) (Mv.refl _))
    have b1 := HT1.out.b0
    clear hB b0
    go_wp2_with fail
    refine (CC.out _).mono ?_
    rintro e w2 ⟨rfl, rfl⟩
    rw [HV.out]
    have nf : (binOp .eql 1 .nilFunc .nilFunc).run Tryz.prog w1 = .ok (.bool true) w1 := by kernel_rfl
    go_wp2_with fail
    refine (pa_wrong 4 (by decide) _ (Lib.hid HT1.out.net.pat)).mono ?_
    rintro e w3 ⟨rfl, hT⟩
    have HT3 := Lib.hid (HT1.out.turn hT (mv_wrong 4 _))
    clear hT b1
    go_wp2
    refine bodyPost_ret (results_none rfl _ _ _) rfl ⟨rfl, ?_⟩
    rw [HZ.out]
    exact ⟨_, _, _, _, _, _, HT3.out, HMU.out⟩
  · have hne : seesP (ktOf T) u.s ≠ ByteArray.empty := fun e => by rw [HX.out, e, clause_empty] at hr; cases hr
    have hlt := sees_lt hne
    have hltT : u.s.at_ < T.length := by rw [← ktOf_len]; exact hlt.2
    have HLT := Lib.hid hltT
    have HMS := Lib.hid (mv_step hlt.2)
    have h32 := clause_short hr
    have hcs := clause_some (T := T) (en := en) (g := g) (A := A) (c := c) (base := base) (w0 := w0) (h0 := h0) (gt := gt) (mb := mb) (L1 := L1) (L2 := L2) (L3 := L3) (u := { u with had := x :: u.had, s := stepP u.s }) hr ⟨hS.out.cols, hS.out.pls, hS.out.vars, hS.out.ins, hS.out.outs, hS.out.cancel, hS.out.pv⟩
    obtain ⟨FF, hid, hen, hrd⟩ := hcs
    have HRD := Lib.hid hrd
    have HV := Lib.hid (show V = .func (.func FF) #[.pointer (some ⟨gt, 0, none⟩)] #[] by rw [HCF.out, hid])
    have eF : ∀ args w, (callFunc FF args).run Tryz.prog w = .ok (.enter FF args) w := hen
    have HKY := Lib.hid (key_s h32)
    obtain ⟨bh, hbh⟩ : ∃ y, y = Lib.containsS u.had x := ⟨_, rfl⟩
    have HLK := Lib.hid (fun W (hW : TsAt T en g A c base w0 h0 gt mb h L1 L2 L3 k li lo nm D u W) => (show (Instr.lookup 166 (.map (some mb)) (.string x) false).run Tryz.prog W = .ok (.bool bh) W by
      have h1 := look_had hW.map hW.had h32
      rw [had_contains, ← hbh] at h1
      exact h1))
    obtain ⟨bo, hbo⟩ : ∃ y, y = isOnce x := ⟨_, rfl⟩
    have CO := Lib.hid (fun W => pa_once x W)
    rw [← hbo] at CO
    have HZ := Lib.hid (show Z = if bh && bo then { u with s := wrongP 5 u.s } else ⟨r.1, x :: u.had, wantP (ktOf T) ⟨#[59]⟩ r.2⟩ by rw [HO.out, hr, hbh, hbo])
    have HTS := Lib.hid ht.out.net.small.len
    clear hr HCF HO hne hlt hltT h32 hid hen hrd hbh hbo
    go_enter Tryz.func133, Tryz.ntmps133
    go_wp2_with fail
    refine CS.out.mono ?_
    rintro e w1 ⟨rfl, hB⟩
    have HT1 := Lib.hid (ht.out.turn (turned_below ht.out.net.pat hB) (Mv.refl _))
    have b1 := HT1.out.b0
    clear hB b0 CS
    go_wp2_with fail
    refine (CC.out _).mono ?_
    rintro e w2 ⟨rfl, rfl⟩
    rw [HV.out]
    have nf : (binOp .eql 1 (.func (.func FF) #[.pointer (some ⟨gt, 0, none⟩)] #[]) .nilFunc).run Tryz.prog w1 = .ok (.bool false) w1 := by kernel_rfl
    have m1 : w1.cell? ⟨gt, 15, none⟩ = some (.map (some mb)) := row_cell HT1.out.box 15 _ rfl
    have lk := HLK.out _ HT1.out
    clear CC HV
    cases bh with
    | true =>
      go_wp2_with fail
      refine (CO.out _).mono ?_
      rintro e w2 ⟨rfl, hB⟩
      have HT2 := Lib.hid (HT1.out.turn (turned_below HT1.out.net.pat hB) (Mv.refl _))
      clear hB b1 m1 lk
      have b2 := HT2.out.b0
      cases bo with
      | true =>
        have HZ1 := Lib.hid (show Z = { u with s := wrongP 5 u.s } from HZ.out)
        go_wp2_with fail
        refine (pa_wrong 5 (by decide) _ (Lib.hid HT2.out.net.pat)).mono ?_
        rintro e w3 ⟨rfl, hT⟩
        have HT3 := Lib.hid (HT2.out.turn hT (mv_wrong 5 _))
        clear hT b2
        go_wp2
        refine bodyPost_ret (results_none rfl _ _ _) rfl ⟨rfl, ?_⟩
        rw [HZ1.out]
        exact ⟨_, _, _, _, _, _, HT3.out, HMU.out⟩
      | false =>
        have HZ1 := Lib.hid (show Z = ⟨r.1, x :: u.had, wantP (ktOf T) ⟨#[59]⟩ r.2⟩ from HZ.out)
        have b2 := HT2.out.b0
        have m2 : w2.cell? ⟨gt, 15, none⟩ = some (.map (some mb)) := row_cell HT2.out.box 15 _ rfl
        go_upto_region 8 with (at_mapUpdate; refine wpList_mapUpdate_own _ rfl _ _ _ 166 rfl 9 4 keyS Tryz.underlying166 _ mb _ _ rfl HT2.out.map (by have h1 := HMU.out; have h2 := hh.out; unfold maxLen; omega) _ _ _ rfl rfl HKY.out _ [] (plainElem_bool Tryz.underlying4 true) ?_; intro w5 hout3 hg3; have HT5 := Lib.hid (HT2.out.put6 (l' := x :: u.had) ((AgH.refl (only mb) _).grown hg3 (fun q hq _ => by cases hq; rfl)) hout3 (HT2.out.had.put x.data.toList)); have b5 := HT5.out.b0; have c1 := HT5.out.net.blk.c1; have f1 := HT5.out.net.blk.froz 1; have w64 : IntKind.i64.wrap ((u.s.at_ : Int) + 1) = (u.s.at_ : Int) + 1 := IntWalk.i64_in _ ⟨by omega, by have h1 := HLT.out; have h2 := HTS.out; omega⟩; clear hout3 hg3)
        have HT6 := Lib.hid (HT5.out.turn (turned_step HT5.out.net.pat (Below.refl _ _) HLT.out) HMS.out)
        obtain ⟨w6, hw6⟩ : ∃ y, y = w5.setCell ⟨g, 1, none⟩ (.int .i64 ((u.s.at_ : Int) + 1)) := ⟨_, rfl⟩
        rw [← hw6] at HT6 ⊢
        clear hw6 b5 c1 f1 b2 m2
        have CR := Lib.hid (HRD.out w6 _ _ _ _ _ _ HT6.out (by have := HMU.out; simp; omega))
        go_wp2_with (go_at_fn FF; refine CR.out.mono ?_; rintro e w7 ⟨rfl, h7, k7, li7, lo7, nm7, D7, t7, hm7⟩; have HT7 := Lib.hid t7; have HM7 := Lib.hid hm7; have b7 := t7.b0; clear t7 hm7)
        refine (pa_want ⟨#[59]⟩ (by decide) _ (Lib.hid HT7.out.net.pat)).mono ?_
        rintro e w8 ⟨rfl, hT⟩
        have HT8 := Lib.hid (HT7.out.turn hT (mv_want (by decide) _))
        clear hT b7
        go_wp2
        refine bodyPost_end (results_none rfl _ _ _) rfl ⟨rfl, ?_⟩
        rw [HZ1.out]
        exact ⟨_, _, _, _, _, _, HT8.out, HM7.out⟩
    | false =>
      have HZ1 := Lib.hid (show Z = ⟨r.1, x :: u.had, wantP (ktOf T) ⟨#[59]⟩ r.2⟩ from HZ.out)
      have b2 := HT1.out.b0
      have m2 : w1.cell? ⟨gt, 15, none⟩ = some (.map (some mb)) := row_cell HT1.out.box 15 _ rfl
      go_upto_region 8 with (at_mapUpdate; refine wpList_mapUpdate_own _ rfl _ _ _ 166 rfl 9 4 keyS Tryz.underlying166 _ mb _ _ rfl HT1.out.map (by have h1 := HMU.out; have h2 := hh.out; unfold maxLen; omega) _ _ _ rfl rfl HKY.out _ [] (plainElem_bool Tryz.underlying4 true) ?_; intro w5 hout3 hg3; have HT5 := Lib.hid (HT1.out.put6 (l' := x :: u.had) ((AgH.refl (only mb) _).grown hg3 (fun q hq _ => by cases hq; rfl)) hout3 (HT1.out.had.put x.data.toList)); have b5 := HT5.out.b0; have c1 := HT5.out.net.blk.c1; have f1 := HT5.out.net.blk.froz 1; have w64 : IntKind.i64.wrap ((u.s.at_ : Int) + 1) = (u.s.at_ : Int) + 1 := IntWalk.i64_in _ ⟨by omega, by have h1 := HLT.out; have h2 := HTS.out; omega⟩; clear hout3 hg3)
      have HT6 := Lib.hid (HT5.out.turn (turned_step HT5.out.net.pat (Below.refl _ _) HLT.out) HMS.out)
      obtain ⟨w6, hw6⟩ : ∃ y, y = w5.setCell ⟨g, 1, none⟩ (.int .i64 ((u.s.at_ : Int) + 1)) := ⟨_, rfl⟩
      rw [← hw6] at HT6 ⊢
      clear hw6 b5 c1 f1 b2 m2
      have CR := Lib.hid (HRD.out w6 _ _ _ _ _ _ HT6.out (by have := HMU.out; simp; omega))
      go_wp2_with (go_at_fn FF; refine CR.out.mono ?_; rintro e w7 ⟨rfl, h7, k7, li7, lo7, nm7, D7, t7, hm7⟩; have HT7 := Lib.hid t7; have HM7 := Lib.hid hm7; have b7 := t7.b0; clear t7 hm7)
      refine (pa_want ⟨#[59]⟩ (by decide) _ (Lib.hid HT7.out.net.pat)).mono ?_
      rintro e w8 ⟨rfl, hT⟩
      have HT8 := Lib.hid (HT7.out.turn hT (mv_want (by decide) _))
      clear hT b7
      go_wp2
      refine bodyPost_end (results_none rfl _ _ _) rfl ⟨rfl, ?_⟩
      rw [HZ1.out]
      exact ⟨_, _, _, _, _, _, HT8.out, HM7.out⟩
end
end Go.Proofs.YtkpjhjoopdbkaaaGreatDoor
namespace Go.Proofs.YtkpjhjoopdbkaaaGreatDoor
open Go.RowKit
theorem vrv_at (l : List Vr) : ∀ (j i : Nat) (h : j < l.length), i < 2 → (l.flatMap Vr.cells)[j * 2 + i]? = (l[j].cells)[i]? := by
  induction l with
  | nil => intro j i h; exact absurd h (by simp)
  | cons t l ih =>
    intro j i h hi
    rw [List.flatMap_cons]
    have hc : t.cells.length = 2 := rfl
    rcases j with _ | j
    · rw [List.getElem?_append_left (by omega)]; simp
    · rw [List.getElem?_append_right (by omega), hc]
      have := ih j i (by simpa using h) hi
      rw [show (j + 1) * 2 + i - 2 = j * 2 + i by omega, this]; rfl
theorem arv_at (l : List ArV) : ∀ (j i : Nat) (h : j < l.length), i < 4 → (l.flatMap ArV.cells)[j * 4 + i]? = (l[j].cells)[i]? := by
  induction l with
  | nil => intro j i h; exact absurd h (by simp)
  | cons t l ih =>
    intro j i h hi
    rw [List.flatMap_cons]
    have hc : t.cells.length = 4 := rfl
    rcases j with _ | j
    · rw [List.getElem?_append_left (by omega)]; simp
    · rw [List.getElem?_append_right (by omega), hc]
      have := ih j i (by simpa using h) hi
      rw [show (j + 1) * 4 + i - 4 = j * 4 + i by omega, this]; rfl
theorem own_slice {w : World} {b : Nat} {e : TypeId} {size n n' c : Nat} {A : Option Addr} {xs : List Value} (r : w.ownsRow b e size (.slice A n' c) n xs) : n' = n := by
  obtain ⟨A9, c9, e9, _⟩ := own_form r
  injection e9
theorem vrs_of {w : World} {b : Nat} {l : List Vr} {A' : Option Addr} {n' c' : Nat} (r : w.ownsRow b 132 2 (.slice A' n' c') l.length (l.flatMap Vr.cells)) (hi : ∀ v ∈ l, I64 v.colour) : SlOf 2 VrAt w A' n' c' l := by
  have hn := own_slice r
  subst hn
  obtain ⟨A, c, e, h1, h2, h3, h5⟩ := Sl.of_own r
  injection e with e1 e2 e3
  subst e1
  subst e3
  refine ⟨h1, h2, rfl, fun h => ?_⟩
  obtain ⟨b, off, e, hc⟩ := h5 h
  refine ⟨b, off, e, fun k hk => ?_⟩
  have e : l.getD k default = l[k] := by simp [List.getD, hk]
  rw [e]
  have c0 := hc (k * 2 + 0) _ ((vrv_at l k 0 hk (by omega)).trans rfl)
  have c1 := hc (k * 2 + 1) _ ((vrv_at l k 1 hk (by omega)).trans rfl)
  exact ⟨c0, c1, hi _ (List.getElem_mem hk)⟩
theorem ars_of {w : World} {b : Nat} {l : List ArV} {A' : Option Addr} {n' c' : Nat} (r : w.ownsRow b 61 4 (.slice A' n' c') l.length (l.flatMap ArV.cells)) (hi : ∀ x ∈ l, x.at_ w) : SlOf 4 ArAt w A' n' c' (l.map (·.a)) := by
  have hn := own_slice r
  subst hn
  obtain ⟨A, c, e, h1, h2, h3, h5⟩ := Sl.of_own r
  injection e with e1 e2 e3
  subst e1
  subst e3
  refine ⟨h1, h2, by rw [List.length_map], fun h => ?_⟩
  obtain ⟨b, off, e, hc⟩ := h5 h
  refine ⟨b, off, e, fun k hk => ?_⟩
  have e : (l.map (·.a)).getD k default = l[k].a := by simp [List.getD, hk]
  rw [e]
  have c0 := hc (k * 4 + 0) _ ((arv_at l k 0 hk (by omega)).trans rfl)
  have c1 := hc (k * 4 + 1) _ ((arv_at l k 1 hk (by omega)).trans rfl)
  have c2 := hc (k * 4 + 2) _ ((arv_at l k 2 hk (by omega)).trans rfl)
  have c3 := hc (k * 4 + 3) _ ((arv_at l k 3 hk (by omega)).trans rfl)
  have hx := hi _ (List.getElem_mem hk)
  exact ⟨l[k].A, l[k].m, l[k].c, c0, c1, c2, c3, hx.1, hx.2⟩
section
variable {T : List Tok} {en : Int} {g : Nat} {A : Option Addr} {c base : Nat} {w0 : World} {h0 : Hs} {gt mb : Nat} {h : Hs} {L1 : List ColV} {L2 : List PlV} {L3 : List TkV} {k : TkV} {li lo : List ArV} {nm : Nat} {D : DataW Unit} {u : Ts} {w W : World}
/-- What the tasker made, held against the parser and the net's rows. -/
theorem TsAt.tkv (t : TsAt T en g A c base w0 h0 gt mb h L1 L2 L3 k li lo nm D u w) : HeldH (NX base g h) w k.at_ := by
  have ne : ∀ j, 7 ≤ j → ∀ i, tsB g h gt mb k j = some i → ¬ NX base g h i := fun j hj i q e => by
    rcases e with e | e | e | e | e | e
    · have := t.old hj q; have := t.bb; omega
    · exact t.ap 0 j (by omega) i (by rw [e]; rfl) q
    · exact t.ap 1 j (by omega) i e q
    · exact t.ap 2 j (by omega) i e q
    · exact t.ap 3 j (by omega) i e q
    · exact t.ap 4 j (by omega) i e q
  have hd := t.hold.mono (H' := NX base g h) fun i _ e => by
    rcases e with e | e | e | e | e | e
    · exact .inl e
    · exact .inr ⟨0, by rw [e]; rfl⟩
    · exact .inr ⟨1, e⟩
    · exact .inr ⟨2, e⟩
    · exact .inr ⟨3, e⟩
    · exact .inr ⟨4, e⟩
  intro W a
  obtain ⟨d1, d2, d3⟩ := hd W a
  have rv := own_keep t.rv a (ne 7 (by decide))
  have ri := own_keep t.ri a (ne 8 (by decide))
  have ro := own_keep t.ro a (ne 9 (by decide))
  have rc := own_keep t.rc a (ne 10 (by decide))
  have et := t.et
  have e1 := own_slice rc
  refine ⟨?_, ?_, ?_, ?_, ?_, ?_, ?_, ?_, ?_, ?_, ?_, ?_⟩
  · rw [et]; exact vrs_of rv t.iv
  · rw [et]; exact d1
  · rw [et, t.ei]; exact ars_of ri d2
  · rw [et, t.eo]; exact ars_of ro d3
  · rw [et, e1]
    have := Sl.of_own rc
    unfold TkV.Vc at this
    rw [e1] at this
    exact this
  · rw [et]; exact t.i5
  · rw [et]; exact t.i6
  · rw [et]; exact t.i9
  · rw [et]; exact t.i10
  · rw [et]; exact t.i11
  · rw [et]; exact t.i12
  · rw [et]; exact t.i13
def Tk.zero : Tk := ⟨⟨#[]⟩, [], .mk 0 0 [], 0, 0, [], [], [], 0, 0, 0, 0⟩
def TkV.zero : TkV := ⟨Tk.zero, none, 0, 0, none, 0, 0, none, 0, 0, none, 0, 0, none, 0, 0⟩
theorem NAt.ap4 (N : NAt T en g A c base h L1 L2 L3 u.s w) : ∀ i j, i < 5 → j < 5 → i ≠ j → ∀ b, tsB g h gt mb TkV.zero i = some b → tsB g h gt mb TkV.zero j ≠ some b := by
  intro i j hi hj hij b e e'
  match i, j, hi, hj, hij with
  | 0, 0, _, _, hij => exact absurd rfl hij
  | 0, 1, _, _, _ => injection e with e; exact N.ne1 (by rw [e]; exact e')
  | 0, 2, _, _, _ => injection e with e; exact N.ne2 (by rw [e]; exact e')
  | 0, 3, _, _, _ => injection e with e; exact N.ne3 (by rw [e]; exact e')
  | 0, 4, _, _, _ => injection e with e; exact N.ne4 (by rw [e]; exact e')
  | 1, 0, _, _, _ => injection e' with e'; exact N.ne1 (by rw [e']; exact e)
  | 1, 1, _, _, hij => exact absurd rfl hij
  | 1, 2, _, _, _ => exact N.a12 b e e'
  | 1, 3, _, _, _ => exact N.a13 b e e'
  | 1, 4, _, _, _ => exact N.a14 b e e'
  | 2, 0, _, _, _ => injection e' with e'; exact N.ne2 (by rw [e']; exact e)
  | 2, 1, _, _, _ => exact N.a12.symm b e e'
  | 2, 2, _, _, hij => exact absurd rfl hij
  | 2, 3, _, _, _ => exact N.a23 b e e'
  | 2, 4, _, _, _ => exact N.a24 b e e'
  | 3, 0, _, _, _ => injection e' with e'; exact N.ne3 (by rw [e']; exact e)
  | 3, 1, _, _, _ => exact N.a13.symm b e e'
  | 3, 2, _, _, _ => exact N.a23.symm b e e'
  | 3, 3, _, _, hij => exact absurd rfl hij
  | 3, 4, _, _, _ => exact N.a34 b e e'
  | 4, 0, _, _, _ => injection e' with e'; exact N.ne4 (by rw [e']; exact e)
  | 4, 1, _, _, _ => exact N.a14.symm b e e'
  | 4, 2, _, _, _ => exact N.a24.symm b e e'
  | 4, 3, _, _, _ => exact N.a34.symm b e e'
  | 4, 4, _, _, hij => exact absurd rfl hij
  | i + 5, _, hi, _, _ => omega
  | _, j + 5, _, hj, _ => omega
theorem TsAt.init {h1 : Hs} {s0 s1 : Ps} {w1 : World} (N0 : NAt T en g A c base h0 L1 L2 L3 s0 w0) (a1 : AgH (only g) w0 w1) (N1 : NAt T en g A c base h1 L1 L2 L3 s1 w1) (sub1 : ∀ i, NH g h1 i → NH g h0 i) (e1 : h1.V1 = h0.V1) (e2 : h1.V2 = h0.V2) (e3 : h1.V3 = h0.V3)
    (hW : Below w1.heap.size w1 W) (hm : OwnS W mb 0 (.map [])) (hb : BoxAt W gt g mb TkV.zero) (emb : mb = w1.heap.size) (egt : gt = w1.heap.size + 1) :
    TsAt T en g A c base w0 h0 gt mb h1 L1 L2 L3 TkV.zero [] [] 0 (.map []) ⟨Tk.zero, [], s1⟩ W := by
  have hN : NAt T en g A c base h1 L1 L2 L3 s1 W := N1.turn (turned_below N1.pat hW) (Mv.refl _)
  have hlt : ∀ i b, i < 5 → tsB g h1 gt mb TkV.zero i = some b → b < w1.heap.size := fun i b hi e => by
    match i, hi, e with
    | 0, _, e => injection e with e; have := N1.gb; have := N1.lb; omega
    | 1, _, e => exact (N1.lt1 e).2
    | 2, _, e => exact (N1.lt2 e).2
    | 3, _, e => exact (N1.lt3 e).2
    | 4, _, e => exact (N1.lt4 e).2
  have hsz := a1.size
  refine ⟨hN, ⟨s0, N0⟩, e1, e2, e3, N0.lb, (a1.mono fun i _ e => .inl e).then_ (AgH.of_below hW) (fun i _ (e : False) => e.elim), fun i _ e => sub1 i e, by omega, by omega, hb, rfl, hm, HadOf.nil, World.ownsRow_nil _ _ _ _, World.ownsRow_nil _ _ _ _, World.ownsRow_nil _ _ _ _, World.ownsRow_nil _ _ _ _, rfl, rfl, ?_, ?_, ?_, ?_, ?_, ?_, ?_, ?_, ?_, ?_⟩
  · intro i j hij b hi hj
    by_cases c1 : i < 5
    · by_cases c2 : j < 5
      · exact N1.ap4 (u := ⟨Tk.zero, [], s1⟩) i j c1 c2 hij b hi hj
      · have hx := hlt i b c1 hi
        match j, c2, hj with
        | 5, _, hj => injection hj with hj; omega
        | 6, _, hj => injection hj with hj; omega
        | 7, _, hj => cases hj
        | 8, _, hj => cases hj
        | 9, _, hj => cases hj
        | 10, _, hj => cases hj
        | n + 11, _, hj => cases hj
        | 0, c2, _ => omega
        | 1, c2, _ => omega
        | 2, c2, _ => omega
        | 3, c2, _ => omega
        | 4, c2, _ => omega
    · match i, c1, hi with
      | 5, _, hi =>
        injection hi with hi
        by_cases c2 : j < 5
        · have := hlt j b c2 hj; omega
        · match j, c2, hj with
          | 5, _, _ => exact absurd rfl hij
          | 6, _, hj => injection hj with hj; omega
          | 7, _, hj => cases hj
          | 8, _, hj => cases hj
          | 9, _, hj => cases hj
          | 10, _, hj => cases hj
          | n + 11, _, hj => cases hj
          | 0, c2, _ => omega
          | 1, c2, _ => omega
          | 2, c2, _ => omega
          | 3, c2, _ => omega
          | 4, c2, _ => omega
      | 6, _, hi =>
        injection hi with hi
        by_cases c2 : j < 5
        · have := hlt j b c2 hj; omega
        · match j, c2, hj with
          | 5, _, hj => injection hj with hj; omega
          | 6, _, _ => exact absurd rfl hij
          | 7, _, hj => cases hj
          | 8, _, hj => cases hj
          | 9, _, hj => cases hj
          | 10, _, hj => cases hj
          | n + 11, _, hj => cases hj
          | 0, c2, _ => omega
          | 1, c2, _ => omega
          | 2, c2, _ => omega
          | 3, c2, _ => omega
          | 4, c2, _ => omega
      | 7, _, hi => cases hi
      | 8, _, hi => cases hi
      | 9, _, hi => cases hi
      | 10, _, hi => cases hi
      | n + 11, _, hi => cases hi
      | 0, c1, _ => omega
      | 1, c1, _ => omega
      | 2, c1, _ => omega
      | 3, c1, _ => omega
      | 4, c1, _ => omega
  · exact fun W' _ => ⟨TrH.leaf 0 W' (by unfold I64; omega) (by unfold I64; omega) W' (AgH.refl _ _), fun x hx => (nomatch hx), fun x hx => (nomatch hx)⟩
  · exact fun v hv => nomatch hv
  · show I64 0; unfold I64; omega
  · show I64 0; unfold I64; omega
  · exact fun v hv => nomatch hv
  · show I64 0; unfold I64; omega
  · show I64 0; unfold I64; omega
  · show I64 0; unfold I64; omega
  · show I64 0; unfold I64; omega
/-- The task named. -/
theorem TsAt.named (nv : ByteArray) {s1 : Ps} (t : TsAt T en g A c base w0 h0 gt mb h L1 L2 L3 TkV.zero [] [] nm D ⟨Tk.zero, [], s1⟩ w) (a : AgH (only gt) w W) (hb : BoxAt W gt g mb { TkV.zero with t := Tk.named nv }) :
    TsAt T en g A c base w0 h0 gt mb h L1 L2 L3 { TkV.zero with t := Tk.named nv } [] [] nm D ⟨Tk.named nv, [], s1⟩ W :=
  t.put a hb rfl rfl rfl rfl rfl rfl rfl rfl rfl (fun W' _ => TrH.leaf 0 W' (by unfold I64; omega) (by unfold I64; omega) W' (AgH.refl _ _)) (by show I64 1; unfold I64; omega) (by show I64 1; unfold I64; omega) (by show I64 0; unfold I64; omega) (by show I64 0; unfold I64; omega) (by show I64 0; unfold I64; omega) (by show I64 0; unfold I64; omega)
end
end Go.Proofs.YtkpjhjoopdbkaaaGreatDoor
namespace Go.Proofs.YtkpjhjoopdbkaaaGreatDoor
/-- No list is longer than the tokens read. -/
structure TsB (u : Ts) : Prop where
  had : u.had.length ≤ u.s.at_
  vars : u.t.vars.length ≤ u.s.at_
  ins : u.t.ins.length ≤ u.s.at_
  outs : u.t.outs.length ≤ u.s.at_
  cancel : u.t.cancel.length ≤ u.s.at_
  pv : u.s.vars.length ≤ u.s.at_
theorem wrong_at (e : Int) (s : Ps) : (wrongP e s).at_ = s.at_ ∧ (wrongP e s).vars = s.vars := by
  unfold wrongP
  split
  · exact ⟨rfl, rfl⟩
  · exact ⟨rfl, rfl⟩
section
variable {K : List Kt}
theorem clause_grow {x : ByteArray} {t : Tk} {s : Ps} {r : Tk × Ps} (h : clauseP K x t s = some r) : r.1.vars.length ≤ t.vars.length + 1 ∧ r.1.ins.length ≤ t.ins.length + 1 ∧ r.1.outs.length ≤ t.outs.length + 1 ∧ r.1.cancel.length ≤ t.cancel.length + 1 ∧ r.2.vars.length ≤ s.vars.length + 1 := by
  unfold clauseP at h
  split at h
  · injection h with h; rw [← h]
    have m1 := (mv_fresh (K := K) (hadT (findVar s)) s).trans (mv_want (x := ⟨#[58]⟩) (by decide) _)
    have m := (m1.trans (mv_known (findCol (wantP K ⟨#[58]⟩ (freshS K (hadT (findVar s)) s))) _)).vars
    unfold varP
    refine ⟨by simp, by simp, by simp, by simp, ?_⟩
    simp only [List.length_append, m]
    simp
  split at h
  · injection h with h; rw [← h]; exact ⟨by simp, by simp, by simp, by simp, by rw [(mv_expr (K := K) 0 s).vars]; omega⟩
  split at h
  · injection h with h; rw [← h]; exact ⟨by simp, by simp, by simp, by simp, by rw [(mv_kind (K := K) s).vars]; omega⟩
  split at h
  · injection h with h; rw [← h]; exact ⟨by simp, by simp, by simp, by simp, by rw [(mv_kind (K := K) s).vars]; omega⟩
  split at h
  · injection h with h; rw [← h]; exact ⟨by simp, by simp, by simp, by simp, by rw [(mv_arc (K := K) s).vars]; omega⟩
  split at h
  · injection h with h; rw [← h]; exact ⟨by simp, by simp, by simp, by simp, by rw [(mv_arc (K := K) s).vars]; omega⟩
  split at h
  · injection h with h; rw [← h]; exact ⟨by simp, by simp, by simp, by simp, by rw [(mv_known (K := K) _ s).vars]; omega⟩
  split at h
  · injection h with h; rw [← h]; exact ⟨by simp, by simp, by simp, by simp, by rw [(mv_number (K := K) s).vars]; omega⟩
  split at h
  · injection h with h; rw [← h]; exact ⟨by simp [manyP], by simp [manyP], by simp [manyP], by simp [manyP], by rw [(mv_many (K := K) t s).vars]; omega⟩
  · cases h
/-- A clause was wrong, or it took a token. -/
theorem one_goes (u : Ts) (hB : TsB u) : TsB (oneP K u) ∧ ((oneP K u).s.err ≠ 0 ∨ u.s.at_ + 1 ≤ (oneP K u).s.at_) := by
  unfold oneP
  split
  · have e := wrong_at 4 u.s
    exact ⟨⟨by show _ ≤ (wrongP 4 u.s).at_; rw [e.1]; exact hB.had, by show _ ≤ (wrongP 4 u.s).at_; rw [e.1]; exact hB.vars, by show _ ≤ (wrongP 4 u.s).at_; rw [e.1]; exact hB.ins, by show _ ≤ (wrongP 4 u.s).at_; rw [e.1]; exact hB.outs, by show _ ≤ (wrongP 4 u.s).at_; rw [e.1]; exact hB.cancel, by show (wrongP 4 u.s).vars.length ≤ (wrongP 4 u.s).at_; rw [e.1, e.2]; exact hB.pv⟩, .inl (wrong_err (by decide))⟩
  · rename_i r h
    split
    · have e := wrong_at 5 u.s
      exact ⟨⟨by show _ ≤ (wrongP 5 u.s).at_; rw [e.1]; exact hB.had, by show _ ≤ (wrongP 5 u.s).at_; rw [e.1]; exact hB.vars, by show _ ≤ (wrongP 5 u.s).at_; rw [e.1]; exact hB.ins, by show _ ≤ (wrongP 5 u.s).at_; rw [e.1]; exact hB.outs, by show _ ≤ (wrongP 5 u.s).at_; rw [e.1]; exact hB.cancel, by show (wrongP 5 u.s).vars.length ≤ (wrongP 5 u.s).at_; rw [e.1, e.2]; exact hB.pv⟩, .inl (wrong_err (by decide))⟩
    · obtain ⟨g1, g2, g3, g4, g5⟩ := clause_grow h
      have m1 := (mt_clause h).le
      have m2 := mv_want (K := K) (x := ⟨#[59]⟩) (by decide) r.2
      have e : (stepP u.s).at_ = u.s.at_ + 1 := rfl
      have e2 : (stepP u.s).vars = u.s.vars := rfl
      have m3 := m2.le
      rw [e2] at g5
      have h1 := hB.had
      have h2 := hB.vars
      have h3 := hB.ins
      have h4 := hB.outs
      have h5 := hB.cancel
      have h6 := hB.pv
      refine ⟨⟨?_, ?_, ?_, ?_, ?_, ?_⟩, .inr ?_⟩
      · show (seesP K u.s :: u.had).length ≤ (wantP K ⟨#[59]⟩ r.2).at_
        simp only [List.length_cons]
        omega
      · show r.1.vars.length ≤ (wantP K ⟨#[59]⟩ r.2).at_
        omega
      · show r.1.ins.length ≤ (wantP K ⟨#[59]⟩ r.2).at_
        omega
      · show r.1.outs.length ≤ (wantP K ⟨#[59]⟩ r.2).at_
        omega
      · show r.1.cancel.length ≤ (wantP K ⟨#[59]⟩ r.2).at_
        omega
      · show (wantP K ⟨#[59]⟩ r.2).vars.length ≤ (wantP K ⟨#[59]⟩ r.2).at_
        rw [m2.vars]
        omega
      · show u.s.at_ + 1 ≤ (wantP K ⟨#[59]⟩ r.2).at_
        omega
theorem clauses_stuck : ∀ (n : Nat) (u : Ts), u.s.err ≠ 0 → clausesP K n u = u
  | 0, _, _ => rfl
  | n + 1, u, h => by unfold clausesP; rw [if_neg h]
theorem clauses_take (n : Nat) (u : Ts) (h : u.s.err = 0) (ht : takeB K ⟨#[125]⟩ u.s = true) : clausesP K (n + 1) u = { u with s := stepP u.s } := by rw [clausesP, if_pos h, if_pos ht]
theorem clauses_one (n : Nat) (u : Ts) (h : u.s.err = 0) (ht : takeB K ⟨#[125]⟩ u.s = false) : clausesP K (n + 1) u = clausesP K n (oneP K u) := by rw [clausesP, if_pos h, if_neg (by rw [ht]; decide)]
theorem decls_stuck : ∀ (n : Nat) (s : Ps), s.err ≠ 0 → declsP K n s = s
  | 0, _, _ => rfl
  | n + 1, s, h => by unfold declsP; rw [if_neg h]
theorem decls_take (n : Nat) (s : Ps) (h : s.err = 0) (ht : takeB K ⟨#[102, 114, 111, 109]⟩ s = true) : declsP K (n + 1) s = stepP s := by rw [declsP, if_pos h, if_pos ht]
theorem decls_one (n : Nat) (s : Ps) (h : s.err = 0) (ht : takeB K ⟨#[102, 114, 111, 109]⟩ s = false) : declsP K (n + 1) s = declsP K n (partS K s) := by rw [declsP, if_pos h, if_neg (by rw [ht]; decide)]
/-- No list of the net is longer than the tokens read. -/
structure NtB (s : Ps) : Prop where
  cols : s.cols.length ≤ s.at_
  pls : s.pls.length ≤ s.at_
  tks : s.tks.length ≤ s.at_
theorem part_goes (s : Ps) (hB : NtB s) : NtB (partS K s) ∧ ((partS K s).err ≠ 0 ∨ s.at_ + 1 ≤ (partS K s).at_) := by
  unfold partS
  have h1 := hB.cols
  have h2 := hB.pls
  have h3 := hB.tks
  have e : (stepP s).at_ = s.at_ + 1 := rfl
  split
  · obtain ⟨z, x, m, ez⟩ := colourS_eq (K := K) (stepP s)
    have hl := m.le
    rw [ez]
    refine ⟨⟨?_, ?_, ?_⟩, .inr (by show _ ≤ z.at_; omega)⟩
    · show (s.cols ++ [x]).length ≤ z.at_; simp; omega
    · show z.pls.length ≤ z.at_; rw [m.pls]; show s.pls.length ≤ _; omega
    · show z.tks.length ≤ z.at_; rw [m.tks]; show s.tks.length ≤ _; omega
  split
  · obtain ⟨z, x, m, ez⟩ := placeS_eq (K := K) (stepP s)
    have hl := m.le
    rw [ez]
    refine ⟨⟨?_, ?_, ?_⟩, .inr (by show _ ≤ z.at_; omega)⟩
    · show z.cols.length ≤ z.at_; rw [m.cols]; show s.cols.length ≤ _; omega
    · show (s.pls ++ [x]).length ≤ z.at_; simp; omega
    · show z.tks.length ≤ z.at_; rw [m.tks]; show s.tks.length ≤ _; omega
  split
  · obtain ⟨z, x, m, ez⟩ := taskS_eq (K := K) (stepP s)
    have hl := m.le
    rw [ez]
    refine ⟨⟨?_, ?_, ?_⟩, .inr (by show _ ≤ z.at_; omega)⟩
    · show z.cols.length ≤ z.at_; rw [m.cols]; show s.cols.length ≤ _; omega
    · show z.pls.length ≤ z.at_; rw [m.pls]; show s.pls.length ≤ _; omega
    · show (s.tks ++ [x]).length ≤ z.at_; simp; omega
  · have m := mv_wrong (K := K) 4 s
    have hl := m.le
    exact ⟨⟨by rw [m.cols]; omega, by rw [m.pls]; omega, by rw [m.tks]; omega⟩, .inl (wrong_err (by decide))⟩
end
end Go.Proofs.YtkpjhjoopdbkaaaGreatDoor
