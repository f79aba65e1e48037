/- Joined: Package parse: when, join, split, after. Printed by gen_pbE.py. Package parse: many, cancel, in, out. Printed by gen_pbF.py. Package parse: variable. Printed by gen_pbG.py. -/
import Derived.Test.YtkpjhjoopdbkaaaGreatDoorG18
import Derived.Deep.DeepCutAuto
namespace Go.Proofs.YtkpjhjoopdbkaaaGreatDoor
open Go.RowKit
section
variable {T : List Tok} {en : Int} {g : Nat} {A : Option Addr} {c base : Nat} {w0 : World} {h0 : Hs} {gt mb : Nat} {h : Hs} {L1 : List ColV} {L2 : List PlV} {L3 : List TkV} {k : TkV} {li lo : List ArV} {nm : Nat} {D : DataW Unit} {u : Ts} {w W : World}
/-- A reader of clauses leaves. -/
def TsI (T : List Tok) (en : Int) (g : Nat) (A : Option Addr) (c base : Nat) (w0 : World) (h0 : Hs) (gt mb : Nat) (L1 : List ColV) (L2 : List PlV) (L3 : List TkV) (u : Ts) (w : World) : Prop :=
  ∃ h k li lo nm D, TsAt T en g A c base w0 h0 gt mb h L1 L2 L3 k li lo nm D u w ∧ nm ≤ u.had.length
theorem TsAt.b0 (t : TsAt T en g A c base w0 h0 gt mb h L1 L2 L3 k li lo nm D u w) : w.cell? ⟨gt, 0, none⟩ = some (.pointer (some ⟨g, 0, none⟩)) := row_cell t.box 0 _ rfl
theorem TsAt.ne5 (t : TsAt T en g A c base w0 h0 gt mb h L1 L2 L3 k li lo nm D u w) : gt ≠ g := fun e => t.ap 5 0 (by decide) gt rfl (by rw [e]; rfl)
theorem TsAt.tkr (t : TsAt T en g A c base w0 h0 gt mb h L1 L2 L3 k li lo nm D u w) : TkrAt w gt g := t.b0
theorem TsAt.kb (t : TsAt T en g A c base w0 h0 gt mb h L1 L2 L3 k li lo nm D u w) {Q : World → Prop} (q : HeldH (under w.heap.size) W Q) : HeldH (BX base (tsB g h gt mb k)) W Q := q.mono fun i _ e => by
  rcases e with e | ⟨j, hj⟩
  · exact Nat.lt_of_lt_of_le e t.net.lb
  · exact t.lt j i hj
theorem TsAt.setG (t : TsAt T en g A c base w0 h0 gt mb h L1 L2 L3 k li lo nm D u w) {A2 : Option Addr} {m2 c2 : Nat} {tr : Tr} (hg : HeldH (BX base (tsB g h gt mb k)) w fun W => TrAt W A2 m2 c2 tr) :
    TsAt T en g A c base w0 h0 gt mb h L1 L2 L3 { k with Ag := A2, mg := m2, cg := c2, t := { u.t with guard := tr } } li lo nm D { u with t := { u.t with guard := tr } } (((w.setCell ⟨gt, 3, none⟩ (.int .i64 tr.kind)).setCell ⟨gt, 4, none⟩ (.int .i64 tr.num)).setCell ⟨gt, 5, none⟩ (.slice A2 m2 c2)) := by
  have et := t.et
  obtain ⟨ut, uh, us⟩ := u
  simp only at et
  subst et
  exact t.put ((((AgH.refl (only gt) w).setCell (p := ⟨gt, 3, none⟩) (.inl rfl) _).setCell (p := ⟨gt, 4, none⟩) (.inl rfl) _).setCell (p := ⟨gt, 5, none⟩) (.inl rfl) _) (row_put (row_put (row_put t.box 3 (.int .i64 tr.kind)) 4 (.int .i64 tr.num)) 5 (.slice A2 m2 c2)) rfl rfl rfl rfl rfl rfl rfl rfl rfl hg t.i5 t.i6 t.i10 t.i11 t.i12 t.i13
theorem TsAt.setJ (t : TsAt T en g A c base w0 h0 gt mb h L1 L2 L3 k li lo nm D u w) {x : Int} (hx : I64 x) :
    TsAt T en g A c base w0 h0 gt mb h L1 L2 L3 { k with  t := { u.t with join := x } } li lo nm D { u with t := { u.t with join := x } } (w.setCell ⟨gt, 6, none⟩ (.int .i64 x)) := by
  have et := t.et
  obtain ⟨ut, uh, us⟩ := u
  simp only at et
  subst et
  exact t.put ((AgH.refl (only gt) w).setCell (p := ⟨gt, 6, none⟩) (.inl rfl) _) (row_put t.box 6 (.int .i64 x)) rfl rfl rfl rfl rfl rfl rfl rfl rfl (t.hold.imp fun _ q => q.1) hx t.i6 t.i10 t.i11 t.i12 t.i13
theorem TsAt.setS (t : TsAt T en g A c base w0 h0 gt mb h L1 L2 L3 k li lo nm D u w) {x : Int} (hx : I64 x) :
    TsAt T en g A c base w0 h0 gt mb h L1 L2 L3 { k with  t := { u.t with split := x } } li lo nm D { u with t := { u.t with split := x } } (w.setCell ⟨gt, 7, none⟩ (.int .i64 x)) := by
  have et := t.et
  obtain ⟨ut, uh, us⟩ := u
  simp only at et
  subst et
  exact t.put ((AgH.refl (only gt) w).setCell (p := ⟨gt, 7, none⟩) (.inl rfl) _) (row_put t.box 7 (.int .i64 x)) rfl rfl rfl rfl rfl rfl rfl rfl rfl (t.hold.imp fun _ q => q.1) t.i5 hx t.i10 t.i11 t.i12 t.i13
theorem TsAt.setA (t : TsAt T en g A c base w0 h0 gt mb h L1 L2 L3 k li lo nm D u w) {x : Int} (hx : I64 x) :
    TsAt T en g A c base w0 h0 gt mb h L1 L2 L3 { k with  t := { u.t with after := x } } li lo nm D { u with t := { u.t with after := x } } (w.setCell ⟨gt, 11, none⟩ (.int .i64 x)) := by
  have et := t.et
  obtain ⟨ut, uh, us⟩ := u
  simp only at et
  subst et
  exact t.put ((AgH.refl (only gt) w).setCell (p := ⟨gt, 11, none⟩) (.inl rfl) _) (row_put t.box 11 (.int .i64 x)) rfl rfl rfl rfl rfl rfl rfl rfl rfl (t.hold.imp fun _ q => q.1) t.i5 t.i6 hx t.i11 t.i12 t.i13
theorem TsAt.set0 (t : TsAt T en g A c base w0 h0 gt mb h L1 L2 L3 k li lo nm D u w) {x : Int} (hx : I64 x) :
    TsAt T en g A c base w0 h0 gt mb h L1 L2 L3 { k with  t := { u.t with m0 := x } } li lo nm D { u with t := { u.t with m0 := x } } (w.setCell ⟨gt, 12, none⟩ (.int .i64 x)) := by
  have et := t.et
  obtain ⟨ut, uh, us⟩ := u
  simp only at et
  subst et
  exact t.put ((AgH.refl (only gt) w).setCell (p := ⟨gt, 12, none⟩) (.inl rfl) _) (row_put t.box 12 (.int .i64 x)) rfl rfl rfl rfl rfl rfl rfl rfl rfl (t.hold.imp fun _ q => q.1) t.i5 t.i6 t.i10 hx t.i12 t.i13
theorem TsAt.set1 (t : TsAt T en g A c base w0 h0 gt mb h L1 L2 L3 k li lo nm D u w) {x : Int} (hx : I64 x) :
    TsAt T en g A c base w0 h0 gt mb h L1 L2 L3 { k with  t := { u.t with m1 := x } } li lo nm D { u with t := { u.t with m1 := x } } (w.setCell ⟨gt, 13, none⟩ (.int .i64 x)) := by
  have et := t.et
  obtain ⟨ut, uh, us⟩ := u
  simp only at et
  subst et
  exact t.put ((AgH.refl (only gt) w).setCell (p := ⟨gt, 13, none⟩) (.inl rfl) _) (row_put t.box 13 (.int .i64 x)) rfl rfl rfl rfl rfl rfl rfl rfl rfl (t.hold.imp fun _ q => q.1) t.i5 t.i6 t.i10 t.i11 hx t.i13
theorem TsAt.set2 (t : TsAt T en g A c base w0 h0 gt mb h L1 L2 L3 k li lo nm D u w) {x : Int} (hx : I64 x) :
    TsAt T en g A c base w0 h0 gt mb h L1 L2 L3 { k with  t := { u.t with m2 := x } } li lo nm D { u with t := { u.t with m2 := x } } (w.setCell ⟨gt, 14, none⟩ (.int .i64 x)) := by
  have et := t.et
  obtain ⟨ut, uh, us⟩ := u
  simp only at et
  subst et
  exact t.put ((AgH.refl (only gt) w).setCell (p := ⟨gt, 14, none⟩) (.inl rfl) _) (row_put t.box 14 (.int .i64 x)) rfl rfl rfl rfl rfl rfl rfl rfl rfl (t.hold.imp fun _ q => q.1) t.i5 t.i6 t.i10 t.i11 t.i12 hx
set_option maxHeartbeats 2000000 in
theorem pa_when (w : World) (ht : Hid (TsAt T en g A c base w0 h0 gt mb h L1 L2 L3 k li lo nm D u w)) (hm : nm ≤ u.had.length) :
    Calls Tryz.prog 179 #[.pointer (some ⟨gt, 0, none⟩)] w fun e w' => e = .returned (.tuple #[]) ∧ TsI T en g A c base w0 h0 gt mb L1 L2 L3 ({ u with t := { u.t with guard := (exprP (ktOf T) 0 u.s).1 }, s := (exprP (ktOf T) 0 u.s).2 }) w' := by
  have HM := Lib.hid (mv_expr (K := (ktOf T)) 0 u.s)
  have CX := Lib.hid (pa_expr1 w (Lib.hid ht.out.net.pat))
  obtain ⟨r, hr⟩ : ∃ r, r = exprP (ktOf T) 0 u.s := ⟨_, rfl⟩
  rw [← hr] at HM CX ⊢
  obtain ⟨tr, s'⟩ := r
  have b0 := ht.out.b0
  clear hr
  go_enter Tryz.func179, Tryz.ntmps179
  go_wp2_with fail
  refine CX.out.mono ?_
  rintro e w2 ⟨A2, m2, c2, rfl, hT, hS⟩
  have t2 := ht.out.turn hS HM.out
  have HT2 := Lib.hid t2
  have HG := Lib.hid (ht.out.kb hT)
  have r2 := t2.box
  have c3 := row_cell r2 3 _ rfl
  have f3 := frozen_row (o := 3) r2
  have c4 := row_cell r2 4 _ rfl
  have f4 := frozen_row (o := 4) r2
  have c5 := row_cell r2 5 _ rfl
  have f5 := frozen_row (o := 5) r2
  clear hT hS t2 r2 b0
  go_wp2
  exact bodyPost_end (results_none rfl _ _ _) rfl ⟨rfl, _, _, _, _, _, _, HT2.out.setG HG.out, hm⟩
set_option maxHeartbeats 2000000 in
theorem pa_join (w : World) (ht : Hid (TsAt T en g A c base w0 h0 gt mb h L1 L2 L3 k li lo nm D u w)) (hm : nm ≤ u.had.length) :
    Calls Tryz.prog 180 #[.pointer (some ⟨gt, 0, none⟩)] w fun e w' => e = .returned (.tuple #[]) ∧ TsI T en g A c base w0 h0 gt mb L1 L2 L3 ({ u with t := { u.t with join := kindV (ktOf T) u.s }, s := kindS (ktOf T) u.s }) w' := by
  have HM := Lib.hid (mv_kind (K := (ktOf T)) u.s)
  have CX := Lib.hid (pa_kind gt w (Lib.hid ht.out.net.pat) (Lib.hid ht.out.tkr) (Lib.hid ht.out.ne5))
  have HI := Lib.hid (show I64 (kindV (ktOf T) u.s) by unfold kindV I64; repeat (first | omega | split))
  obtain ⟨v, hv⟩ : ∃ v, v = kindV (ktOf T) u.s := ⟨_, rfl⟩
  obtain ⟨s', hs⟩ : ∃ s', s' = kindS (ktOf T) u.s := ⟨_, rfl⟩
  rw [← hv] at CX HI ⊢
  rw [← hs] at CX HM ⊢
  clear hv hs
  go_enter Tryz.func180, Tryz.ntmps180
  go_wp2_with fail
  refine CX.out.mono ?_
  rintro e w2 ⟨rfl, hS⟩
  have t2 := ht.out.turn hS HM.out
  have HT2 := Lib.hid t2
  have r2 := t2.box
  have c6 := row_cell r2 6 _ rfl
  have f6 := frozen_row (o := 6) r2
  clear hS t2 r2
  go_wp2
  exact bodyPost_end (results_none rfl _ _ _) rfl ⟨rfl, _, _, _, _, _, _, HT2.out.setJ HI.out, hm⟩
set_option maxHeartbeats 2000000 in
theorem pa_split (w : World) (ht : Hid (TsAt T en g A c base w0 h0 gt mb h L1 L2 L3 k li lo nm D u w)) (hm : nm ≤ u.had.length) :
    Calls Tryz.prog 181 #[.pointer (some ⟨gt, 0, none⟩)] w fun e w' => e = .returned (.tuple #[]) ∧ TsI T en g A c base w0 h0 gt mb L1 L2 L3 ({ u with t := { u.t with split := kindV (ktOf T) u.s }, s := kindS (ktOf T) u.s }) w' := by
  have HM := Lib.hid (mv_kind (K := (ktOf T)) u.s)
  have CX := Lib.hid (pa_kind gt w (Lib.hid ht.out.net.pat) (Lib.hid ht.out.tkr) (Lib.hid ht.out.ne5))
  have HI := Lib.hid (show I64 (kindV (ktOf T) u.s) by unfold kindV I64; repeat (first | omega | split))
  obtain ⟨v, hv⟩ : ∃ v, v = kindV (ktOf T) u.s := ⟨_, rfl⟩
  obtain ⟨s', hs⟩ : ∃ s', s' = kindS (ktOf T) u.s := ⟨_, rfl⟩
  rw [← hv] at CX HI ⊢
  rw [← hs] at CX HM ⊢
  clear hv hs
  go_enter Tryz.func181, Tryz.ntmps181
  go_wp2_with fail
  refine CX.out.mono ?_
  rintro e w2 ⟨rfl, hS⟩
  have t2 := ht.out.turn hS HM.out
  have HT2 := Lib.hid t2
  have r2 := t2.box
  have c7 := row_cell r2 7 _ rfl
  have f7 := frozen_row (o := 7) r2
  clear hS t2 r2
  go_wp2
  exact bodyPost_end (results_none rfl _ _ _) rfl ⟨rfl, _, _, _, _, _, _, HT2.out.setS HI.out, hm⟩
set_option maxHeartbeats 2000000 in
theorem pa_after (w : World) (ht : Hid (TsAt T en g A c base w0 h0 gt mb h L1 L2 L3 k li lo nm D u w)) (hm : nm ≤ u.had.length) :
    Calls Tryz.prog 185 #[.pointer (some ⟨gt, 0, none⟩)] w fun e w' => e = .returned (.tuple #[]) ∧ TsI T en g A c base w0 h0 gt mb L1 L2 L3 ({ u with t := { u.t with after := numbV (ktOf T) u.s }, s := numbS (ktOf T) u.s }) w' := by
  have HM := Lib.hid (mv_number (K := (ktOf T)) u.s)
  have CX := Lib.hid (pa_number w (Lib.hid ht.out.net.pat))
  have HI := Lib.hid (show I64 (numbV (ktOf T) u.s) by have := numb_lo (ktOf T) u.s; unfold I64; omega)
  obtain ⟨v, hv⟩ : ∃ v, v = numbV (ktOf T) u.s := ⟨_, rfl⟩
  obtain ⟨s', hs⟩ : ∃ s', s' = numbS (ktOf T) u.s := ⟨_, rfl⟩
  rw [← hv] at CX HI ⊢
  rw [← hs] at CX HM ⊢
  have b0 := ht.out.b0
  clear hv hs
  go_enter Tryz.func185, Tryz.ntmps185
  go_wp2_with fail
  refine CX.out.mono ?_
  rintro e w2 ⟨rfl, hS⟩
  have t2 := ht.out.turn hS HM.out
  have HT2 := Lib.hid t2
  have r2 := t2.box
  have c11 := row_cell r2 11 _ rfl
  have f11 := frozen_row (o := 11) r2
  clear hS t2 r2 b0
  go_wp2
  exact bodyPost_end (results_none rfl _ _ _) rfl ⟨rfl, _, _, _, _, _, _, HT2.out.setA HI.out, hm⟩
end
end Go.Proofs.YtkpjhjoopdbkaaaGreatDoor
namespace Go.Proofs.YtkpjhjoopdbkaaaGreatDoor
open Go.RowKit
theorem arcs_ty : SlTy Tryz.prog 55 61 4 48 := SlTy.mk (z := .agg #[.int .i64 0, .int .i64 0, .int .i64 0, .slice none 0 0]) (by kernel_rfl) (by kernel_rfl) rfl (by decide)
theorem arv_one (k : ArV) : ∀ u ∈ k.cells, u.oneCell' = true := by
  intro u hu
  simp only [ArV.cells, List.mem_cons, List.not_mem_nil, or_false] at hu
  rcases hu with rfl | rfl | rfl | rfl <;> rfl
section
variable {T : List Tok} {en : Int} {g : Nat} {A : Option Addr} {c base : Nat} {w0 : World} {h0 : Hs} {gt mb : Nat} {h : Hs} {L1 : List ColV} {L2 : List PlV} {L3 : List TkV} {k : TkV} {li lo : List ArV} {nm : Nat} {D : DataW Unit} {u : Ts} {w W : World}
theorem TsAt.drew (t : TsAt T en g A c base w0 h0 gt mb h L1 L2 L3 k li lo nm D u w) : TsAt T en g A c base w0 h0 gt mb h L1 L2 L3 k li lo nm D u w.drew := by
  have h1 := t.turn (turned_below t.net.pat (below_drewN' (Below.refl _ w) 1)) (Mv.refl u.s)
  exact h1
set_option maxRecDepth 100000 in
set_option maxHeartbeats 8000000 in
theorem pa_many (w : World) (ht : Hid (TsAt T en g A c base w0 h0 gt mb h L1 L2 L3 k li lo nm D u w)) (hm : nm ≤ u.had.length) :
    Calls Tryz.prog 186 #[.pointer (some ⟨gt, 0, none⟩)] w fun e w' => e = .returned (.tuple #[]) ∧ TsI T en g A c base w0 h0 gt mb L1 L2 L3 ({ u with t := (manyP (ktOf T) u.t u.s).1, s := (manyP (ktOf T) u.t u.s).2 }) w' := by
  obtain ⟨ut, uh, s0⟩ := u
  obtain ⟨x0, HEx0⟩ : ∃ y, Hid (y = numbV (ktOf T) s0) := ⟨_, Lib.hid rfl⟩
  obtain ⟨s1, HEs1⟩ : ∃ y, Hid (y = numbS (ktOf T) s0) := ⟨_, Lib.hid rfl⟩
  obtain ⟨s2, HEs2⟩ : ∃ y, Hid (y = wantP (ktOf T) ⟨#[44]⟩ s1) := ⟨_, Lib.hid rfl⟩
  obtain ⟨x1, HEx1⟩ : ∃ y, Hid (y = numbV (ktOf T) s2) := ⟨_, Lib.hid rfl⟩
  obtain ⟨s3, HEs3⟩ : ∃ y, Hid (y = numbS (ktOf T) s2) := ⟨_, Lib.hid rfl⟩
  obtain ⟨s4, HEs4⟩ : ∃ y, Hid (y = wantP (ktOf T) ⟨#[44]⟩ s3) := ⟨_, Lib.hid rfl⟩
  obtain ⟨x2, HEx2⟩ : ∃ y, Hid (y = numbV (ktOf T) s4) := ⟨_, Lib.hid rfl⟩
  obtain ⟨s5, HEs5⟩ : ∃ y, Hid (y = numbS (ktOf T) s4) := ⟨_, Lib.hid rfl⟩
  have HR := Lib.hid (show manyP (ktOf T) ut s0 = ({ ut with m0 := x0, m1 := x1, m2 := x2 }, s5) by unfold manyP; rw [HEs5.out, HEx2.out, HEs4.out, HEs3.out, HEx1.out, HEs2.out, HEs1.out, HEx0.out])
  have HM1 := Lib.hid (show Mv (ktOf T) s0 s1 by rw [HEs1.out]; exact mv_number _)
  have HM2 := Lib.hid (show Mv (ktOf T) s1 s2 by rw [HEs2.out]; exact mv_want (by decide) _)
  have HM3 := Lib.hid (show Mv (ktOf T) s2 s3 by rw [HEs3.out]; exact mv_number _)
  have HM4 := Lib.hid (show Mv (ktOf T) s3 s4 by rw [HEs4.out]; exact mv_want (by decide) _)
  have HM5 := Lib.hid (show Mv (ktOf T) s4 s5 by rw [HEs5.out]; exact mv_number _)
  have HI0 := Lib.hid (show I64 x0 by rw [HEx0.out]; have := numb_lo (ktOf T) s0; unfold I64; omega)
  have HI1 := Lib.hid (show I64 x1 by rw [HEx1.out]; have := numb_lo (ktOf T) s2; unfold I64; omega)
  have HI2 := Lib.hid (show I64 x2 by rw [HEx2.out]; have := numb_lo (ktOf T) s4; unfold I64; omega)
  have CN0 := Lib.hid (fun W (hW : PAt T en g A c h s0 W) => (show Calls Tryz.prog 120 #[.pointer (some ⟨g, 0, none⟩)] W fun e w' => e = .returned (.int .i64 x0) ∧ Turned T en g A c h s1 W w' by rw [HEx0.out, HEs1.out]; exact pa_number W (Lib.hid hW)))
  have CW1 := Lib.hid (fun W (hW : PAt T en g A c h s1 W) => (show Calls Tryz.prog 74 #[.pointer (some ⟨g, 0, none⟩), .string ⟨#[44]⟩] W fun e w' => e = .returned (.tuple #[]) ∧ Turned T en g A c h s2 W w' by rw [HEs2.out]; exact pa_want _ (by decide) W (Lib.hid hW)))
  have CN1 := Lib.hid (fun W (hW : PAt T en g A c h s2 W) => (show Calls Tryz.prog 120 #[.pointer (some ⟨g, 0, none⟩)] W fun e w' => e = .returned (.int .i64 x1) ∧ Turned T en g A c h s3 W w' by rw [HEx1.out, HEs3.out]; exact pa_number W (Lib.hid hW)))
  have CW2 := Lib.hid (fun W (hW : PAt T en g A c h s3 W) => (show Calls Tryz.prog 74 #[.pointer (some ⟨g, 0, none⟩), .string ⟨#[44]⟩] W fun e w' => e = .returned (.tuple #[]) ∧ Turned T en g A c h s4 W w' by rw [HEs4.out]; exact pa_want _ (by decide) W (Lib.hid hW)))
  have CN2 := Lib.hid (fun W (hW : PAt T en g A c h s4 W) => (show Calls Tryz.prog 120 #[.pointer (some ⟨g, 0, none⟩)] W fun e w' => e = .returned (.int .i64 x2) ∧ Turned T en g A c h s5 W w' by rw [HEx2.out, HEs5.out]; exact pa_number W (Lib.hid hW)))
  obtain ⟨Z, HZ⟩ : ∃ y, Hid (y = manyP (ktOf T) ut s0) := ⟨_, Lib.hid rfl⟩
  have HR2 := Lib.hid (HZ.out.trans HR.out)
  show Calls _ _ _ _ fun e w' => e = .returned (.tuple #[]) ∧ TsI T en g A c base w0 h0 gt mb L1 L2 L3 ⟨(manyP (ktOf T) ut s0).1, uh, (manyP (ktOf T) ut s0).2⟩ w'
  rw [← HZ.out]
  have HD := Lib.hid ht.out.drew
  have b0 := ht.out.b0
  have bd := HD.out.b0
  have HMU := Lib.hid hm
  clear hm
  go_enter Tryz.func186, Tryz.ntmps186
  go_wp2_with fail
  refine wp_loop_rounds 4 ?_
  rw [rounds_succ]
  go_wp2_with fail
  go_region_with (go_at_call 120; refine (CN0.out _ HD.out.net.pat).mono ?_; rintro e wr0 ⟨rfl, hS⟩; have t2 := HD.out.turn hS HM1.out; have HT0 := Lib.hid t2; have r2 := t2.box; have c12 := row_cell r2 12 _ rfl; have f12 := frozen_row (o := 12) r2; clear hS t2 r2)
  clear b0 bd c12 f12
  have HTS1 := Lib.hid (HT0.out.set0 HI0.out)
  obtain ⟨wn0, hwn0⟩ : ∃ y, y = wr0.setCell ⟨gt, 12, none⟩ (.int .i64 x0) := ⟨_, rfl⟩
  rw [← hwn0] at HTS1 ⊢
  clear hwn0 HT0
  have b0 := HTS1.out.b0
  go_wp2_with fail
  rw [rounds_succ]
  go_wp2_with fail
  refine (CW1.out _ HTS1.out.net.pat).mono ?_
  rintro e wq1 ⟨rfl, hS⟩
  have HTW1 := Lib.hid (HTS1.out.turn hS HM2.out)
  have HD1 := Lib.hid HTW1.out.drew
  have b0 := HTW1.out.b0
  have bd := HD1.out.b0
  clear hS
  go_wp2_with fail
  go_region_with (go_at_call 120; refine (CN1.out _ HD1.out.net.pat).mono ?_; rintro e wr1 ⟨rfl, hS⟩; have t2 := HD1.out.turn hS HM3.out; have HT1 := Lib.hid t2; have r2 := t2.box; have c13 := row_cell r2 13 _ rfl; have f13 := frozen_row (o := 13) r2; clear hS t2 r2)
  clear b0 bd c13 f13
  have HTS2 := Lib.hid (HT1.out.set1 HI1.out)
  obtain ⟨wn1, hwn1⟩ : ∃ y, y = wr1.setCell ⟨gt, 13, none⟩ (.int .i64 x1) := ⟨_, rfl⟩
  rw [← hwn1] at HTS2 ⊢
  clear hwn1 HT1
  have b0 := HTS2.out.b0
  go_wp2_with fail
  rw [rounds_succ]
  go_wp2_with fail
  refine (CW2.out _ HTS2.out.net.pat).mono ?_
  rintro e wq2 ⟨rfl, hS⟩
  have HTW2 := Lib.hid (HTS2.out.turn hS HM4.out)
  have HD2 := Lib.hid HTW2.out.drew
  have b0 := HTW2.out.b0
  have bd := HD2.out.b0
  clear hS
  go_wp2_with fail
  go_region_with (go_at_call 120; refine (CN2.out _ HD2.out.net.pat).mono ?_; rintro e wr2 ⟨rfl, hS⟩; have t2 := HD2.out.turn hS HM5.out; have HT2 := Lib.hid t2; have r2 := t2.box; have c14 := row_cell r2 14 _ rfl; have f14 := frozen_row (o := 14) r2; clear hS t2 r2)
  clear b0 bd c14 f14
  have HTS3 := Lib.hid (HT2.out.set2 HI2.out)
  obtain ⟨wn2, hwn2⟩ : ∃ y, y = wr2.setCell ⟨gt, 14, none⟩ (.int .i64 x2) := ⟨_, rfl⟩
  rw [← hwn2] at HTS3 ⊢
  clear hwn2 HT2
  have b0 := HTS3.out.b0
  go_wp2_with fail
  rw [rounds_succ]
  go_wp2
  refine bodyPost_end (results_none rfl _ _ _) rfl ⟨rfl, ?_⟩
  rw [HR2.out]
  exact ⟨_, _, _, _, _, _, HTS3.out, HMU.out⟩
set_option maxRecDepth 100000 in
set_option maxHeartbeats 8000000 in
theorem pa_in (w : World) (ht : Hid (TsAt T en g A c base w0 h0 gt mb h L1 L2 L3 k li lo nm D u w)) (hm : nm ≤ u.had.length) (hp : Hid (u.s.pls.length ≤ 1000000)) (hb : Hid (li.length ≤ 1000000)) :
    Calls Tryz.prog 182 #[.pointer (some ⟨gt, 0, none⟩)] w fun e w' => e = .returned (.tuple #[]) ∧ TsI T en g A c base w0 h0 gt mb L1 L2 L3 ({ u with t := { u.t with ins := u.t.ins ++ [(arcP (ktOf T) u.s).1] }, s := (arcP (ktOf T) u.s).2 }) w' := by
  have HM := Lib.hid (mv_arc (K := (ktOf T)) u.s)
  have HPI := Lib.hid (show I64 (arcP (ktOf T) u.s).1.place from (show I64 (knownV (ktOf T) (findPl u.s) u.s) from known_lo u.s (by rw [List.length_map]; exact hp.out)))
  have CX := Lib.hid (fun W (hW : TsAt T en g A c base w0 h0 gt mb h L1 L2 L3 k li lo nm D u W) => pa_arc gt W (Lib.hid hW.net) hp (Lib.hid hW.tkr) (Lib.hid hW.ne5))
  obtain ⟨r, hr⟩ : ∃ r, r = arcP (ktOf T) u.s := ⟨_, rfl⟩
  rw [← hr] at HM CX HPI ⊢
  obtain ⟨ar, s'⟩ := r
  clear hr
  have HMU := Lib.hid hm
  clear hm
  have HD := Lib.hid ht.out.drew
  have q0 : w.cell? ⟨gt, 8, none⟩ = some (.slice k.Ai k.ni k.ci) := row_cell ht.out.box 8 _ rfl
  go_enter Tryz.func182, Tryz.ntmps182
  go_region_law (first
    | (refine step_append_sl arcs_ty rfl (.tmp 7) (.tmp 10) rfl w0.heap.size rfl (by exact HT5.out.ri.alloc _) rfl (by exact Sl.new _ _ [.int .i64 ar.place, .int .i64 ar.expr.kind, .int .i64 ar.expr.num, .slice A2 m2 c2] 1 4 rfl (by omega)) (arv_one ⟨ar, A2, m2, c2⟩) (by have := hb.out; omega) (by have := hb.out; omega) (by have := HL5.out; simp; omega) ?_; intro v9 w9 hown9 hg9 hat9; obtain ⟨A4, c4, rfl, _, _⟩ := own_form hown9
       have HS9 := Lib.hid (HT5.out.push_i _ ⟨ar, A2, m2, c2⟩ HX5.out hown9 hg9 hat9)
       have r9 := row_keep' (row_alloc HT5.out.box _) ((AgH.refl (fun i => k.Vi.ownBlock = some i) _).grown hg9 fun i e _ => e) (HT5.out.ne_ (i := 5) (j := 8) (by decide) rfl)
       have o9 := row_cell r9 8 _ rfl
       have f9 := frozen_row (o := 8) r9
       clear hown9 hg9 hat9 r9)
    | (go_simp; go_at_call 205; refine (CX.out w.drew HD.out).mono ?_; rintro e w5 ⟨A2, m2, c2, rfl, hTr, hS⟩
       have HT5 := Lib.hid (HD.out.turn hS HM.out)
       have HL5 := Lib.hid (show w0.heap.size ≤ w5.heap.size from HT5.out.ag.size)
       have HX5 := Lib.hid ((HD.out.kb hTr).imp (R := (ArV.mk ar A2 m2 c2).at_) fun W q => ⟨q, HPI.out⟩)
       have q5 : w5.cell? ⟨gt, 8, none⟩ = some (.slice k.Ai k.ni k.ci) := row_cell HT5.out.box 8 _ rfl
       have q5a := fun o => cell_kept (alrB w5 o) q5
       clear hTr hS))
  all_goals
    go_wp2
    exact bodyPost_end (results_none rfl _ _ _) rfl ⟨rfl, _, _, _, _, _, _, HS9.out, HMU.out⟩
set_option maxRecDepth 100000 in
set_option maxHeartbeats 8000000 in
theorem pa_out (w : World) (ht : Hid (TsAt T en g A c base w0 h0 gt mb h L1 L2 L3 k li lo nm D u w)) (hm : nm ≤ u.had.length) (hp : Hid (u.s.pls.length ≤ 1000000)) (hb : Hid (lo.length ≤ 1000000)) :
    Calls Tryz.prog 183 #[.pointer (some ⟨gt, 0, none⟩)] w fun e w' => e = .returned (.tuple #[]) ∧ TsI T en g A c base w0 h0 gt mb L1 L2 L3 ({ u with t := { u.t with outs := u.t.outs ++ [(arcP (ktOf T) u.s).1] }, s := (arcP (ktOf T) u.s).2 }) w' := by
  have HM := Lib.hid (mv_arc (K := (ktOf T)) u.s)
  have HPI := Lib.hid (show I64 (arcP (ktOf T) u.s).1.place from (show I64 (knownV (ktOf T) (findPl u.s) u.s) from known_lo u.s (by rw [List.length_map]; exact hp.out)))
  have CX := Lib.hid (fun W (hW : TsAt T en g A c base w0 h0 gt mb h L1 L2 L3 k li lo nm D u W) => pa_arc gt W (Lib.hid hW.net) hp (Lib.hid hW.tkr) (Lib.hid hW.ne5))
  obtain ⟨r, hr⟩ : ∃ r, r = arcP (ktOf T) u.s := ⟨_, rfl⟩
  rw [← hr] at HM CX HPI ⊢
  obtain ⟨ar, s'⟩ := r
  clear hr
  have HMU := Lib.hid hm
  clear hm
  have HD := Lib.hid ht.out.drew
  have q0 : w.cell? ⟨gt, 9, none⟩ = some (.slice k.Ao k.no k.co) := row_cell ht.out.box 9 _ rfl
  go_enter Tryz.func183, Tryz.ntmps183
  go_region_law (first
    | (refine step_append_sl arcs_ty rfl (.tmp 7) (.tmp 10) rfl w0.heap.size rfl (by exact HT5.out.ro.alloc _) rfl (by exact Sl.new _ _ [.int .i64 ar.place, .int .i64 ar.expr.kind, .int .i64 ar.expr.num, .slice A2 m2 c2] 1 4 rfl (by omega)) (arv_one ⟨ar, A2, m2, c2⟩) (by have := hb.out; omega) (by have := hb.out; omega) (by have := HL5.out; simp; omega) ?_; intro v9 w9 hown9 hg9 hat9; obtain ⟨A4, c4, rfl, _, _⟩ := own_form hown9
       have HS9 := Lib.hid (HT5.out.push_o _ ⟨ar, A2, m2, c2⟩ HX5.out hown9 hg9 hat9)
       have r9 := row_keep' (row_alloc HT5.out.box _) ((AgH.refl (fun i => k.Vo.ownBlock = some i) _).grown hg9 fun i e _ => e) (HT5.out.ne_ (i := 5) (j := 9) (by decide) rfl)
       have o9 := row_cell r9 9 _ rfl
       have f9 := frozen_row (o := 9) r9
       clear hown9 hg9 hat9 r9)
    | (go_simp; go_at_call 205; refine (CX.out w.drew HD.out).mono ?_; rintro e w5 ⟨A2, m2, c2, rfl, hTr, hS⟩
       have HT5 := Lib.hid (HD.out.turn hS HM.out)
       have HL5 := Lib.hid (show w0.heap.size ≤ w5.heap.size from HT5.out.ag.size)
       have HX5 := Lib.hid ((HD.out.kb hTr).imp (R := (ArV.mk ar A2 m2 c2).at_) fun W q => ⟨q, HPI.out⟩)
       have q5 : w5.cell? ⟨gt, 9, none⟩ = some (.slice k.Ao k.no k.co) := row_cell HT5.out.box 9 _ rfl
       have q5a := fun o => cell_kept (alrB w5 o) q5
       clear hTr hS))
  all_goals
    go_wp2
    exact bodyPost_end (results_none rfl _ _ _) rfl ⟨rfl, _, _, _, _, _, _, HS9.out, HMU.out⟩
set_option maxRecDepth 100000 in
set_option maxHeartbeats 8000000 in
theorem pa_cancel (w : World) (ht : Hid (TsAt T en g A c base w0 h0 gt mb h L1 L2 L3 k li lo nm D u w)) (hm : nm ≤ u.had.length) (hp : Hid (u.s.pls.length ≤ 1000000)) (hb : Hid (u.t.cancel.length ≤ 1000000)) :
    Calls Tryz.prog 184 #[.pointer (some ⟨gt, 0, none⟩)] w fun e w' => e = .returned (.tuple #[]) ∧ TsI T en g A c base w0 h0 gt mb L1 L2 L3 ({ u with t := { u.t with cancel := u.t.cancel ++ [knownV (ktOf T) (findPl u.s) u.s] }, s := knownS (ktOf T) (findPl u.s) u.s }) w' := by
  have HM := Lib.hid (mv_known (K := (ktOf T)) (findPl u.s) u.s)
  have HPI := Lib.hid (show I64 (knownV (ktOf T) (findPl u.s) u.s) from known_lo u.s (by rw [List.length_map]; exact hp.out))
  have CX := Lib.hid (fun W (hW : TsAt T en g A c base w0 h0 gt mb h L1 L2 L3 k li lo nm D u W) => pa_known 73 (findPl u.s) W (Lib.hid hW.net.pat) (Lib.hid (hW.net.fpl (AgH.refl _ _))))
  obtain ⟨x, hx⟩ : ∃ r, r = knownV (ktOf T) (findPl u.s) u.s := ⟨_, rfl⟩
  obtain ⟨s', hs⟩ : ∃ r, r = knownS (ktOf T) (findPl u.s) u.s := ⟨_, rfl⟩
  rw [← hx] at CX HPI ⊢
  rw [← hs] at CX HM ⊢
  clear hx hs
  have HMU := Lib.hid hm
  clear hm
  have HD := Lib.hid ht.out.drew
  have q0 : w.cell? ⟨gt, 10, none⟩ = some (.slice k.Ac k.nc k.cc) := row_cell ht.out.box 10 _ rfl
  have b0 := ht.out.b0
  go_enter Tryz.func184, Tryz.ntmps184
  go_region_law (first
    | (refine step_append_sl ints_ty1 rfl (.tmp 7) (.tmp 18) rfl w0.heap.size rfl (by exact HRC5.out.alloc _) rfl (by exact Sl.new _ _ [.int .i64 x] 1 1 rfl (by omega)) (by intro u hu; rw [List.mem_singleton.1 hu]; rfl) (by have := hb.out; omega) (by have := hb.out; omega) (by have := HL5.out; simp; omega) ?_; intro v9 w9 hown9 hg9 hat9; obtain ⟨A4, c4, rfl, _, _⟩ := own_form hown9
       have HS9 := Lib.hid (HT5.out.push_c _ x HPI.out hown9 hg9 hat9)
       have r9 := row_keep' (row_alloc HT5.out.box _) ((AgH.refl (fun i => k.Vc.ownBlock = some i) _).grown hg9 fun i e _ => e) (HT5.out.ne_ (i := 5) (j := 10) (by decide) rfl)
       have o9 := row_cell r9 10 _ rfl
       have f9 := frozen_row (o := 10) r9
       clear hown9 hg9 hat9 r9)
    | (go_simp; go_at_call 72; refine (CX.out w.drew HD.out).mono ?_; rintro e w5 ⟨rfl, hS⟩
       have HT5 := Lib.hid (HD.out.turn hS HM.out)
       have HL5 := Lib.hid (show w0.heap.size ≤ w5.heap.size from HT5.out.ag.size)
       have HRC5 := Lib.hid (show w5.ownsRow w0.heap.size 3 1 k.Vc u.t.cancel.length (intCells u.t.cancel) from HT5.out.rc)
       have q5 : w5.cell? ⟨gt, 10, none⟩ = some (.slice k.Ac k.nc k.cc) := row_cell HT5.out.box 10 _ rfl
       have q5a := fun o => cell_kept (alrB w5 o) q5
       clear hS))
  all_goals
    go_wp2
    exact bodyPost_end (results_none rfl _ _ _) rfl ⟨rfl, _, _, _, _, _, _, HS9.out, HMU.out⟩
end
end Go.Proofs.YtkpjhjoopdbkaaaGreatDoor
namespace Go.Proofs.YtkpjhjoopdbkaaaGreatDoor
open Go.RowKit
theorem vars_ty : SlTy Tryz.prog 54 132 2 24 := SlTy.mk (z := .agg #[.string ⟨#[]⟩, .int .i64 0]) (by kernel_rfl) (by kernel_rfl) rfl (by decide)
theorem vr_one (k : Vr) : ∀ u ∈ k.cells, u.oneCell' = true := by
  intro u hu
  simp only [Vr.cells, List.mem_cons, List.not_mem_nil, or_false] at hu
  rcases hu with rfl | rfl <;> rfl
section
variable {T : List Tok} {en : Int} {g : Nat} {A : Option Addr} {c base : Nat} {w0 : World} {h0 : Hs} {gt mb : Nat} {h : Hs} {L1 : List ColV} {L2 : List PlV} {L3 : List TkV} {k : TkV} {li lo : List ArV} {nm : Nat} {D : DataW Unit} {u : Ts} {w W : World}
set_option maxRecDepth 100000 in
set_option maxHeartbeats 16000000 in
theorem pa_variable (w : World) (ht : Hid (TsAt T en g A c base w0 h0 gt mb h L1 L2 L3 k li lo nm D u w)) (hm : nm ≤ u.had.length) (hc : Hid (u.s.cols.length ≤ 1000000)) (hv : Hid (u.t.vars.length ≤ 1000000)) (hw : Hid (u.s.vars.length ≤ 1000000)) :
    Calls Tryz.prog 178 #[.pointer (some ⟨gt, 0, none⟩)] w fun e w' => e = .returned (.tuple #[]) ∧ TsI T en g A c base w0 h0 gt mb L1 L2 L3 ({ u with t := (varP (ktOf T) u.t u.s).1, s := (varP (ktOf T) u.t u.s).2 }) w' := by
  have HMU := Lib.hid hm
  clear hm
  have hp := Lib.hid ht.out.net.pat
  obtain ⟨nv, hnv⟩ : ∃ x, x = nameV (ktOf T) u.s := ⟨_, rfl⟩
  obtain ⟨s1, hs1⟩ : ∃ x, x = freshS (ktOf T) (hadT (findVar u.s)) u.s := ⟨_, rfl⟩
  obtain ⟨s2, hs2⟩ : ∃ x, x = wantP (ktOf T) ⟨#[58]⟩ s1 := ⟨_, rfl⟩
  obtain ⟨kv, hkv⟩ : ∃ x, x = knownV (ktOf T) (findCol s2) s2 := ⟨_, rfl⟩
  obtain ⟨s3, hs3⟩ : ∃ x, x = knownS (ktOf T) (findCol s2) s2 := ⟨_, rfl⟩
  have HVP := Lib.hid (show varP (ktOf T) u.t u.s = ({ u.t with vars := u.t.vars ++ [⟨nv, kv⟩] }, { s3 with vars := s3.vars ++ [nv] }) by unfold varP; rw [hs3, hkv, hs2, hs1, hnv])
  have HM1 := Lib.hid (show Mv (ktOf T) u.s s1 by rw [hs1]; exact mv_fresh _ _)
  have HM2 := Lib.hid (show Mv (ktOf T) s1 s2 by rw [hs2]; exact mv_want (by decide) _)
  have HM3 := Lib.hid (show Mv (ktOf T) s2 s3 by rw [hs3]; exact mv_known _ _)
  have HKV := Lib.hid (show I64 kv by rw [hkv]; exact known_lo s2 (by rw [List.length_map, (HM1.out.trans HM2.out).cols]; exact hc.out))
  obtain ⟨R, hR⟩ : ∃ x, x = varP (ktOf T) u.t u.s := ⟨_, rfl⟩
  rw [← hR] at HVP ⊢
  obtain ⟨gb, hgb⟩ : ∃ x, x = w.heap.size := ⟨_, rfl⟩
  have HGB := Lib.hid hgb
  have HGN := Lib.hid (show gb ≠ g by have := hp.out.blk.lt; omega)
  have CI := Lib.hid (fun W (e : W.heap.size = gb) => (show Calls Tryz.prog 126 #[.func (.func 121) #[.pointer (some ⟨g, 0, none⟩)] #[]] W fun e w' => e = .returned (.func (.func 161) #[] #[.pointer (some ⟨gb, 0, none⟩)]) ∧ Below W.heap.size W w' ∧ FBox w' gb g 121 ∧ gb < w'.heap.size by
    rw [← e]; exact pa_is 121 W))
  have CF := Lib.hid (fun W (hW : PAt T en g A c h u.s W) (hb : FBox W gb g 121) => (show Calls Tryz.prog 125 #[.pointer (some ⟨g, 0, none⟩), .func (.func 161) #[] #[.pointer (some ⟨gb, 0, none⟩)]] W fun e w' => e = .returned (.string nv) ∧ Turned T en g A c h s1 W w' by
    rw [hnv, hs1]; exact pa_fresh_is 121 gb (findVar u.s) W (Lib.hid hW) (Lib.hid (finds_var W)) (Lib.hid hb) HGN.out))
  have C2 := Lib.hid (fun W (hW : PAt T en g A c h s1 W) => (show Calls Tryz.prog 74 #[.pointer (some ⟨g, 0, none⟩), .string ⟨#[58]⟩] W fun e w' => e = .returned (.tuple #[]) ∧ Turned T en g A c h s2 W w' by
    rw [hs2]; exact pa_want ⟨#[58]⟩ (by decide) W (Lib.hid hW)))
  have CK := Lib.hid (fun W (hW : TsAt T en g A c base w0 h0 gt mb h L1 L2 L3 k li lo nm D { u with s := s2 } W) => (show Calls Tryz.prog 72 #[.pointer (some ⟨g, 0, none⟩), .func (.func 127) #[.pointer (some ⟨g, 0, none⟩)] #[]] W fun e w' => e = .returned (.int .i64 kv) ∧ Turned T en g A c h s3 W w' by
    rw [hkv, hs3]; exact pa_known 127 (findCol s2) W (Lib.hid hW.net.pat) (Lib.hid (hW.net.fcol (AgH.refl _ _)))))
  have HD := Lib.hid ht.out.drew
  have b0 := ht.out.b0
  clear hnv hs1 hs2 hs3 hkv hR hgb
  go_enter Tryz.func178, Tryz.ntmps178
  go_upto_region 0 with fail
  go_cut [2] (fun v2 wx => v2 = .string nv ∧ Hid (TsAt T en g A c base w0 h0 gt mb h L1 L2 L3 k li lo nm D { u with s := s1 } wx))
  case first =>
    go_region_with (first
      | (go_at_call 126; refine (CI.out w.drew HGB.out.symm).mono ?_; rintro e w1 ⟨rfl, hB1, hF1, _⟩
         have HT1 := Lib.hid (HD.out.turn (turned_below HD.out.net.pat hB1) (Mv.refl _))
         have HF1 := Lib.hid hF1
         have b1 := HT1.out.b0
         clear hB1 hF1)
      | (go_at_call 125; refine (CF.out w1 HT1.out.net.pat HF1.out).mono ?_; rintro e w2 ⟨rfl, hS⟩
         have HT2 := Lib.hid (HT1.out.turn hS HM1.out)
         clear hS))
    all_goals
      go_wp2_with fail
      go_meet
      exact ⟨rfl, HT2⟩
  case rest =>
    obtain ⟨rfl, HT2⟩ := hcut
    have b2 := HT2.out.b0
    clear CI CF b0
    go_wp2_with fail
    refine (C2.out wc HT2.out.net.pat).mono ?_
    rintro e w3 ⟨rfl, hS⟩
    have HT3 := Lib.hid (HT2.out.turn hS HM2.out)
    have HD3 := Lib.hid HT3.out.drew
    have b3 := HT3.out.b0
    clear hS b2
    go_upto_region 2 with fail
    go_cut [3] (fun v3 wx => v3 = .int .i64 kv ∧ Hid (TsAt T en g A c base w0 h0 gt mb h L1 L2 L3 k li lo nm D { u with s := s3 } wx))
    case first =>
      go_region_with (go_at_call 72; refine (CK.out w3.drew HD3.out).mono ?_; rintro e w4 ⟨rfl, hS⟩; have HT4 := Lib.hid (HD3.out.turn hS HM3.out); clear hS)
      all_goals
        go_wp2_with fail
        go_meet
        exact ⟨rfl, HT4⟩
    case rest =>
    obtain ⟨rfl, HT4⟩ := hcut
    obtain ⟨w4, hw4⟩ : ∃ y, Hid (y = wc) := ⟨_, Lib.hid rfl⟩
    rw [← hw4.out] at HT4 ⊢
    clear b3
    have t4 := HT4.out
    have b4 := t4.b0
    have q4 : w4.cell? ⟨gt, 2, none⟩ = some (.slice k.Av k.nv k.cv) := row_cell t4.box 2 _ rfl
    have HL4 := Lib.hid (show w0.heap.size ≤ w4.heap.size from t4.ag.size)
    have HRV4 := Lib.hid (show w4.ownsRow w0.heap.size 132 2 k.Vv u.t.vars.length (u.t.vars.flatMap Vr.cells) from t4.rv)
    clear t4
    go_upto_region 4 with (at_builtin; refine wpList_append_sl vars_ty rfl (.tmp 35) (.tmp 39) rfl w0.heap.size rfl (by exact HRV4.out.alloc _) rfl (by exact Sl.new _ _ [.string nv, .int .i64 kv] 1 2 rfl (by omega)) (vr_one ⟨nv, kv⟩) (by have := hv.out; omega) (by have := hv.out; omega) (by have := HL4.out; simp; omega) ?_; intro v9 w9 hown9 hg9 hat9; obtain ⟨A4, c4, rfl, _, _⟩ := own_form hown9; have HS9 := Lib.hid (HT4.out.push_v _ ⟨nv, kv⟩ HKV.out hown9 hg9 hat9); have r9 := row_keep' (row_alloc HT4.out.box _) ((AgH.refl (fun i => k.Vv.ownBlock = some i) _).grown hg9 fun i e _ => e) (HT4.out.ne_ (i := 5) (j := 7) (by decide) rfl); have o9 := row_cell r9 2 _ rfl; have f9 := frozen_row (o := 2) r9; clear hown9 hg9 hat9 r9)
    obtain ⟨w10, hw10⟩ : ∃ y, y = w9.setCell ⟨gt, 2, none⟩ (.slice A4 (u.t.vars.length + 1) c4) := ⟨_, rfl⟩
    rw [← hw10] at HS9 ⊢
    clear hw10 o9 f9 b4 q4
    have HDX := Lib.hid HS9.out.drew
    have x0 := HS9.out.b0
    have x0a := fun o => cell_kept (alrB w10 o) x0
    have x4 := HS9.out.net.blk.c10
    have x4a := fun o => cell_kept (alrB w10 o) x4
    have HR49 := Lib.hid (show w10.ownsRow base 9 1 h.V4 s3.vars.length (strCells s3.vars) from HS9.out.net.r4)
    have HGB4 := Lib.hid HS9.out.net.lb
    have HSV := Lib.hid (show s3.vars.length ≤ 1000000 by rw [((HM1.out.trans HM2.out).trans HM3.out).vars]; exact hw.out)
    go_region_law (first
      | (refine step_append_sl strs_ty rfl (.tmp 54) (.tmp 56) rfl base rfl (by first | exact own_drew (HR49.out.alloc _) | exact (own_drew HR49.out).alloc _ | exact HR49.out.alloc _) rfl (by exact Sl.new _ _ [.string nv] 1 1 rfl (by omega)) (by intro u hu; rw [List.mem_singleton.1 hu]; rfl) (by have := HSV.out; omega) (by have := HSV.out; omega) (by have := HGB4.out; simp; omega) ?_; intro v11 w11 hown9 hg9 hat9; obtain ⟨A5, c5, rfl, _, _⟩ := own_form hown9
         have P9 := (HDX.out.net.blk.below (alrB _ _)).keep ((AgH.refl _ _).grown (H := fun i => h.V4.ownBlock = some i) hg9 fun i e _ => e) HDX.out.net.ne4
         have rb := row_keep' (row_alloc HDX.out.box _) ((AgH.refl (fun i => h.V4.ownBlock = some i) _).grown hg9 fun i e _ => e) (HDX.out.ne_ (i := 5) (j := 4) (by decide) rfl)
         have ob := row_cell rb 0 _ rfl
         have o9 := P9.c10
         have f9 := P9.froz 10
         have HST := Lib.hid (HDX.out.net.push4 _ nv hown9 hg9 hat9)
         have HAT := Lib.hid hat9
         clear hown9 hg9 hat9 P9 rb))
    all_goals
      go_wp2
      refine bodyPost_end (results_none rfl _ _ _) rfl ⟨rfl, ?_⟩
      obtain ⟨N9, a9, sub9⟩ := HST.out
      rw [HVP.out]
      refine ⟨_, _, _, _, _, _, HDX.out.var4 N9 a9 sub9 rfl rfl rfl ?_, HMU.out⟩
      intro b hb
      rcases HAT.out with q | q
      · exact .inl (q.symm.trans hb)
      · right
        have e : (w10.alloc (.cells #[.string nv] 9)).heap.size = w10.heap.size + 1 := World.size_alloc _ _
        have q2 := hb.symm.trans q
        injection q2 with q2
        have e2 : w10.drew.heap.size = w10.heap.size := rfl
        first
          | omega
          | (simp at q2; omega)
end
end Go.Proofs.YtkpjhjoopdbkaaaGreatDoor
