/- Joined: Plain laws of the parser: it goes on, within the tokens. Package parse: here, wrong, next, sees, take, want, name. Printed by gen_paA.py. Package parse: sees, take, want, name. Printed by gen_paB.py. -/
import Derived.Test.YtkpjhjoopdbkaaaGreatDoorG04
import Derived.Test.YtkpjhjoopdbkaaaGreatDoorG06
import Derived.BigQuiet
import Derived.Deep.QuietTactic
import Derived.Handy
import Derived.Deep.RegionHeld3
namespace Go.Proofs.YtkpjhjoopdbkaaaGreatDoor
section
variable {K : List Kt} {s : Ps}
theorem next_stuck (h : s.err ≠ 0) : nextP K s = (0, ByteArray.empty) := by unfold nextP; rw [if_neg h]
theorem next_lt (h : (nextP K s).1 ≠ 0) : s.err = 0 ∧ s.at_ < K.length := by
  unfold nextP at h
  split at h
  · rename_i h0
    refine ⟨h0, ?_⟩
    rcases Nat.lt_or_ge s.at_ K.length with h1 | h1
    · exact h1
    · rw [List.getD, List.getElem?_eq_none h1] at h; exact absurd rfl h
  · exact absurd rfl h
theorem sees_lt (h : seesP K s ≠ ByteArray.empty) : s.err = 0 ∧ s.at_ < K.length := by
  unfold seesP at h
  split at h
  · rename_i h0
    refine next_lt (K := K) ?_
    rcases h0 with h0 | ⟨h0, _⟩ <;> rw [h0] <;> decide
  · exact absurd rfl h
theorem take_lt {x : ByteArray} (hx : x ≠ ByteArray.empty) (h : takeB K x s = true) : s.err = 0 ∧ s.at_ < K.length := sees_lt (by rw [of_decide_eq_true h]; exact hx)
theorem name_lt (h : nameB K s = true) : s.err = 0 ∧ s.at_ < K.length := by
  unfold nameB at h
  rw [Bool.and_eq_true, decide_eq_true_iff] at h
  exact next_lt (K := K) (by rw [h.1]; decide)
theorem num_lt (h : numB K s = true) : s.err = 0 ∧ s.at_ < K.length := by
  unfold numB at h
  rw [Bool.and_eq_true, decide_eq_true_iff] at h
  exact next_lt (K := K) (by rw [h.1]; decide)
theorem sees_stuck (h : s.err ≠ 0) : seesP K s = ByteArray.empty := by
  by_cases h0 : seesP K s = ByteArray.empty
  · exact h0
  · exact absurd (sees_lt h0).1 h
theorem take_stuck {x : ByteArray} (hx : x ≠ ByteArray.empty) (h : s.err ≠ 0) : takeB K x s = false := by
  rw [← Bool.not_eq_true]; exact fun e => h (take_lt hx e).1
theorem name_stuck (h : s.err ≠ 0) : nameB K s = false := by
  rw [← Bool.not_eq_true]; exact fun e => h (name_lt e).1
theorem wrong_stuck {e : Int} (h : s.err ≠ 0) : wrongP e s = s := by unfold wrongP; rw [if_neg h]
theorem wrong_err {e : Int} (he : e ≠ 0) : (wrongP e s).err ≠ 0 := by
  unfold wrongP
  split
  · exact he
  · rename_i h; exact h
theorem sign_stuck {st : Int} (h : s.err ≠ 0) : signB K st s = false := by
  unfold signB
  rw [sees_stuck h, show isOp ByteArray.empty = false by decide +kernel]
  rfl
end
/-- What reads an expression, or less, turns of a parser. -/
structure Mv (K : List Kt) (s s' : Ps) : Prop where
  cols : s'.cols = s.cols
  pls : s'.pls = s.pls
  tks : s'.tks = s.tks
  from_ : s'.from_ = s.from_
  to_ : s'.to_ = s.to_
  vars : s'.vars = s.vars
  le : s.at_ ≤ s'.at_
  in_ : s.at_ ≤ K.length → s'.at_ ≤ K.length
section
variable {K : List Kt} {s a b : Ps}
theorem Mv.refl (s : Ps) : Mv K s s := ⟨rfl, rfl, rfl, rfl, rfl, rfl, Nat.le_refl _, fun h => h⟩
theorem Mv.trans (h : Mv K s a) (k : Mv K a b) : Mv K s b :=
  ⟨k.cols.trans h.cols, k.pls.trans h.pls, k.tks.trans h.tks, k.from_.trans h.from_, k.to_.trans h.to_, k.vars.trans h.vars, Nat.le_trans h.le k.le, fun e => k.in_ (h.in_ e)⟩
theorem mv_step (h : s.at_ < K.length) : Mv K s (stepP s) := ⟨rfl, rfl, rfl, rfl, rfl, rfl, Nat.le_succ _, fun _ => h⟩
theorem mv_wrong (e : Int) (s : Ps) : Mv K s (wrongP e s) := by
  unfold wrongP
  split
  · exact ⟨rfl, rfl, rfl, rfl, rfl, rfl, Nat.le_refl _, fun h => h⟩
  · exact Mv.refl s
theorem mv_take {x : ByteArray} (hx : x ≠ ByteArray.empty) (s : Ps) : Mv K s (takeP K x s) := by
  unfold takeP
  split
  · rename_i h; exact mv_step (take_lt hx h).2
  · exact Mv.refl s
theorem mv_want {x : ByteArray} (hx : x ≠ ByteArray.empty) (s : Ps) : Mv K s (wantP K x s) := by
  unfold wantP
  split
  · rename_i h; exact mv_step (take_lt hx h).2
  · exact mv_wrong _ s
theorem mv_name (s : Ps) : Mv K s (nameQ K s) := by
  unfold nameQ
  split
  · exact Mv.refl s
  · exact mv_wrong _ s
theorem name_err : (nameQ K s).err = 0 → nameB K s = true := by
  unfold nameQ
  split
  · rename_i h; exact fun _ => h
  · exact fun h => absurd h (wrong_err (by decide))
theorem mv_fresh (has : ByteArray → Bool) (s : Ps) : Mv K s (freshS K has s) := by
  unfold freshS freshQ
  split
  · split
    · rename_i h; exact absurd h (wrong_err (by decide))
    · exact mv_wrong _ s
  · split
    · rename_i h
      have hn := name_err h
      have e : nameQ K s = s := by unfold nameQ; rw [if_pos hn]
      rw [e]
      exact mv_step (name_lt hn).2
    · exact mv_name s
theorem mv_known (find : ByteArray → Int) (s : Ps) : Mv K s (knownS K find s) := by
  unfold knownS
  split
  · rename_i h
    split
    · exact mv_wrong _ s
    · exact mv_step (name_lt h).2
  · exact mv_wrong _ s
theorem mv_number (s : Ps) : Mv K s (numbS K s) := by
  unfold numbS
  split
  · rename_i h; exact mv_step (num_lt h).2
  · exact mv_wrong _ s
theorem minus_ne : minusT ≠ ByteArray.empty := by decide
theorem mv_integer (s : Ps) : Mv K s (integerS K s) := by
  unfold integerS
  split
  · rename_i h; exact (mv_step (take_lt minus_ne h).2).trans (mv_number _)
  · exact mv_number s
theorem sign_lt {st : Int} (h : signB K st s = true) : s.err = 0 ∧ s.at_ < K.length := by
  refine sees_lt (K := K) fun e => ?_
  unfold signB at h
  rw [e, show isOp ByteArray.empty = false by decide +kernel] at h
  cases h
theorem mv_loop {ex : Int → Ps → Tr × Ps} (hx : ∀ st s, Mv K s (ex st s).2) (st : Int) : ∀ (n : Nat) (e : Tr) (s : Ps), Mv K s (loopP K ex st n e s).2
  | 0, _, s => Mv.refl s
  | n + 1, e, s => by
    unfold loopP
    split
    · rename_i h
      exact ((mv_step (sign_lt h).2).trans (hx _ _)).trans (mv_loop hx st n _ _)
    · exact Mv.refl s
theorem mv_choice {ex : Int → Ps → Tr × Ps} (hx : ∀ st s, Mv K s (ex st s).2) (s : Ps) : Mv K s (choiceP K ex s).2 := by
  unfold choiceP
  exact ((((((mv_want (by decide) s).trans (hx _ _)).trans (mv_want (by decide) _)).trans (hx _ _)).trans (mv_want (by decide) _)).trans (hx _ _)).trans (mv_want (by decide) _)
theorem mv_unary {ex : Int → Ps → Tr × Ps} {un : Ps → Tr × Ps} (hx : ∀ st s, Mv K s (ex st s).2) (hu : ∀ s, Mv K s (un s).2) (s : Ps) : Mv K s (unaryP K ex un s).2 := by
  unfold unaryP
  split
  · rename_i h; exact (mv_step (take_lt minus_ne h).2).trans (hu _)
  · split
    · rename_i h; exact (mv_step (take_lt (by decide) h).2).trans (hu _)
    · split
      · rename_i h; exact ((mv_step (take_lt (by decide) h).2).trans (hx _ _)).trans (mv_want (by decide) _)
      · split
        · rename_i h; exact (mv_step (take_lt (by decide) h).2).trans (mv_choice hx _)
        · split
          · exact mv_number s
          · exact mv_known _ s
theorem mv_exprs : ∀ f : Nat, (∀ s, Mv K s ((exprsP K f).1 s).2) ∧ ∀ st s, Mv K s ((exprsP K f).2 st s).2
  | 0 => ⟨fun s => mv_wrong 2 s, fun _ s => mv_wrong 2 s⟩
  | f + 1 => by
    obtain ⟨hu, hx⟩ := mv_exprs f
    exact ⟨fun s => mv_unary hx hu s, fun st s => (mv_unary hx hu s).trans (mv_loop hx st _ _ _)⟩
theorem mv_expr (st : Int) (s : Ps) : Mv K s (exprP K st s).2 := (mv_exprs 40).2 st s
end
end Go.Proofs.YtkpjhjoopdbkaaaGreatDoor
namespace Go.Proofs.YtkpjhjoopdbkaaaGreatDoor
open Go.RowKit
/-- A call that turned the parser alone. -/
def Turned (T : List Tok) (en : Int) (g : Nat) (A : Option Addr) (c : Nat) (h : Hs) (s : Ps) (w w' : World) : Prop := PAt T en g A c h s w' ∧ AgH (only g) w w'
theorem place_wrong {T : List Tok} {en : Int} {s : Ps} {e : Int} (he : e ≠ 0) (h0 : s.err = 0) : placeT T en (wrongP e s) = hereT T en s.at_ := by
  unfold placeT wrongP
  rw [if_pos h0]
  rw [if_neg (show ¬ e = 0 from he)]
theorem tab_held {g : Nat} {w W : World} (h : HeldH (only g) w TabOk) (k : Below w.heap.size w W) : Hid (TabOk W) := (h.go (AgH.of_below k)).now
theorem beq_of_ne {a b : Int} (h : a ≠ b) : (a == b) = false := by simpa using h
theorem frozen_row {w : World} {g t o : Nat} {cs : Array Value} (h : w.heap[g]? = some (.cells cs t (0, 0))) : w.frozen? ⟨g, o, none⟩ = false := by simp [World.frozen?, h]
theorem row_put {w : World} {g t : Nat} {cs : Array Value} {z : Nat × Nat} (h : w.heap[g]? = some (.cells cs t z)) (o : Nat) (u : Value) : (w.setCell ⟨g, o, none⟩ u).heap[g]? = some (.cells (cs.setIfInBounds o u) t z) := by
  simp only [World.setCell, Array.getElem?_modify, if_pos, h, Option.map_some]
  rfl
theorem row_drewN {w : World} {g : Nat} {o : Obj} (h : w.heap[g]? = some o) (k : Nat) : (w.drewN k).heap[g]? = some o := h
theorem row_cell {w : World} {g t : Nat} {cs : Array Value} {z : Nat × Nat} (h : w.heap[g]? = some (.cells cs t z)) (j : Nat) (u : Value) (hu : cs[j]? = some u) : w.cell? ⟨g, j, none⟩ = some u := by
  rw [cell_of_row _ _ _ _ _ _ h]; exact hu
/-- A new block, three cells put: memory that was there stays. -/
theorem below_put3 {w w1 : World} {g : Nat} (h : Below w.heap.size w w1) (hg : w.heap.size = g) (k : Nat) (x y z : Value) : Below w.heap.size w ((((w1.drewN k).setCell ⟨g, 0, none⟩ x).setCell ⟨g, 1, none⟩ y).setCell ⟨g, 2, none⟩ z) :=
  (((below_drewN' h k).setCell (Nat.le_of_eq hg) x).setCell (Nat.le_of_eq hg) y).setCell (Nat.le_of_eq hg) z
theorem res_next {W : World} {g : Nat} {x : Int} {y : ByteArray} {z : Int} {tmps : Array Value} (h : W.heap[g]? = some (.cells #[.int .i64 x, .string y, .int .i64 z] 44 (0, 0))) (ht : tmps[2]? = some (.pointer (some ⟨g, 0, none⟩))) :
    (results Tryz.f119 tmps).run Tryz.prog W = .ok (.agg #[.int .i64 x, .string y, .int .i64 z]) W := by
  have q0 := row_cell h 0 _ rfl
  have q1 := row_cell h 1 _ rfl
  have q2 := row_cell h 2 _ rfl
  simp [results, Tryz.results119, go_sem, q0, q1, q2, ht]
theorem alrB (w : World) (o : Obj) : Below w.heap.size w (w.alloc o) := (Below.refl _ w).alloc (Nat.le_refl _) o
section
variable {T : List Tok} {en : Int} {g : Nat} {A : Option Addr} {c : Nat} {h : Hs} {s : Ps}
set_option maxHeartbeats 1000000 in
theorem pa_here (w : World) (hp : Hid (PAt T en g A c h s w)) : Calls Tryz.prog 116 #[.pointer (some ⟨g, 0, none⟩)] w fun e w' => e = .returned (.int .i64 (hereT T en s.at_)) ∧ ∃ q, w' = w.drewN q := by
  have b0 := hp.out.blk.c0
  have b1 := hp.out.blk.c1
  have b2 := hp.out.blk.c2
  have b3 := hp.out.blk.c3
  have b4 := hp.out.blk.c4
  have hs := hp.out.small.len
  have ha := hp.out.at_
  by_cases hlt : s.at_ < T.length
  · obtain ⟨bt, ot, rfl, _, _, t2⟩ := hp.out.tok hlt
    have HR := Lib.hid (show hereT T en s.at_ = (T[s.at_].at_ : Int) by unfold hereT; rw [dif_pos hlt])
    obtain ⟨x, hx⟩ : ∃ x : Int, x = (T[s.at_].at_ : Int) := ⟨_, rfl⟩
    rw [← hx] at HR t2
    have k1 : (s.at_ : Int) < (T.length : Int) := by omega
    have k0 : (0 : Int) ≤ (s.at_ : Int) := by omega
    have d1 : decide ((s.at_ : Int) < (T.length : Int)) = true := by simpa using k1
    clear hx
    go_enter Tryz.func116, Tryz.ntmps116
    go_wp2
    go_quiet (fail)
    go_wp2
    go_quiet (fail)
    go_wp2
    go_ret
    exact ⟨ret1 HR.out.symm, _, World.drewN_drewN _ _ _⟩
  · have HR := Lib.hid (show hereT T en s.at_ = en by unfold hereT; rw [dif_neg hlt])
    have d1 : decide ((s.at_ : Int) < (T.length : Int)) = false := by simp; omega
    go_enter Tryz.func116, Tryz.ntmps116
    go_wp2
    go_quiet (fail)
    go_wp2
    go_ret
    exact ⟨ret1 HR.out.symm, _, rfl⟩
set_option maxHeartbeats 1000000 in
theorem pa_wrong (x : Int) (hx : x ≠ 0) (w : World) (hp : Hid (PAt T en g A c h s w)) : Calls Tryz.prog 63 #[.pointer (some ⟨g, 0, none⟩), .int .i64 x] w fun e w' => e = .returned (.tuple #[]) ∧ Turned T en g A c h (wrongP x s) w w' := by
  have b0 := hp.out.blk.c0
  have b1 := hp.out.blk.c1
  have b2 := hp.out.blk.c2
  have b3 := hp.out.blk.c3
  have b4 := hp.out.blk.c4
  by_cases h0 : s.err = 0
  · have HP := Lib.hid (place_wrong (T := T) (en := en) hx h0)
    have HS := Lib.hid (show (wrongP x s).at_ = s.at_ ∧ (wrongP x s).err = x ∧ (wrongP x s).vars = s.vars by unfold wrongP; rw [if_pos h0]; exact ⟨rfl, rfl, rfl⟩)
    have cH := fun W (hb : PAt T en g A c h s W) => pa_here W (Lib.hid hb)
    obtain ⟨p, hp2⟩ : ∃ y, y = hereT T en s.at_ := ⟨_, rfl⟩
    rw [← hp2] at cH HP
    have CH := Lib.hid (cH w hp.out)
    have e0 : (s.err == 0) = true := by simpa using h0
    clear cH hp2 hx
    have H0 := Lib.hid h0
    clear h0
    go_enter Tryz.func63, Tryz.ntmps63
    go_wp2_with fail
    refine CH.out.mono ?_
    rintro e w2 ⟨rfl, q, rfl⟩
    have f3 := (hp.out.drewN q).blk.froz 3
    have f4 := (hp.out.drewN q).blk.froz 4
    go_wp2
    refine bodyPost_end (results_none rfl _ _ _) rfl ⟨rfl, ?_⟩
    have B := (((hp.out.drewN q).blk.set3 x).set4 p)
    have a := ((AgH.refl (only g) w).drewN q).setCell (p := ⟨g, 3, none⟩) (.inl rfl) (.int .i64 x)
    have a2 := a.setCell (p := ⟨g, 4, none⟩) (.inl rfl) (.int .i64 p)
    refine ⟨hp.out.turn a2 ?_ HS.out.2.2 (by rw [HS.out.1]; exact hp.out.at_), a2⟩
    rw [HS.out.1, HS.out.2.1, HP.out]
    exact B
  · have HS := Lib.hid (show wrongP x s = s from wrong_stuck h0)
    have e0 : (s.err == 0) = false := by simpa using h0
    clear h0
    go_enter Tryz.func63, Tryz.ntmps63
    go_wp2
    refine bodyPost_end (results_none rfl _ _ _) rfl ⟨rfl, ?_⟩
    rw [HS.out]
    exact ⟨hp.out, AgH.refl _ _⟩
/-- The token that comes next, as a value. -/
def NextV (T : List Tok) (s : Ps) (e : Ending) : Prop := ∃ a : Int, e = .returned (.agg #[.int .i64 (nextP (ktOf T) s).1, .string (nextP (ktOf T) s).2, .int .i64 a])
set_option maxHeartbeats 2000000 in
theorem pa_next (w : World) (hp : Hid (PAt T en g A c h s w)) : Calls Tryz.prog 119 #[.pointer (some ⟨g, 0, none⟩)] w fun e w' => NextV T s e ∧ Below w.heap.size w w' := by
  have b0 := hp.out.blk.c0
  have b1 := hp.out.blk.c1
  have b2 := hp.out.blk.c2
  have b3 := hp.out.blk.c3
  have b4 := hp.out.blk.c4
  have hgl := hp.out.blk.lt
  obtain ⟨w1, hw1⟩ : ∃ y, y = w.alloc (.cells #[.int .i64 0, .string ⟨#[]⟩, .int .i64 0] 44) := ⟨_, rfl⟩
  have HB1 := Lib.hid (show Below w.heap.size w w1 by rw [hw1]; exact alrB w _)
  have R1 := Lib.hid (show w1.heap[w.heap.size]? = some (.cells #[.int .i64 0, .string ⟨#[]⟩, .int .i64 0] 44 (0, 0)) by rw [hw1]; exact heap_alloc_new w _)
  have HP1 := Lib.hid (hp.out.below HB1.out)
  have HW := Lib.hid hw1.symm
  obtain ⟨g1, hg1⟩ : ∃ y, y = w.heap.size := ⟨_, rfl⟩
  have HG := Lib.hid hg1.symm
  rw [← hg1] at R1
  clear hw1 hg1
  by_cases h0 : s.err = 0
  · have e0 : (s.err != 0) = false := by simpa using h0
    by_cases hlt : s.at_ < T.length
    · have k1 : (s.at_ : Int) < (T.length : Int) := by omega
      have k0 : (0 : Int) ≤ (s.at_ : Int) := by omega
      have d1 : decide ((T.length : Int) ≤ (s.at_ : Int)) = false := by simp; omega
      have HN := Lib.hid (show nextP (ktOf T) s = (T[s.at_].kind, T[s.at_].text) by unfold nextP; rw [if_pos h0]; exact ktOf_at T _ hlt)
      obtain ⟨bt, ot, hA, t0, t1, t2⟩ := HP1.out.tok hlt
      obtain ⟨x0, hx0⟩ : ∃ x, x = T[s.at_].kind := ⟨_, rfl⟩
      obtain ⟨x1, hx1⟩ : ∃ x, x = T[s.at_].text := ⟨_, rfl⟩
      obtain ⟨x2, hx2⟩ : ∃ x : Int, x = (T[s.at_].at_ : Int) := ⟨_, rfl⟩
      rw [← hx0] at t0 HN
      rw [← hx1] at t1 HN
      rw [← hx2] at t2
      subst hA
      clear hx0 hx1 hx2
      clear b0 b1 b2 b3
      have b0 := HP1.out.blk.c0
      have b1 := HP1.out.blk.c1
      have b3 := HP1.out.blk.c3
      have E0 := Lib.hid e0
      clear h0
      go_enter Tryz.func119, Tryz.ntmps119
      go_upto_region 1 with fail
      rw [HW.out, HG.out]
      go_quiet (fail)
      have c2 : w1.cell? ⟨g1, 2, none⟩ = some (.int .i64 0) := by rw [cell_of_row _ _ _ _ _ _ R1.out]; rfl
      have c1 : w1.cell? ⟨g1, 1, none⟩ = some (.string ⟨#[]⟩) := by rw [cell_of_row _ _ _ _ _ _ R1.out]; rfl
      have c0 : w1.cell? ⟨g1, 0, none⟩ = some (.int .i64 0) := by rw [cell_of_row _ _ _ _ _ _ R1.out]; rfl
      have f0 : w1.frozen? ⟨g1, 0, none⟩ = false := frozen_row R1.out
      have f1 : w1.frozen? ⟨g1, 1, none⟩ = false := frozen_row R1.out
      have f2 : w1.frozen? ⟨g1, 2, none⟩ = false := frozen_row R1.out
      go_wp2
      go_region
      go_wp2
      exact bodyPost_ret (res_next (row_put (row_put (row_put (row_drewN R1.out _) 0 _) 1 _) 2 _) rfl) rfl ⟨⟨x2, by rw [HN.out]⟩, below_put3 HB1.out HG.out _ _ _ _⟩
    · have d1 : decide ((T.length : Int) ≤ (s.at_ : Int)) = true := by simp; omega
      have HN := Lib.hid (show nextP (ktOf T) s = (0, ⟨#[]⟩) by unfold nextP; rw [if_pos h0]; exact ktOf_end T _ (by omega))
      clear b0 b1 b2 b3
      have b0 := HP1.out.blk.c0
      have b1 := HP1.out.blk.c1
      have b3 := HP1.out.blk.c3
      have E0 := Lib.hid e0
      have c2 : w1.cell? ⟨g1, 2, none⟩ = some (.int .i64 0) := by rw [cell_of_row _ _ _ _ _ _ R1.out]; rfl
      have c1 : w1.cell? ⟨g1, 1, none⟩ = some (.string ⟨#[]⟩) := by rw [cell_of_row _ _ _ _ _ _ R1.out]; rfl
      have c0 : w1.cell? ⟨g1, 0, none⟩ = some (.int .i64 0) := by rw [cell_of_row _ _ _ _ _ _ R1.out]; rfl
      have f0 : w1.frozen? ⟨g1, 0, none⟩ = false := frozen_row R1.out
      have f1 : w1.frozen? ⟨g1, 1, none⟩ = false := frozen_row R1.out
      have f2 : w1.frozen? ⟨g1, 2, none⟩ = false := frozen_row R1.out
      clear h0
      go_enter Tryz.func119, Tryz.ntmps119
      go_upto_region 1 with fail
      rw [HW.out, HG.out]
      go_quiet (fail)
      go_wp2
      exact bodyPost_ret (res_next (row_put (row_put (row_put (row_drewN R1.out _) 0 _) 1 _) 2 _) rfl) rfl ⟨⟨0, by rw [HN.out]⟩, below_put3 HB1.out HG.out _ _ _ _⟩
  · have e0 : (s.err != 0) = true := by simpa using h0
    have HN := Lib.hid (show nextP (ktOf T) s = (0, ⟨#[]⟩) from next_stuck h0)
    clear b0 b1 b2 b3
    have b0 := HP1.out.blk.c0
    have b1 := HP1.out.blk.c1
    have b3 := HP1.out.blk.c3
    have E0 := Lib.hid e0
    have c2 : w1.cell? ⟨g1, 2, none⟩ = some (.int .i64 0) := by rw [cell_of_row _ _ _ _ _ _ R1.out]; rfl
    have c1 : w1.cell? ⟨g1, 1, none⟩ = some (.string ⟨#[]⟩) := by rw [cell_of_row _ _ _ _ _ _ R1.out]; rfl
    have c0 : w1.cell? ⟨g1, 0, none⟩ = some (.int .i64 0) := by rw [cell_of_row _ _ _ _ _ _ R1.out]; rfl
    have f0 : w1.frozen? ⟨g1, 0, none⟩ = false := frozen_row R1.out
    have f1 : w1.frozen? ⟨g1, 1, none⟩ = false := frozen_row R1.out
    have f2 : w1.frozen? ⟨g1, 2, none⟩ = false := frozen_row R1.out
    clear h0
    go_enter Tryz.func119, Tryz.ntmps119
    go_upto_region 1 with fail
    rw [HW.out, HG.out]
    go_quiet (fail)
    go_wp2
    exact bodyPost_ret (res_next (row_put (row_put (row_put (row_drewN R1.out _) 0 _) 1 _) 2 _) rfl) rfl ⟨⟨0, by rw [HN.out]⟩, below_put3 HB1.out HG.out _ _ _ _⟩
end
end Go.Proofs.YtkpjhjoopdbkaaaGreatDoor
namespace Go.Proofs.YtkpjhjoopdbkaaaGreatDoor
open Go.RowKit
theorem same_beq {x y : ByteArray} : (x.toList == y.toList) = decide (x = y) := by
  rw [toList_data, toList_data, Bool.eq_iff_iff, beq_iff_eq, decide_eq_true_iff]
  constructor
  · intro h
    obtain ⟨⟨a⟩⟩ := x
    obtain ⟨⟨b⟩⟩ := y
    simp at h
    rw [h]
  · rintro rfl; rfl
theorem rets {a b : ByteArray} (h : a = b) : Ending.returned (.string a) = .returned (.string b) := by rw [h]
section
variable {T : List Tok} {en : Int} {g : Nat} {A : Option Addr} {c : Nat} {h : Hs} {s : Ps}
set_option maxHeartbeats 1000000 in
theorem pa_sees (w : World) (hp : Hid (PAt T en g A c h s w)) : Calls Tryz.prog 66 #[.pointer (some ⟨g, 0, none⟩)] w fun e w' => e = .returned (.string (seesP (ktOf T) s)) ∧ Below w.heap.size w w' := by
  obtain ⟨x, hx⟩ : ∃ x, x = (nextP (ktOf T) s).1 := ⟨_, rfl⟩
  obtain ⟨y, hy⟩ : ∃ y, y = (nextP (ktOf T) s).2 := ⟨_, rfl⟩
  have cN := pa_next w hp
  unfold NextV at cN
  rw [← hx, ← hy] at cN
  have CN := Lib.hid cN
  have HX := Lib.hid hx
  have HY := Lib.hid hy
  clear cN hx hy
  have HS := Lib.hid (show seesP (ktOf T) s = if x = 3 ∨ (x = 1 ∧ isWord y = true) then y else ⟨#[]⟩ by unfold seesP; rw [← HX.out, ← HY.out]; rfl)
  obtain ⟨S, hS⟩ : ∃ S, S = seesP (ktOf T) s := ⟨_, rfl⟩
  rw [← hS] at HS ⊢
  clear hS
  go_enter Tryz.func66, Tryz.ntmps66
  go_wp2_with fail
  refine CN.out.mono ?_
  rintro e w2 ⟨⟨a, rfl⟩, hb⟩
  have HB3 := Lib.hid (below_then hb (alrB w2 (.cells #[.int .i64 x, .string y, .int .i64 a] 44)))
  have R3 := Lib.hid (heap_alloc_new w2 (.cells #[.int .i64 x, .string y, .int .i64 a] 44))
  obtain ⟨w3, hw3⟩ : ∃ z, z = w2.alloc (.cells #[.int .i64 x, .string y, .int .i64 a] 44) := ⟨_, rfl⟩
  obtain ⟨g3, hg3⟩ : ∃ z, z = w2.heap.size := ⟨_, rfl⟩
  rw [← hw3] at HB3 R3
  rw [← hg3] at R3
  have HW3 := Lib.hid hw3.symm
  have HG3 := Lib.hid hg3.symm
  clear hb hw3 hg3 CN
  go_upto_region 2 with fail
  rw [HW3.out, HG3.out]
  have q0 := row_cell R3.out 0 _ rfl
  have q1 := row_cell R3.out 1 _ rfl
  by_cases h3 : x = 3
  · have HR := Lib.hid (HS.out.trans (if_pos (.inl h3)))
    subst h3
    go_wp2
    go_ret
    exact ⟨rets HR.out.symm, HB3.out⟩
  have z3 : (x == 3) = false := beq_of_ne h3
  by_cases h1 : x = 1
  · have cW := tok_Word y w3 (tab_held hp.out.tab HB3.out)
    obtain ⟨f, hf⟩ : ∃ f, f = isWord y := ⟨_, rfl⟩
    rw [← hf] at cW HS
    have CW := Lib.hid cW
    have HR := Lib.hid (show S = if f = true then y else ⟨#[]⟩ by
      rw [HS.out]
      cases f with
      | false => rw [if_neg (by simp [h3]), if_neg (by simp)]
      | true => rw [if_pos (.inr ⟨h1, rfl⟩), if_pos rfl])
    subst h1
    clear cW hf HS h3
    go_wp2_with fail
    refine CW.out.mono ?_
    rintro e w4 ⟨rfl, hb⟩
    have q1' := cell_kept hb q1
    have HZ := Lib.hid (below_then HB3.out hb)
    clear hb q0 q1
    cases f with
    | false =>
      have HR2 := Lib.hid (show S = ⟨#[]⟩ from HR.out)
      go_wp2
      go_ret
      exact ⟨rets HR2.out.symm, HZ.out⟩
    | true =>
      have HR2 := Lib.hid (show S = y from HR.out)
      go_wp2
      go_ret
      exact ⟨rets HR2.out.symm, HZ.out⟩
  · have HR := Lib.hid (show S = ⟨#[]⟩ by rw [HS.out, if_neg (by simp [h3, h1])])
    have z1 : (x == 1) = false := beq_of_ne h1
    clear h3 h1
    go_wp2
    go_ret
    exact ⟨rets HR.out.symm, HB3.out⟩
set_option maxHeartbeats 1000000 in
theorem pa_name (w : World) (hp : Hid (PAt T en g A c h s w)) : Calls Tryz.prog 134 #[.pointer (some ⟨g, 0, none⟩)] w fun e w' => e = .returned (.tuple #[.string (nameV (ktOf T) s), .bool (nameB (ktOf T) s)]) ∧ Turned T en g A c h (nameQ (ktOf T) s) w w' := by
  obtain ⟨x, hx⟩ : ∃ x, x = (nextP (ktOf T) s).1 := ⟨_, rfl⟩
  obtain ⟨y, hy⟩ : ∃ y, y = (nextP (ktOf T) s).2 := ⟨_, rfl⟩
  have cN := pa_next w hp
  unfold NextV at cN
  rw [← hx, ← hy] at cN
  have CN := Lib.hid cN
  have HX := Lib.hid hx
  have HY := Lib.hid hy
  clear cN hx hy
  obtain ⟨f, hf⟩ : ∃ f, f = isWord y := ⟨_, rfl⟩
  have HN := Lib.hid (show nameB (ktOf T) s = (decide (x = 1) && !f) by unfold nameB; rw [← HX.out, ← HY.out, hf])
  have HV := Lib.hid (show nameV (ktOf T) s = if nameB (ktOf T) s then y else ⟨#[]⟩ by unfold nameV; rw [← HY.out]; rfl)
  have HQ := Lib.hid (show nameQ (ktOf T) s = if nameB (ktOf T) s then s else wrongP 4 s from rfl)
  obtain ⟨N, hN⟩ : ∃ N, N = nameB (ktOf T) s := ⟨_, rfl⟩
  obtain ⟨V, hV⟩ : ∃ V, V = nameV (ktOf T) s := ⟨_, rfl⟩
  obtain ⟨Q, hQ⟩ : ∃ Q, Q = nameQ (ktOf T) s := ⟨_, rfl⟩
  rw [← hN] at HN HV HQ
  rw [← hV] at HV
  rw [← hQ] at HQ
  rw [← hN, ← hV, ← hQ]
  have cW := fun W (hb : Below w.heap.size w W) => tok_Word y W (tab_held hp.out.tab hb)
  rw [← hf] at cW
  have CW := Lib.hid cW
  have CX := Lib.hid (fun W (hb : Below w.heap.size w W) => pa_wrong 4 (by decide) W (Lib.hid (hp.out.below hb)))
  clear hN hV hQ hf cW
  go_enter Tryz.func134, Tryz.ntmps134
  go_wp2_with fail
  refine CN.out.mono ?_
  rintro e w2 ⟨⟨a, rfl⟩, hb⟩
  have HB3 := Lib.hid (below_then hb (alrB w2 (.cells #[.int .i64 x, .string y, .int .i64 a] 44)))
  have R3 := Lib.hid (heap_alloc_new w2 (.cells #[.int .i64 x, .string y, .int .i64 a] 44))
  obtain ⟨w3, hw3⟩ : ∃ z, z = w2.alloc (.cells #[.int .i64 x, .string y, .int .i64 a] 44) := ⟨_, rfl⟩
  obtain ⟨g3, hg3⟩ : ∃ z, z = w2.heap.size := ⟨_, rfl⟩
  rw [← hw3] at HB3 R3
  rw [← hg3] at R3
  have HW3 := Lib.hid hw3.symm
  have HG3 := Lib.hid hg3.symm
  clear hb hw3 hg3 CN
  go_upto_region 2 with fail
  rw [HW3.out, HG3.out]
  have q0 := row_cell R3.out 0 _ rfl
  have q1 := row_cell R3.out 1 _ rfl
  by_cases h1 : x = 1
  · subst h1
    go_wp2_with fail
    refine (CW.out _ HB3.out).mono ?_
    rintro e w4 ⟨rfl, hb⟩
    have q1' := cell_kept hb q1
    have HZ := Lib.hid (below_then HB3.out hb)
    clear hb q0 q1
    cases f with
    | false =>
      have HN2 : N = true := HN.out
      subst HN2
      go_wp2
      go_ret2
      refine ⟨?_, ?_⟩
      · rw [HV.out]; rfl
      · rw [HQ.out]; exact ⟨hp.out.below HZ.out, AgH.of_below HZ.out⟩
    | true =>
      have HN2 : N = false := HN.out
      subst HN2
      go_wp2_with fail
      refine (CX.out _ HZ.out).mono ?_
      rintro e w5 ⟨rfl, ht⟩
      have HT := Lib.hid ht
      clear ht q1'
      go_wp2
      go_ret2
      refine ⟨?_, ?_⟩
      · rw [HV.out]; rfl
      · rw [HQ.out]; exact ⟨HT.out.1, (AgH.of_below HZ.out).trans HT.out.2⟩
  · have z1 : (x != 1) = true := by simpa using h1
    have HN2 : N = false := by rw [HN.out, decide_eq_false h1]; rfl
    subst HN2
    clear h1
    go_wp2_with fail
    refine (CX.out _ HB3.out).mono ?_
    rintro e w5 ⟨rfl, ht⟩
    have HT := Lib.hid ht
    clear ht q0 q1
    go_wp2
    go_ret2
    refine ⟨?_, ?_⟩
    · rw [HV.out]; rfl
    · rw [HQ.out]; exact ⟨HT.out.1, (AgH.of_below HB3.out).trans HT.out.2⟩
/-- The parser, one token on. -/
theorem turned_step {w W : World} (hp : PAt T en g A c h s w) (hb : Below w.heap.size w W) (hlt : s.at_ < T.length) : Turned T en g A c h (stepP s) w (W.setCell ⟨g, 1, none⟩ (.int .i64 ((s.at_ : Int) + 1))) := by
  have p := hp.below hb
  have a := (AgH.of_below (H := only g) hb).setCell (p := ⟨g, 1, none⟩) (.inl rfl) (.int .i64 ((s.at_ : Int) + 1))
  refine ⟨hp.turn a ?_ rfl hlt, a⟩
  have e : (((stepP s).at_ : Nat) : Int) = (s.at_ : Int) + 1 := by show ((s.at_ + 1 : Nat) : Int) = _; omega
  rw [e]
  exact p.blk.set1 _
theorem turned_below {w W : World} (hp : PAt T en g A c h s w) (hb : Below w.heap.size w W) : Turned T en g A c h s w W := ⟨hp.below hb, AgH.of_below hb⟩
set_option maxHeartbeats 1000000 in
theorem pa_take (x : ByteArray) (hx : x ≠ ByteArray.empty) (w : World) (hp : Hid (PAt T en g A c h s w)) : Calls Tryz.prog 68 #[.pointer (some ⟨g, 0, none⟩), .string x] w fun e w' => e = .returned (.bool (takeB (ktOf T) x s)) ∧ Turned T en g A c h (takeP (ktOf T) x s) w w' := by
  have cS := pa_sees w hp
  have HB := Lib.hid (show takeB (ktOf T) x s = decide (seesP (ktOf T) s = x) from rfl)
  have HP := Lib.hid (show takeP (ktOf T) x s = if takeB (ktOf T) x s then stepP s else s from rfl)
  have HL := Lib.hid (show takeB (ktOf T) x s = true → s.at_ < T.length from fun e => by have := (take_lt hx e).2; rwa [ktOf_len] at this)
  obtain ⟨S, hS⟩ : ∃ S, S = seesP (ktOf T) s := ⟨_, rfl⟩
  obtain ⟨t, ht⟩ : ∃ t, t = takeB (ktOf T) x s := ⟨_, rfl⟩
  obtain ⟨P, hP⟩ : ∃ P, P = takeP (ktOf T) x s := ⟨_, rfl⟩
  rw [← hS] at cS HB
  rw [← ht] at HB HP HL
  rw [← hP] at HP
  rw [← ht, ← hP]
  have CS := Lib.hid cS
  have hs9 := hp.out.small.len
  clear hS ht hP cS
  rcases hz : (S.toList == x.toList) with _ | _
  · have e0 : t = false := by rw [HB.out, ← same_beq, hz]
    have HP2 := Lib.hid (show P = s by rw [HP.out, e0]; rfl)
    subst e0
    go_enter Tryz.func68, Tryz.ntmps68
    go_wp2_with fail
    refine CS.out.mono ?_
    rintro e w2 ⟨rfl, hb⟩
    have HB2 := Lib.hid hb
    clear hb
    go_wp2
    go_ret
    rw [HP2.out]
    exact ⟨rfl, turned_below hp.out HB2.out⟩
  · have e0 : t = true := by rw [HB.out, ← same_beq, hz]
    have hlt := HL.out e0
    have HP2 := Lib.hid (show P = stepP s by rw [HP.out, e0]; rfl)
    subst e0
    go_enter Tryz.func68, Tryz.ntmps68
    go_wp2_with fail
    refine CS.out.mono ?_
    rintro e w2 ⟨rfl, hb⟩
    have HB2 := Lib.hid hb
    have HP3 := Lib.hid (hp.out.below hb)
    have b1 := HP3.out.blk.c1
    have f1 := HP3.out.blk.froz 1
    clear hb
    go_wp2
    go_ret
    rw [HP2.out]
    exact ⟨rfl, turned_step hp.out HB2.out hlt⟩
set_option maxHeartbeats 1000000 in
theorem pa_want (x : ByteArray) (hx : x ≠ ByteArray.empty) (w : World) (hp : Hid (PAt T en g A c h s w)) : Calls Tryz.prog 74 #[.pointer (some ⟨g, 0, none⟩), .string x] w fun e w' => e = .returned (.tuple #[]) ∧ Turned T en g A c h (wantP (ktOf T) x s) w w' := by
  have cT := pa_take x hx w hp
  have HP := Lib.hid (show takeP (ktOf T) x s = if takeB (ktOf T) x s then stepP s else s from rfl)
  have HW := Lib.hid (show wantP (ktOf T) x s = if takeB (ktOf T) x s then stepP s else wrongP 4 s from rfl)
  obtain ⟨t, ht⟩ : ∃ t, t = takeB (ktOf T) x s := ⟨_, rfl⟩
  obtain ⟨P, hP⟩ : ∃ P, P = takeP (ktOf T) x s := ⟨_, rfl⟩
  obtain ⟨Q, hQ⟩ : ∃ Q, Q = wantP (ktOf T) x s := ⟨_, rfl⟩
  rw [← ht] at HP HW cT
  rw [← hP] at HP cT
  rw [← hQ] at HW
  rw [← hQ]
  have CT := Lib.hid cT
  clear cT ht hP hQ
  cases t with
  | true =>
    have HQ := Lib.hid (show Q = P from HW.out.trans HP.out.symm)
    go_enter Tryz.func74, Tryz.ntmps74
    go_wp2_with fail
    refine CT.out.mono ?_
    rintro e w2 ⟨rfl, hT⟩
    have HT := Lib.hid hT
    clear hT
    go_wp2
    refine bodyPost_end (results_none rfl _ _ _) rfl ⟨rfl, ?_⟩
    rw [HQ.out]
    exact HT.out
  | false =>
    have HQ := Lib.hid (show Q = wrongP 4 s from HW.out)
    have HS := Lib.hid (show P = s from HP.out)
    go_enter Tryz.func74, Tryz.ntmps74
    go_wp2_with fail
    refine CT.out.mono ?_
    rintro e w2 ⟨rfl, hT⟩
    rw [HS.out] at hT
    have HT := Lib.hid hT
    clear hT
    go_wp2_with fail
    refine (pa_wrong 4 (by decide) w2 (Lib.hid HT.out.1)).mono ?_
    rintro e w3 ⟨rfl, hT2⟩
    have HT2 := Lib.hid hT2
    clear hT2
    go_wp2
    refine bodyPost_end (results_none rfl _ _ _) rfl ⟨rfl, ?_⟩
    rw [HQ.out]
    exact ⟨HT2.out.1, HT.out.2.trans HT2.out.2⟩
end
end Go.Proofs.YtkpjhjoopdbkaaaGreatDoor
