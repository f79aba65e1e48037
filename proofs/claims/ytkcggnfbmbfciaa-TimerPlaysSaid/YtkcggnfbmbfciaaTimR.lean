/- Contracts of package timer: the comparison of All. -/
import Derived.Test.YtkcggnfbmbfciaaTimK
import Derived.Test.YtkcggnfbmbfciaaShelf
import Derived.StillTailTactics
namespace Go.Proofs.Ytkcggnfbmbfciaa
open Go.RowKit Go.Sort
def orI (x y : Int) : Int := if x = 0 then y else x
set_option maxHeartbeats 400000 in
theorem cmp_Or (x y : Int) (b : Nat) (w : World) (hx : w.cell? ⟨b, 0, none⟩ = some (.int .i64 x)) (hy : w.cell? ⟨b, 1, none⟩ = some (.int .i64 y)) :
    Calls Try.prog 31 #[.slice (some ⟨b, 0, none⟩) 2 2] w fun e w' => e = .returned (.int .i64 (orI x y)) ∧ w = w' := by
  go_enter Try.func31, Try.ntmps31
  go_wp2
  go_loop [5, 8] (fun _ i => (i = .int .i64 0) ∨ (i = .int .i64 1 ∧ Hid (x = 0)) ∨ (i = .int .i64 2 ∧ Hid (x = 0 ∧ y = 0))) (fun _ i => 2 - (intOf i).toNat)
  case atStart => exact .inl rfl
  case round =>
    rcases hrel with rfl | ⟨rfl, h⟩ | ⟨rfl, h⟩
    · rcases hz : (x != 0) with _ | _
      · have H0 := Lib.hid (show x = 0 by simpa using hz)
        go_wp2
        go_round
        case rel => exact .inr (.inl ⟨rfl, H0⟩)
        case measure => simp [intOf]
      · have hz2 := Lib.hid hz
        go_wp2
        go_ret
        refine ⟨?_, rfl⟩
        have h := hz2.out
        unfold orI
        rw [if_neg (by simpa using h)]; rfl
    · rcases hz : (y != 0) with _ | _
      · have H0 := Lib.hid (show y = 0 by simpa using hz)
        go_wp2
        go_round
        case rel => exact .inr (.inr ⟨rfl, h.out, H0.out⟩)
        case measure => simp [intOf]
      · go_wp2
        go_ret
        refine ⟨?_, rfl⟩
        unfold orI
        rw [if_pos h.out]; rfl
    · go_wp2
      go_ret
      refine ⟨?_, rfl⟩
      obtain ⟨h1, h2⟩ := h.out
      unfold orI
      rw [if_pos h1, h2]; rfl
def cfE (a b : Ent) : Int := orI (Lib.compareInt a.at_ b.at_) (Lib.compareInt a.id b.id)
theorem cfE_lt (a b : Ent) : cfE a b < 0 ↔ ltE a b := by
  unfold cfE orI Lib.compareInt ltE
  split <;> (try split at *) <;> (try split) <;> (try split) <;> simp_all <;> omega
theorem grow_one (w : World) (o : Obj) : (w.alloc o).drew = grow (w.drewN 1) #[o] := by rw [alloc_eq_grow]; rfl
set_option maxRecDepth 100000 in
set_option maxHeartbeats 1000000 in
theorem tim_cmp (a b : Ent) (w : World) (ha0 : w.cell? ⟨a.blk, 0, none⟩ = some (.int .i64 a.id)) (ha1 : w.cell? ⟨a.blk, 1, none⟩ = some (.int .i64 a.at_)) (hb0 : w.cell? ⟨b.blk, 0, none⟩ = some (.int .i64 b.id)) (hb1 : w.cell? ⟨b.blk, 1, none⟩ = some (.int .i64 b.at_)) :
    Calls Try.prog 30 #[ptrV a, ptrV b] w fun e w' => e = .returned (.int .i64 (cfE a b)) ∧ ∃ q os, w' = grow (w.drewN q) os := by
  unfold ptrV cfE
  have c1 := fun W => Lib.hid (Try.cmp_Compare_int a.at_ b.at_ W)
  have c2 := fun W => Lib.hid (Try.cmp_Compare_int a.id b.id W)
  obtain ⟨r1, hr1⟩ : ∃ r, r = Lib.compareInt a.at_ b.at_ := ⟨_, rfl⟩
  obtain ⟨r2, hr2⟩ : ∃ r, r = Lib.compareInt a.id b.id := ⟨_, rfl⟩
  rw [← hr1] at c1 ⊢
  rw [← hr2] at c2 ⊢
  clear hr1 hr2
  obtain ⟨ba, ia, ta⟩ := a
  obtain ⟨bb, ib, tb⟩ := b
  simp only at ha0 ha1 hb0 hb1 c1 c2 ⊢
  go_enter Try.func30, Try.ntmps30
  go_wp2
  refine wp_region_still_tail 18 (by kernel_rfl) (by kernel_rfl) ?_
  simp only [List.take_succ_cons, List.take_zero, List.drop_succ_cons, List.drop_zero]
  repeat still_step
  still_call ((c1 _).out)
  repeat still_step
  still_call ((c2 _).out)
  refine wpStill_nil ?_
  go_wp2_with (go_at_call 31; refine (cmp_Or r1 r2 _ _ (by simp) (by simp)).mono ?_; rintro e w' ⟨rfl, rfl⟩)
  go_ret
  exact ⟨rfl, 1, _, grow_one _ _⟩
end Go.Proofs.Ytkcggnfbmbfciaa
