/- The laws of calc, walked. -/
import Derived.Test.YtifbodndgjkgaaaCalcE
namespace Go.Proofs.Ytifbodndgjkgaaa
open Go.RowKit
theorem calc_Neg2 (a : Int) (w : World) (ha : I64 a) :
    Calls Try.prog 12 #[.int .i64 a] w fun e w' => e = .returned (.tuple #[.int .i64 (doV 2 0 a), .int .i64 (doE 2 0 a)]) ∧ ∃ n, w' = w.drewN n := by
  have h := calc_Neg a w ha
  have e1 : chkV (-a) = doV 2 0 a := by simp [doV]
  have e2 : chkE (-a) = doE 2 0 a := by simp [doE]
  rwa [e1, e2] at h
set_option maxHeartbeats 1000000 in
theorem law_CalcTells (op a b : Int) (w : World) (ha : I64 a) (hb : I64 b) :
    Calls Try.prog 3 #[.int .i64 op, .int .i64 a, .int .i64 b] w fun e w' => e = .returned (.bool true) ∧ Below w.heap.size w w' := by
  have h0 : I64 0 := by decide
  go_enter Try.func3, Try.ntmps3
  go_wp2_with (first
    | (go_at_call 9; refine (law01_small _).mono ?_; rintro e w' ⟨rfl, hw1⟩)
    | (go_at_call 10; refine (calc_Do _ _ _ _ (by assumption) (by assumption)).mono ?_; rintro e w' ⟨rfl, n1, rfl⟩)
    | (go_at_call 11; refine (ref01_Do _ _ _ _ (by assumption) (by assumption)).mono ?_; rintro e w' ⟨rfl, rfl⟩)
    | (go_at_call 12; refine (calc_Neg2 _ _ (by assumption)).mono ?_; rintro e w' ⟨rfl, n2, rfl⟩)
    | (go_at_call 13; refine (calc_Known _ _).mono ?_; rintro e w' ⟨rfl, rfl⟩)
    | (go_at_call 14; refine (ref01_Known _ _).mono ?_; rintro e w' ⟨rfl, rfl⟩))
  go_ret
  exact ⟨rfl, below_drewN hw1 _⟩
theorem do_order (a b : Int) : doE 6 a b = 0 ∧ doE 7 a b = 0 ∧ doE 8 a b = 0 ∧ doE 8 b a = 0 ∧ doE 9 a b = 0 := ⟨rfl, rfl, rfl, rfl, rfl⟩
theorem do_lt {a b : Int} (h : a < b) : doV 6 a b = 0 ∧ doV 7 a b = 1 ∧ doV 8 a b = 1 ∧ doV 8 b a = 0 ∧ doV 9 a b = 1 := by
  have h1 : ¬ a = b := by omega
  have h2 : ¬ b < a := by omega
  have h3 : a ≤ b := by omega
  simp [doV, yesI, h, h1, h2, h3]
theorem do_gt {a b : Int} (h : b < a) : doV 6 a b = 0 ∧ doV 7 a b = 1 ∧ doV 8 a b = 0 ∧ doV 8 b a = 1 ∧ doV 9 a b = 0 := by
  have h1 : ¬ a = b := by omega
  have h2 : ¬ a < b := by omega
  have h3 : ¬ a ≤ b := by omega
  simp [doV, yesI, h, h1, h2, h3]
theorem do_eq (a : Int) : doV 6 a a = 1 ∧ doV 7 a a = 0 ∧ doV 8 a a = 0 ∧ doV 9 a a = 1 := by
  simp [doV, yesI]
theorem do_sub (a b : Int) : doE 2 a b = 6 ∨ doE 2 a b = 0 ∧ doV 2 a b = a - b := by
  by_cases h : I64 (a - b)
  · right; simp [doE, doV, chkV, chkE, h]
  · left; simp [doE, chkE, h]
set_option maxHeartbeats 2000000 in
theorem law_CalcOrders (a b : Int) (w : World) (ha : I64 a) (hb : I64 b) :
    Calls Try.prog 8 #[.int .i64 a, .int .i64 b] w fun e w' => e = .returned (.bool true) ∧ Below w.heap.size w w' := by
  obtain ⟨e1, e2, e3, e4, e5⟩ := do_order a b
  rcases do_sub a b with e6 | ⟨e6, e7⟩
  · by_cases h1 : a < b
    · obtain ⟨v1, v2, v3, v4, v5⟩ := do_lt h1
      clear h1
      go_enter Try.func8, Try.ntmps8
      go_wp2_with (first
        | (go_at_call 9; refine (law01_small _).mono ?_; rintro e w' ⟨rfl, hw1⟩)
        | (go_at_call 12; refine (calc_Neg2 _ _ (by assumption)).mono ?_; rintro e w' ⟨rfl, n1, rfl⟩)
        | (go_at_call 10; refine (calc_Do _ _ _ _ (by assumption) (by assumption)).mono ?_; rintro e w' ⟨rfl, n1, rfl⟩))
      go_ret
      exact ⟨rfl, below_drewN hw1 _⟩
    · by_cases h2 : b < a
      · obtain ⟨v1, v2, v3, v4, v5⟩ := do_gt h2
        clear h1 h2
        go_enter Try.func8, Try.ntmps8
        go_wp2_with (first
          | (go_at_call 9; refine (law01_small _).mono ?_; rintro e w' ⟨rfl, hw1⟩)
          | (go_at_call 12; refine (calc_Neg2 _ _ (by assumption)).mono ?_; rintro e w' ⟨rfl, n1, rfl⟩)
          | (go_at_call 10; refine (calc_Do _ _ _ _ (by assumption) (by assumption)).mono ?_; rintro e w' ⟨rfl, n1, rfl⟩))
        go_ret
        exact ⟨rfl, below_drewN hw1 _⟩
      · have h3 : a = b := by omega
        subst h3
        obtain ⟨v1, v2, v3, v4⟩ := do_eq a
        clear h1 h2 hb
        go_enter Try.func8, Try.ntmps8
        go_wp2_with (first
          | (go_at_call 9; refine (law01_small _).mono ?_; rintro e w' ⟨rfl, hw1⟩)
          | (go_at_call 12; refine (calc_Neg2 _ _ (by assumption)).mono ?_; rintro e w' ⟨rfl, n1, rfl⟩)
          | (go_at_call 10; refine (calc_Do _ _ _ _ (by assumption) (by assumption)).mono ?_; rintro e w' ⟨rfl, n1, rfl⟩))
        go_ret
        exact ⟨rfl, below_drewN hw1 _⟩
  · obtain ⟨d, hd⟩ : ∃ d, doV 2 a b = d := ⟨_, rfl⟩
    rw [hd] at e7
    by_cases h1 : a < b
    · obtain ⟨v1, v2, v3, v4, v5⟩ := do_lt h1
      have hd0 : d < 0 := by omega
      have hd1 : (d == 0) = false := by simp; omega
      clear h1 e7
      go_enter Try.func8, Try.ntmps8
      go_wp2_with (first
        | (go_at_call 9; refine (law01_small _).mono ?_; rintro e w' ⟨rfl, hw1⟩)
        | (go_at_call 12; refine (calc_Neg2 _ _ (by assumption)).mono ?_; rintro e w' ⟨rfl, n1, rfl⟩)
        | (go_at_call 10; refine (calc_Do _ _ _ _ (by assumption) (by assumption)).mono ?_; rintro e w' ⟨rfl, n1, rfl⟩))
      go_ret
      exact ⟨rfl, below_drewN hw1 _⟩
    · by_cases h2 : b < a
      · obtain ⟨v1, v2, v3, v4, v5⟩ := do_gt h2
        have hd0 : decide (d < 0) = false := by simp; omega
        have hd1 : (d == 0) = false := by simp; omega
        clear h1 h2 e7
        go_enter Try.func8, Try.ntmps8
        go_wp2_with (first
          | (go_at_call 9; refine (law01_small _).mono ?_; rintro e w' ⟨rfl, hw1⟩)
          | (go_at_call 12; refine (calc_Neg2 _ _ (by assumption)).mono ?_; rintro e w' ⟨rfl, n1, rfl⟩)
          | (go_at_call 10; refine (calc_Do _ _ _ _ (by assumption) (by assumption)).mono ?_; rintro e w' ⟨rfl, n1, rfl⟩))
        go_ret
        exact ⟨rfl, below_drewN hw1 _⟩
      · have h3 : a = b := by omega
        subst h3
        have hd0 : d = 0 := by omega
        subst hd0
        obtain ⟨v1, v2, v3, v4⟩ := do_eq a
        clear h1 h2 e7 hb
        go_enter Try.func8, Try.ntmps8
        go_wp2_with (first
          | (go_at_call 9; refine (law01_small _).mono ?_; rintro e w' ⟨rfl, hw1⟩)
          | (go_at_call 12; refine (calc_Neg2 _ _ (by assumption)).mono ?_; rintro e w' ⟨rfl, n1, rfl⟩)
          | (go_at_call 10; refine (calc_Do _ _ _ _ (by assumption) (by assumption)).mono ?_; rintro e w' ⟨rfl, n1, rfl⟩))
        go_ret
        exact ⟨rfl, below_drewN hw1 _⟩
end Go.Proofs.Ytifbodndgjkgaaa
