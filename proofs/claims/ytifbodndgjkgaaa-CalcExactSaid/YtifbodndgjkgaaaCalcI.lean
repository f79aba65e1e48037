/- The law CalcExact, walked. -/
import Derived.Test.YtifbodndgjkgaaaCalcF
import Derived.Deep.DeepCutAuto
namespace Go.Proofs.Ytifbodndgjkgaaa
open Go.RowKit
theorem ex_cmp (a b : Int) : doV 8 a b + doV 9 b a = 1 ∧ ((doV 6 a b == 1) == (a == b)) = true := by
  rcases Int.lt_trichotomy a b with h | h | h
  · have h1 : ¬ b ≤ a := by omega
    have h2 : ¬ a = b := by omega
    simp [doV, yesI, h, h1, h2]
  · subst h; simp [doV, yesI]
  · have h1 : ¬ a < b := by omega
    have h2 : ¬ a = b := by omega
    have h3 : b ≤ a := by omega
    simp [doV, yesI, h1, h2, h3]
theorem ex_sum {a : Int} (b : Int) (ha : I64 a) : doE 1 a b = 6 ∨ doE 1 a b = 0 ∧ I64 (doV 1 a b) ∧ doV 2 (doV 1 a b) b = a ∧ doE 2 (doV 1 a b) b = 0 := by
  by_cases h : I64 (a + b)
  · right
    have e1 : doV 1 a b = a + b := by simp [doV, chkV, h]
    have e2 : doE 1 a b = 0 := by simp [doE, chkE, h]
    have e3 : a + b - b = a := by omega
    rw [e1]
    exact ⟨e2, h, by simp [doV, chkV, e3, ha], by simp [doE, chkE, e3, ha]⟩
  · left; simp [doE, chkE, h]
theorem tdiv_back {a b : Int} (h : b ≠ 0) : (a * b).tdiv b = a := Int.mul_tdiv_cancel a h
theorem ex_mul {a b : Int} (ha : I64 a) (hb : b ≠ 0) : doE 3 a b = 6 ∨ doE 3 a b = 0 ∧ I64 (doV 3 a b) ∧ doV 4 (doV 3 a b) b = a ∧ doE 4 (doV 3 a b) b = 0 := by
  by_cases h : I64 (a * b)
  · right
    have e1 : doV 3 a b = a * b := by simp [doV, chkV, h]
    have e2 : doE 3 a b = 0 := by simp [doE, chkE, h]
    have e3 := tdiv_back (a := a) hb
    have e4 : quoE (a * b) b = 0 := by simp [quoE, hb, e3, ha]
    rw [e1]
    exact ⟨e2, h, by simp [doV, quoV, e4, e3], by simp [doE, e4]⟩
  · left; simp [doE, chkE, h]
theorem ex_quo_bad {a b : Int} (h : quoE a b ≠ 0) : ∃ x : Int, (x == 0) = false ∧ doE 4 a b = x ∧ doE 5 a b = x := ⟨quoE a b, by simpa using h, rfl, rfl⟩
theorem tmod_lt {a b : Int} (hb : b ≠ 0) : (a.tmod b).natAbs < b.natAbs := by
  rw [Int.natAbs_tmod]; exact Nat.mod_lt _ (by omega)
theorem tmod_sign (a b : Int) : (0 < a → 0 ≤ a.tmod b) ∧ (a < 0 → a.tmod b ≤ 0) ∧ (a = 0 → a.tmod b = 0) := by
  refine ⟨fun h => Int.tmod_nonneg b (by omega), fun h => ?_, fun h => by subst h; simp⟩
  have h2 : (-a).tmod b = -(a.tmod b) := Int.neg_tmod ..
  have := Int.tmod_nonneg b (a := -a) (by omega)
  omega
theorem wrap_lin (x r : Int) : wrap64 (wrap64 x + r) = wrap64 (x + r) := by unfold wrap64; omega
theorem ex_quo {a b : Int} (ha : I64 a) (h : quoE a b = 0) : ∃ q r : Int, doE 4 a b = 0 ∧ doE 5 a b = 0 ∧ doV 4 a b = q ∧ doV 5 a b = r ∧ wrap64 (wrap64 (q * b) + r) = a ∧ (0 < a → 0 ≤ r) ∧ (a < 0 → r ≤ 0) ∧ (a = 0 → r = 0) ∧ r.natAbs < b.natAbs := by
  have hb : b ≠ 0 := by intro hb; subst hb; simp [quoE] at h
  have hs := tmod_sign a b
  refine ⟨a.tdiv b, a.tmod b, h, h, by simp [doV, quoV, h], by simp [doV, remV, h], ?_, hs.1, hs.2.1, hs.2.2, tmod_lt hb⟩
  have h1 : a.tdiv b * b + a.tmod b = a := by rw [Int.mul_comm]; exact Int.mul_tdiv_add_tmod a b
  rw [wrap_lin, h1]; exact wrapI ha
theorem ex_quo_or (a b : Int) (ha : I64 a) : (∃ x : Int, (x == 0) = false ∧ doE 4 a b = x ∧ doE 5 a b = x) ∨
    ∃ q r : Int, doE 4 a b = 0 ∧ doE 5 a b = 0 ∧ doV 4 a b = q ∧ doV 5 a b = r ∧ wrap64 (wrap64 (q * b) + r) = a ∧ (0 < a → 0 ≤ r) ∧ (a < 0 → r ≤ 0) ∧ (a = 0 → r = 0) ∧ r.natAbs < b.natAbs := by
  by_cases h : quoE a b = 0
  · exact .inr (ex_quo ha h)
  · exact .inl (ex_quo_bad h)
set_option maxRecDepth 100000 in
set_option maxHeartbeats 4000000 in
theorem law_CalcExact (a b : Int) (w : World) (ha : I64 a) (hb : I64 b) :
    Calls Try.prog 6 #[.int .i64 a, .int .i64 b] w fun e w' => e = .returned (.bool true) ∧ Below w.heap.size w w' := by
  have hsum := ex_sum b ha
  have hquo := ex_quo_or a b ha
  obtain ⟨e1, he1⟩ : ∃ x, doE 1 a b = x := ⟨_, rfl⟩
  obtain ⟨v1, hv1⟩ : ∃ x, doV 1 a b = x := ⟨_, rfl⟩
  obtain ⟨e4, he4⟩ : ∃ x, doE 4 a b = x := ⟨_, rfl⟩
  obtain ⟨e5, he5⟩ : ∃ x, doE 5 a b = x := ⟨_, rfl⟩
  obtain ⟨v4, hv4⟩ : ∃ x, doV 4 a b = x := ⟨_, rfl⟩
  obtain ⟨v5, hv5⟩ : ∃ x, doV 5 a b = x := ⟨_, rfl⟩
  rw [he1, hv1] at hsum
  rw [he4, he5, hv4, hv5] at hquo
  have HS := Lib.hid hsum
  have HQ := Lib.hid hquo
  clear hsum hquo
  go_enter Try.func6, Try.ntmps6
  go_upto_if 30 with (first
    | (go_at_call 9; refine (law01_small _).mono ?_; rintro e w' ⟨rfl, hw1⟩)
    | (go_at_call 10; refine (calc_Do _ _ _ _ (by assumption) (by assumption)).mono ?_; rintro e w' ⟨rfl, n1, rfl⟩))
  go_cut [5] (fun s5 wx => s5 = .bool true ∧ Below w.heap.size w wx)
  case first =>
    rcases HS.out with s1 | ⟨s1, s2, s3, s4⟩
    all_goals
      subst s1
      go_wp2_with (first
        | (go_at_call 9; refine (law01_small _).mono ?_; rintro e w' ⟨rfl, hw1⟩)
        | (go_at_call 10; refine (calc_Do _ _ _ _ (by assumption) (by assumption)).mono ?_; rintro e w' ⟨rfl, n1, rfl⟩))
      go_meet
      exact ⟨rfl, by first | exact hw1 | exact below_drewN hw1 _⟩
  case rest =>
    obtain ⟨rfl, hw2⟩ := hcut
    go_upto_region 9 with (first
    | (go_at_call 9; refine (law01_small _).mono ?_; rintro e w' ⟨rfl, hw1⟩)
    | (go_at_call 10; refine (calc_Do _ _ _ _ (by assumption) (by assumption)).mono ?_; rintro e w' ⟨rfl, n1, rfl⟩))
    go_cut [113] (fun s wx => s = .bool false ∧ Below w.heap.size w wx)
    case first =>
      rcases HQ.out with ⟨x, x0, rfl, x2⟩ | ⟨q, r, rfl, rfl, rfl, rfl, x5, x6, x7, x8, x9⟩
      · subst x2
        go_wp2
        go_meet
        exact ⟨rfl, below_drewN hw2 _⟩
      · have hnb : b ≠ -9223372036854775808 → wrap64 (-b) = -b := fun h => wrapI (by unfold I64 at hb ⊢; omega)
        rcases Int.lt_trichotomy v5 0 with hr | hr | hr
        · by_cases hl : b = -9223372036854775808
          · subst hl
            have ha0 : a < 0 := by omega
            clear x6 x7 x8 x9 hnb
            go_wp2
            all_goals (go_meet; exact ⟨by first | rfl | (congr 1; simp; omega), below_drewN hw2 _⟩)
          · have hnb2 := hnb hl
            have hl2 : (b != -9223372036854775808) = true := by simpa using hl
            have ha0 : a < 0 := by omega
            rcases Int.lt_trichotomy b 0 with hb0 | hb0 | hb0
            · have h1 : v5 < -b := by omega
              have h2 : b < v5 := by omega
              clear x6 x7 x8 x9 hnb hl
              go_wp2
              all_goals (go_meet; exact ⟨by first | rfl | (congr 1; simp; omega), below_drewN hw2 _⟩)
            · exfalso; omega
            · have h1 : v5 < b := by omega
              have h2 : -b < v5 := by omega
              clear x6 x7 x8 x9 hnb hl
              go_wp2
              all_goals (go_meet; exact ⟨by first | rfl | (congr 1; simp; omega), below_drewN hw2 _⟩)
        · by_cases hl : b = -9223372036854775808
          · subst hl
            subst hr
            rw [Int.add_zero] at x5
            clear x6 x7 x8 x9 hnb
            go_wp2
            all_goals (go_meet; exact ⟨by first | rfl | (congr 1; simp; omega), below_drewN hw2 _⟩)
          · have hnb2 := hnb hl
            have hl2 : (b != -9223372036854775808) = true := by simpa using hl
            subst hr
            rw [Int.add_zero] at x5
            rcases Int.lt_trichotomy b 0 with hb0 | hb0 | hb0
            · clear x6 x7 x8 x9 hnb hl
              go_wp2
              all_goals (go_meet; exact ⟨by first | rfl | (congr 1; simp; omega), below_drewN hw2 _⟩)
            · exfalso; omega
            · clear x6 x7 x8 x9 hnb hl
              go_wp2
              all_goals (go_meet; exact ⟨by first | rfl | (congr 1; simp; omega), below_drewN hw2 _⟩)
        · by_cases hl : b = -9223372036854775808
          · subst hl
            have ha0 : 0 < a := by omega
            clear x6 x7 x8 x9 hnb
            go_wp2
            all_goals (go_meet; exact ⟨by first | rfl | (congr 1; simp; omega), below_drewN hw2 _⟩)
          · have hnb2 := hnb hl
            have hl2 : (b != -9223372036854775808) = true := by simpa using hl
            have ha0 : 0 < a := by omega
            rcases Int.lt_trichotomy b 0 with hb0 | hb0 | hb0
            · have h1 : v5 < -b := by omega
              have h2 : b < v5 := by omega
              clear x6 x7 x8 x9 hnb hl
              go_wp2
              all_goals (go_meet; exact ⟨by first | rfl | (congr 1; simp; omega), below_drewN hw2 _⟩)
            · exfalso; omega
            · have h1 : v5 < b := by omega
              have h2 : -b < v5 := by omega
              clear x6 x7 x8 x9 hnb hl
              go_wp2
              all_goals (go_meet; exact ⟨by first | rfl | (congr 1; simp; omega), below_drewN hw2 _⟩)
    case rest =>
      obtain ⟨rfl, hw3⟩ := hcut
      obtain ⟨c1, c2⟩ := ex_cmp a b
      rcases Bool.eq_false_or_eq_true (b == 0) with b0 | b0
      · go_wp2_with (first
            | (go_at_call 9; refine (law01_small _).mono ?_; rintro e w' ⟨rfl, hw1⟩)
            | (go_at_call 10; refine (calc_Do _ _ _ _ (by assumption) (by assumption)).mono ?_; rintro e w' ⟨rfl, n1, rfl⟩))
        all_goals (go_ret; exact ⟨rfl, below_drewN hw3 _⟩)
      · rcases ex_mul (a := a) (b := b) ha (by simpa using b0) with m1 | ⟨m1, m2, m3, m4⟩
        · go_wp2_with (first
              | (go_at_call 9; refine (law01_small _).mono ?_; rintro e w' ⟨rfl, hw1⟩)
              | (go_at_call 10; refine (calc_Do _ _ _ _ (by assumption) (by assumption)).mono ?_; rintro e w' ⟨rfl, n1, rfl⟩))
          all_goals (go_ret; exact ⟨rfl, below_drewN hw3 _⟩)
        · go_wp2_with (first
              | (go_at_call 9; refine (law01_small _).mono ?_; rintro e w' ⟨rfl, hw1⟩)
              | (go_at_call 10; refine (calc_Do _ _ _ _ (by assumption) (by assumption)).mono ?_; rintro e w' ⟨rfl, n1, rfl⟩))
          all_goals (go_ret; exact ⟨rfl, below_drewN hw3 _⟩)
end Go.Proofs.Ytifbodndgjkgaaa
