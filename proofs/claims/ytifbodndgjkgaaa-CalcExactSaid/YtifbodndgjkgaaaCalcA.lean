/- Contracts of the functions of package calc and of its reference. -/
import Derived.Test.YtifbodndgjkgaaaRows
import Derived.Test.YtifbodndgjkgaaaCalcP
import Derived.Test.YtifbodndgjkgaaaShelf
import Derived.WalkKit
import Derived.WalkSpells
import Derived.WalkLawsBesides
import Derived.Deep.QuietTactic
import Derived.BigQuiet
namespace Go.Proofs.Ytifbodndgjkgaaa
open Go.RowKit

set_option maxHeartbeats 400000 in
theorem calc_sum (a b : Int) (w : World) (ha : I64 a) (hb : I64 b) :
    Calls Try.prog 23 #[.int .i64 a, .int .i64 b] w fun e w' => e = .returned (.tuple #[.int .i64 (chkV (a + b)), .int .i64 (chkE (a + b))]) ∧ w = w' := by
  go_enter Try.func23, Try.ntmps23
  go_wp2
  · go_ret2
    obtain ⟨h1, h2⟩ := sum_no ha hb ‹_› ‹_›
    exact ⟨ret2 h1.symm h2.symm, rfl⟩
  · go_ret2
    obtain ⟨h1, h2⟩ := sum_yes ha hb ‹_› ‹_›
    exact ⟨ret2 h1.symm h2.symm, rfl⟩
  · go_ret2
    obtain ⟨h1, h2⟩ := sum_apart ha hb ‹_›
    exact ⟨ret2 h1.symm h2.symm, rfl⟩
set_option maxHeartbeats 400000 in
theorem calc_difference (a b : Int) (w : World) (ha : I64 a) (hb : I64 b) :
    Calls Try.prog 24 #[.int .i64 a, .int .i64 b] w fun e w' => e = .returned (.tuple #[.int .i64 (chkV (a - b)), .int .i64 (chkE (a - b))]) ∧ w = w' := by
  go_enter Try.func24, Try.ntmps24
  go_wp2
  · go_ret2
    obtain ⟨h1, h2⟩ := dif_same ha hb ‹_›
    exact ⟨ret2 h1.symm h2.symm, rfl⟩
  · go_ret2
    have hh := ‹_ ∧ _›
    obtain ⟨h1, h2⟩ := dif_no ha hb hh.1 hh.2
    exact ⟨ret2 h1.symm h2.symm, rfl⟩
  · go_ret2
    obtain ⟨h1, h2⟩ := dif_yes ha hb ‹_› ‹_›
    exact ⟨ret2 h1.symm h2.symm, rfl⟩
set_option maxHeartbeats 400000 in
theorem calc_size (a : Int) (w : World) (ha : I64 a) :
    Calls Try.prog 36 #[.int .i64 a] w fun e w' => e = .returned (.int .u64 (a.natAbs : Nat)) ∧ w = w' := by
  go_enter Try.func36, Try.ntmps36
  go_wp2
  · go_ret
    refine ⟨ret1 ?_, rfl⟩
    unfold I64 at ha
    simp only [IntKind.wrap_u64]
    omega
  · go_ret
    refine ⟨ret1 ?_, rfl⟩
    unfold I64 at ha
    simp only [IntKind.wrap_u64]
    omega
set_option maxHeartbeats 400000 in
theorem calc_quot (a b : Int) (w : World) (ha : I64 a) :
    Calls Try.prog 26 #[.int .i64 a, .int .i64 b] w fun e w' => e = .returned (.tuple #[.int .i64 (quoV a b), .int .i64 (remV a b), .int .i64 (quoE a b)]) ∧ ∃ n, w' = w.drewN n := by
  go_enter Try.func26, Try.ntmps26
  go_wp2
  · go_ret3
    refine ⟨?_, 0, rfl⟩
    obtain ⟨h1, h2, h3⟩ := quo_zero (a := a) ‹_›
    rw [h1, h2, h3]
    rfl
  · go_ret3
    refine ⟨?_, 0, rfl⟩
    obtain ⟨h1, h2, h3⟩ := quo_over ‹_› ‹_›
    rw [h1, h2, h3]
    rfl
  · have hb0 : ¬ b = 0 := by simpa using ‹(b == 0) = false›
    have hb1 : ¬ b = -1 := by simpa using ‹(b == -1) = false›
    have ha0 := ‹a = -9223372036854775808›
    go_quiet (fail)
    go_wp2
    go_ret3
    refine ⟨?_, _, rfl⟩
    obtain ⟨h1, h2, h3⟩ := quo_yes (a := a) ha hb0 (fun h => hb1 h.2)
    have h4 := quo_in (a := a) ha hb0 (fun h => hb1 h.2)
    have h5 := wrapI h4
    rw [h1, h2, h3]
    subst ha0
    refine ret3 ?_ ?_ rfl
    · show wrap64 _ = _
      rw [← h5]; congr 1; exact (Int.neg_tdiv ..).symm
    · show -(9223372036854775808 % b) = _
      rw [← Int.tmod_eq_emod_of_nonneg (by decide)]; exact (Int.neg_tmod ..).symm
  · have hb0 : ¬ b = 0 := by simpa using ‹(b == 0) = false›
    have ha0 := ‹¬ a = -9223372036854775808›
    go_quiet (fail)
    go_wp2
    go_ret3
    refine ⟨?_, _, rfl⟩
    obtain ⟨h1, h2, h3⟩ := quo_yes (a := a) ha hb0 (fun h => ha0 h.1)
    have h4 := quo_in (a := a) ha hb0 (fun h => ha0 h.1)
    rw [h1, h2, h3]
    exact ret3 (wrapI h4) rfl rfl
set_option maxHeartbeats 400000 in
theorem calc_product (a b : Int) (w : World) (ha : I64 a) (hb : I64 b) :
    Calls Try.prog 25 #[.int .i64 a, .int .i64 b] w fun e w' => e = .returned (.tuple #[.int .i64 (chkV (a * b)), .int .i64 (chkE (a * b))]) ∧ w = w' := by
  go_enter Try.func25, Try.ntmps25
  have hx : a.natAbs < 18446744073709551616 := by unfold I64 at ha; omega
  have hy : b.natAbs < 18446744073709551616 := by unfold I64 at hb; omega
  go_wp2_with (first
    | (go_at_call 35; refine (Try.bits_Mul64 a.natAbs b.natAbs hx hy _).mono ?_; rintro e w' ⟨rfl, rfl⟩)
    | (go_at_call 36; refine (calc_size _ _ (by assumption)).mono ?_; rintro e w' ⟨rfl, rfl⟩))
  all_goals
    go_ret2
    have hn := mul_nn a b
    first
      | have hm := mul_apart ‹(!decide (a < 0) == decide (b < 0)) = true›
      | have hm := mul_alike ‹(!decide (a < 0) == decide (b < 0)) = false›
    first
      | (have hi : ¬ I64 (a * b) := by (unfold I64; omega)
         exact ⟨ret2 (chk_no hi).1.symm (chk_no hi).2.symm, rfl⟩)
      | (have hi : I64 (a * b) := by (unfold I64; omega)
         exact ⟨ret2 (chk_yes hi).1.symm (chk_yes hi).2.symm, rfl⟩)
set_option maxHeartbeats 400000 in
theorem calc_yes (b : Bool) (w : World) :
    Calls Try.prog 27 #[.bool b] w fun e w' => e = .returned (.tuple #[.int .i64 (yesI b), .int .i64 0]) ∧ w = w' := by
  cases b
  all_goals
    go_enter Try.func27, Try.ntmps27
    go_wp2
    go_ret2
    exact ⟨rfl, rfl⟩
set_option maxHeartbeats 1000000 in
theorem calc_Do (op a b : Int) (w : World) (ha : I64 a) (hb : I64 b) :
    Calls Try.prog 10 #[.int .i64 op, .int .i64 a, .int .i64 b] w fun e w' => e = .returned (.tuple #[.int .i64 (doV op a b), .int .i64 (doE op a b)]) ∧ ∃ n, w' = w.drewN n := by
  go_enter Try.func10, Try.ntmps10
  go_wp2_with (first
    | (go_at_call 23; refine (calc_sum _ _ _ (by assumption) (by assumption)).mono ?_; rintro e w' ⟨rfl, rfl⟩)
    | (go_at_call 24; refine (calc_difference _ _ _ (by assumption) (by assumption)).mono ?_; rintro e w' ⟨rfl, rfl⟩)
    | (go_at_call 25; refine (calc_product _ _ _ (by assumption) (by assumption)).mono ?_; rintro e w' ⟨rfl, rfl⟩)
    | (go_at_call 26; refine (calc_quot _ _ _ (by assumption)).mono ?_; rintro e w' ⟨rfl, nq, rfl⟩)
    | (go_at_call 27; refine (calc_yes _ _).mono ?_; rintro e w' ⟨rfl, rfl⟩))
  all_goals
    go_ret2
    refine ⟨ret2 ?_ ?_, by first | exact ⟨0, rfl⟩ | exact ⟨_, rfl⟩⟩
    all_goals simp_all [doV, doE, yesI]
  all_goals omega
set_option maxHeartbeats 400000 in
theorem calc_Neg (a : Int) (w : World) (ha : I64 a) :
    Calls Try.prog 12 #[.int .i64 a] w fun e w' => e = .returned (.tuple #[.int .i64 (chkV (-a)), .int .i64 (chkE (-a))]) ∧ ∃ n, w' = w.drewN n := by
  go_enter Try.func12, Try.ntmps12
  have h0 : I64 0 := by decide
  go_wp2_with (first
    | (go_at_call 10; refine (calc_Do _ _ _ _ (by assumption) (by assumption)).mono ?_; rintro e w' ⟨rfl, n, rfl⟩))
  go_ret2
  exact ⟨ret2 (by simp [doV]) (by simp [doE]), _, rfl⟩
set_option maxHeartbeats 400000 in
theorem calc_Known (op : Int) (w : World) :
    Calls Try.prog 13 #[.int .i64 op] w fun e w' => e = .returned (.bool (knownB op)) ∧ w = w' := by
  go_enter Try.func13, Try.ntmps13
  go_wp2
  all_goals
    go_ret
    exact ⟨ret1b (by simp [knownB]; omega), rfl⟩
set_option maxHeartbeats 400000 in
theorem ref01_Known (op : Int) (w : World) :
    Calls Try.prog 14 #[.int .i64 op] w fun e w' => e = .returned (.bool (knownB op)) ∧ w = w' := by
  go_enter Try.func14, Try.ntmps14
  go_wp2
  all_goals
    go_ret
    exact ⟨ret1b (by simp [knownB]; omega), rfl⟩
set_option maxHeartbeats 400000 in
theorem calc_Strength (op : Int) (w : World) :
    Calls Try.prog 19 #[.int .i64 op] w fun e w' => e = .returned (.int .i64 (strI op)) ∧ w = w' := by
  go_enter Try.func19, Try.ntmps19
  go_wp2
  all_goals
    go_ret
    refine ⟨ret1 ?_, rfl⟩
    simp_all [strI]
  all_goals omega
set_option maxHeartbeats 400000 in
theorem ref01_add (a b : Int) (w : World) (ha : I64 a) (hb : I64 b) :
    Calls Try.prog 28 #[.int .i64 a, .int .i64 b] w fun e w' => e = .returned (.tuple #[.int .i64 (chkV (a + b)), .bool (decide (I64 (a + b)))]) ∧ w = w' := by
  go_enter Try.func28, Try.ntmps28
  go_wp2
  all_goals
    go_ret2
    unfold I64 at ha hb
    have h1 : ∀ x, wrap64 x = (x + 9223372036854775808) % 18446744073709551616 - 9223372036854775808 := fun x => by unfold wrap64; rfl
    first
      | (have hi : ¬ I64 (a + b) := by (unfold I64; have := h1 (9223372036854775807 - b); have := h1 (-9223372036854775808 - b); omega)
         exact ⟨ret2b (chk_no hi).1.symm (by simp [hi]), rfl⟩)
      | (have hi : I64 (a + b) := by (unfold I64; have := h1 (9223372036854775807 - b); have := h1 (-9223372036854775808 - b); omega)
         exact ⟨ret2b (chk_yes hi).1.symm (by simp [hi]), rfl⟩)
set_option maxHeartbeats 400000 in
theorem ref01_sub (a b : Int) (w : World) (ha : I64 a) (hb : I64 b) :
    Calls Try.prog 29 #[.int .i64 a, .int .i64 b] w fun e w' => e = .returned (.tuple #[.int .i64 (chkV (a - b)), .bool (decide (I64 (a - b)))]) ∧ w = w' := by
  go_enter Try.func29, Try.ntmps29
  go_wp2
  all_goals
    go_ret2
    unfold I64 at ha hb
    have h1 : ∀ x, wrap64 x = (x + 9223372036854775808) % 18446744073709551616 - 9223372036854775808 := fun x => by unfold wrap64; rfl
    first
      | (have hi : ¬ I64 (a - b) := by (unfold I64; have := h1 (9223372036854775807 + b); have := h1 (-9223372036854775808 + b); omega)
         exact ⟨ret2b (chk_no hi).1.symm (by simp [hi]), rfl⟩)
      | (have hi : I64 (a - b) := by (unfold I64; have := h1 (9223372036854775807 + b); have := h1 (-9223372036854775808 + b); omega)
         exact ⟨ret2b (chk_yes hi).1.symm (by simp [hi]), rfl⟩)
end Go.Proofs.Ytifbodndgjkgaaa
