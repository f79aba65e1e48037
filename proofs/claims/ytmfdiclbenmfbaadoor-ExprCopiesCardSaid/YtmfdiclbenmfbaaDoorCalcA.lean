/- Contracts of the functions of package calc and of its reference. -/
import Derived.Test.YtmfdiclbenmfbaaDoorRows
import Derived.Test.YtmfdiclbenmfbaaDoorCalcP
import Derived.Test.YtmfdiclbenmfbaaDoorShelf
import Derived.WalkKit
import Derived.WalkSpells
import Derived.WalkLawsBesides
import Derived.Deep.QuietTactic
import Derived.BigQuiet
namespace Go.Proofs.YtmfdiclbenmfbaaDoor
open Go.RowKit

set_option maxHeartbeats 400000 in
theorem calc_sum (a b : Int) (w : World) (ha : I64 a) (hb : I64 b) :
    Calls Tryd.prog 103 #[.int .i64 a, .int .i64 b] w fun e w' => e = .returned (.tuple #[.int .i64 (chkV (a + b)), .int .i64 (chkE (a + b))]) ∧ w = w' := by
  go_enter Tryd.func103, Tryd.ntmps103
  go_wp2
  · go_ret2
    obtain ⟨h1, h2⟩ := sum_no ha hb ‹_› ‹_›
    exact ⟨ret2 h1.symm h2.symm, rfl⟩
  · go_ret2
    obtain ⟨h1, h2⟩ := sum_yes ha hb ‹_› ‹_›
    exact ⟨ret2 h1.symm h2.symm, rfl⟩
  · go_ret2
    obtain ⟨h1, h2⟩ := sum_apart ha hb ‹_›
    exact ⟨ret2 h1.symm h2.symm, rfl⟩
set_option maxHeartbeats 400000 in
theorem calc_difference (a b : Int) (w : World) (ha : I64 a) (hb : I64 b) :
    Calls Tryd.prog 104 #[.int .i64 a, .int .i64 b] w fun e w' => e = .returned (.tuple #[.int .i64 (chkV (a - b)), .int .i64 (chkE (a - b))]) ∧ w = w' := by
  go_enter Tryd.func104, Tryd.ntmps104
  go_wp2
  · go_ret2
    obtain ⟨h1, h2⟩ := dif_same ha hb ‹_›
    exact ⟨ret2 h1.symm h2.symm, rfl⟩
  · go_ret2
    have hh := ‹_ ∧ _›
    obtain ⟨h1, h2⟩ := dif_no ha hb hh.1 hh.2
    exact ⟨ret2 h1.symm h2.symm, rfl⟩
  · go_ret2
    obtain ⟨h1, h2⟩ := dif_yes ha hb ‹_› ‹_›
    exact ⟨ret2 h1.symm h2.symm, rfl⟩
set_option maxHeartbeats 400000 in
theorem calc_size (a : Int) (w : World) (ha : I64 a) :
    Calls Tryd.prog 113 #[.int .i64 a] w fun e w' => e = .returned (.int .u64 (a.natAbs : Nat)) ∧ w = w' := by
  go_enter Tryd.func113, Tryd.ntmps113
  go_wp2
  · go_ret
    refine ⟨ret1 ?_, rfl⟩
    unfold I64 at ha
    simp only [IntKind.wrap_u64]
    omega
  · go_ret
    refine ⟨ret1 ?_, rfl⟩
    unfold I64 at ha
    simp only [IntKind.wrap_u64]
    omega
set_option maxHeartbeats 400000 in
theorem calc_quot (a b : Int) (w : World) (ha : I64 a) :
    Calls Tryd.prog 106 #[.int .i64 a, .int .i64 b] w fun e w' => e = .returned (.tuple #[.int .i64 (quoV a b), .int .i64 (remV a b), .int .i64 (quoE a b)]) ∧ ∃ n, w' = w.drewN n := by
  go_enter Tryd.func106, Tryd.ntmps106
  go_wp2
  · go_ret3
    refine ⟨?_, 0, rfl⟩
    obtain ⟨h1, h2, h3⟩ := quo_zero (a := a) ‹_›
    rw [h1, h2, h3]
    rfl
  · go_ret3
    refine ⟨?_, 0, rfl⟩
    obtain ⟨h1, h2, h3⟩ := quo_over ‹_› ‹_›
    rw [h1, h2, h3]
    rfl
  · have hb0 : ¬ b = 0 := by simpa using ‹(b == 0) = false›
    have hb1 : ¬ b = -1 := by simpa using ‹(b == -1) = false›
    have ha0 := ‹a = -9223372036854775808›
    go_quiet (fail)
    go_wp2
    go_ret3
    refine ⟨?_, _, rfl⟩
    obtain ⟨h1, h2, h3⟩ := quo_yes (a := a) ha hb0 (fun h => hb1 h.2)
    have h4 := quo_in (a := a) ha hb0 (fun h => hb1 h.2)
    have h5 := wrapI h4
    rw [h1, h2, h3]
    subst ha0
    refine ret3 ?_ ?_ rfl
    · show wrap64 _ = _
      rw [← h5]; congr 1; exact (Int.neg_tdiv ..).symm
    · show -(9223372036854775808 % b) = _
      rw [← Int.tmod_eq_emod_of_nonneg (by decide)]; exact (Int.neg_tmod ..).symm
  · have hb0 : ¬ b = 0 := by simpa using ‹(b == 0) = false›
    have ha0 := ‹¬ a = -9223372036854775808›
    go_quiet (fail)
    go_wp2
    go_ret3
    refine ⟨?_, _, rfl⟩
    obtain ⟨h1, h2, h3⟩ := quo_yes (a := a) ha hb0 (fun h => ha0 h.1)
    have h4 := quo_in (a := a) ha hb0 (fun h => ha0 h.1)
    rw [h1, h2, h3]
    exact ret3 (wrapI h4) rfl rfl
set_option maxHeartbeats 400000 in
theorem calc_product (a b : Int) (w : World) (ha : I64 a) (hb : I64 b) :
    Calls Tryd.prog 105 #[.int .i64 a, .int .i64 b] w fun e w' => e = .returned (.tuple #[.int .i64 (chkV (a * b)), .int .i64 (chkE (a * b))]) ∧ w = w' := by
  go_enter Tryd.func105, Tryd.ntmps105
  have hx : a.natAbs < 18446744073709551616 := by unfold I64 at ha; omega
  have hy : b.natAbs < 18446744073709551616 := by unfold I64 at hb; omega
  go_wp2_with (first
    | (go_at_call 112; refine (Tryd.bits_Mul64 a.natAbs b.natAbs hx hy _).mono ?_; rintro e w' ⟨rfl, rfl⟩)
    | (go_at_call 113; refine (calc_size _ _ (by assumption)).mono ?_; rintro e w' ⟨rfl, rfl⟩))
  all_goals
    go_ret2
    have hn := mul_nn a b
    first
      | have hm := mul_apart ‹(!decide (a < 0) == decide (b < 0)) = true›
      | have hm := mul_alike ‹(!decide (a < 0) == decide (b < 0)) = false›
    first
      | (have hi : ¬ I64 (a * b) := by (unfold I64; omega)
         exact ⟨ret2 (chk_no hi).1.symm (chk_no hi).2.symm, rfl⟩)
      | (have hi : I64 (a * b) := by (unfold I64; omega)
         exact ⟨ret2 (chk_yes hi).1.symm (chk_yes hi).2.symm, rfl⟩)
set_option maxHeartbeats 400000 in
theorem calc_yes (b : Bool) (w : World) :
    Calls Tryd.prog 107 #[.bool b] w fun e w' => e = .returned (.tuple #[.int .i64 (yesI b), .int .i64 0]) ∧ w = w' := by
  cases b
  all_goals
    go_enter Tryd.func107, Tryd.ntmps107
    go_wp2
    go_ret2
    exact ⟨rfl, rfl⟩
set_option maxHeartbeats 1000000 in
theorem calc_Do (op a b : Int) (w : World) (ha : I64 a) (hb : I64 b) :
    Calls Tryd.prog 97 #[.int .i64 op, .int .i64 a, .int .i64 b] w fun e w' => e = .returned (.tuple #[.int .i64 (doV op a b), .int .i64 (doE op a b)]) ∧ ∃ n, w' = w.drewN n := by
  go_enter Tryd.func97, Tryd.ntmps97
  go_wp2_with (first
    | (go_at_call 103; refine (calc_sum _ _ _ (by assumption) (by assumption)).mono ?_; rintro e w' ⟨rfl, rfl⟩)
    | (go_at_call 104; refine (calc_difference _ _ _ (by assumption) (by assumption)).mono ?_; rintro e w' ⟨rfl, rfl⟩)
    | (go_at_call 105; refine (calc_product _ _ _ (by assumption) (by assumption)).mono ?_; rintro e w' ⟨rfl, rfl⟩)
    | (go_at_call 106; refine (calc_quot _ _ _ (by assumption)).mono ?_; rintro e w' ⟨rfl, nq, rfl⟩)
    | (go_at_call 107; refine (calc_yes _ _).mono ?_; rintro e w' ⟨rfl, rfl⟩))
  all_goals
    go_ret2
    refine ⟨ret2 ?_ ?_, by first | exact ⟨0, rfl⟩ | exact ⟨_, rfl⟩⟩
    all_goals simp_all [doV, doE, yesI]
  all_goals omega
set_option maxHeartbeats 400000 in
theorem calc_Neg (a : Int) (w : World) (ha : I64 a) :
    Calls Tryd.prog 96 #[.int .i64 a] w fun e w' => e = .returned (.tuple #[.int .i64 (chkV (-a)), .int .i64 (chkE (-a))]) ∧ ∃ n, w' = w.drewN n := by
  go_enter Tryd.func96, Tryd.ntmps96
  have h0 : I64 0 := by decide
  go_wp2_with (first
    | (go_at_call 97; refine (calc_Do _ _ _ _ (by assumption) (by assumption)).mono ?_; rintro e w' ⟨rfl, n, rfl⟩))
  go_ret2
  exact ⟨ret2 (by simp [doV]) (by simp [doE]), _, rfl⟩
set_option maxHeartbeats 400000 in
theorem calc_Known (op : Int) (w : World) :
    Calls Tryd.prog 50 #[.int .i64 op] w fun e w' => e = .returned (.bool (knownB op)) ∧ w = w' := by
  go_enter Tryd.func50, Tryd.ntmps50
  go_wp2
  all_goals
    go_ret
    exact ⟨ret1b (by simp [knownB]; omega), rfl⟩
set_option maxHeartbeats 400000 in
theorem ref01_Known (op : Int) (w : World) :
    Calls Tryd.prog 53 #[.int .i64 op] w fun e w' => e = .returned (.bool (knownB op)) ∧ w = w' := by
  go_enter Tryd.func53, Tryd.ntmps53
  go_wp2
  all_goals
    go_ret
    exact ⟨ret1b (by simp [knownB]; omega), rfl⟩
set_option maxHeartbeats 400000 in
theorem calc_Strength (op : Int) (w : World) :
    Calls Tryd.prog 57 #[.int .i64 op] w fun e w' => e = .returned (.int .i64 (strI op)) ∧ w = w' := by
  go_enter Tryd.func57, Tryd.ntmps57
  go_wp2
  all_goals
    go_ret
    refine ⟨ret1 ?_, rfl⟩
    simp_all [strI]
  all_goals omega
set_option maxHeartbeats 400000 in
theorem ref01_add (a b : Int) (w : World) (ha : I64 a) (hb : I64 b) :
    Calls Tryd.prog 84 #[.int .i64 a, .int .i64 b] w fun e w' => e = .returned (.tuple #[.int .i64 (chkV (a + b)), .bool (decide (I64 (a + b)))]) ∧ w = w' := by
  go_enter Tryd.func84, Tryd.ntmps84
  go_wp2
  all_goals
    go_ret2
    unfold I64 at ha hb
    have h1 : ∀ x, wrap64 x = (x + 9223372036854775808) % 18446744073709551616 - 9223372036854775808 := fun x => by unfold wrap64; rfl
    first
      | (have hi : ¬ I64 (a + b) := by (unfold I64; have := h1 (9223372036854775807 - b); have := h1 (-9223372036854775808 - b); omega)
         exact ⟨ret2b (chk_no hi).1.symm (by simp [hi]), rfl⟩)
      | (have hi : I64 (a + b) := by (unfold I64; have := h1 (9223372036854775807 - b); have := h1 (-9223372036854775808 - b); omega)
         exact ⟨ret2b (chk_yes hi).1.symm (by simp [hi]), rfl⟩)
set_option maxHeartbeats 400000 in
theorem ref01_sub (a b : Int) (w : World) (ha : I64 a) (hb : I64 b) :
    Calls Tryd.prog 85 #[.int .i64 a, .int .i64 b] w fun e w' => e = .returned (.tuple #[.int .i64 (chkV (a - b)), .bool (decide (I64 (a - b)))]) ∧ w = w' := by
  go_enter Tryd.func85, Tryd.ntmps85
  go_wp2
  all_goals
    go_ret2
    unfold I64 at ha hb
    have h1 : ∀ x, wrap64 x = (x + 9223372036854775808) % 18446744073709551616 - 9223372036854775808 := fun x => by unfold wrap64; rfl
    first
      | (have hi : ¬ I64 (a - b) := by (unfold I64; have := h1 (9223372036854775807 + b); have := h1 (-9223372036854775808 + b); omega)
         exact ⟨ret2b (chk_no hi).1.symm (by simp [hi]), rfl⟩)
      | (have hi : I64 (a - b) := by (unfold I64; have := h1 (9223372036854775807 + b); have := h1 (-9223372036854775808 + b); omega)
         exact ⟨ret2b (chk_yes hi).1.symm (by simp [hi]), rfl⟩)
end Go.Proofs.YtmfdiclbenmfbaaDoor
