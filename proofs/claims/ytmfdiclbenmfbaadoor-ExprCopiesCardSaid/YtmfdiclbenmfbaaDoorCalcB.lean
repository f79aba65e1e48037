/- Contracts of package calc's reference: the product. -/
import Derived.Test.YtmfdiclbenmfbaaDoorCalcA
namespace Go.Proofs.YtmfdiclbenmfbaaDoor
open Go.RowKit
def okB (x : Int) : Bool := decide (I64 x)
theorem mul_small {x y : Int} (hy : 1 ≤ y) (h : x ≤ 9223372036854775807 / y) : x * y ≤ 9223372036854775807 := (Int.le_ediv_iff_mul_le (by omega)).1 h
theorem mul_great {x y : Int} (hy : 1 ≤ y) (h : 9223372036854775807 / y < x) : 9223372036854775807 < x * y := (Int.ediv_lt_iff_lt_mul (by omega)).1 h
theorem mul_edge {x y : Int} (hy : 1 ≤ y) (h : x - 1 ≤ (9223372036854775807 - (y - 1)) / y) : x * y ≤ 9223372036854775808 := by
  have h1 := (Int.le_ediv_iff_mul_le (by omega)).1 h
  rw [Int.sub_mul] at h1
  omega
theorem mul_past {x y : Int} (hy : 1 ≤ y) (h : (9223372036854775807 - (y - 1)) / y < x - 1) : 9223372036854775808 < x * y := by
  have h1 := (Int.ediv_lt_iff_lt_mul (by omega)).1 h
  rw [Int.sub_mul] at h1
  omega
theorem mul_one_le {x y : Int} (hx : 1 ≤ x) (hy : 1 ≤ y) : 1 ≤ x * y := Int.mul_pos (by omega) (by omega)
theorem chk_yes' {x : Int} (h : I64 x) : chkV x = x ∧ okB x = true := by simp [chkV, okB, h]
theorem chk_no' {x : Int} (h : ¬ I64 x) : chkV x = 0 ∧ okB x = false := by simp [chkV, okB, h]
set_option maxHeartbeats 1000000 in
theorem ref01_mul_pp (x y : Int) (w : World) (hx : 1 ≤ x) (hx2 : x ≤ 9223372036854775807) (hy : 1 ≤ y) (hy2 : y ≤ 9223372036854775807) :
    Calls Tryd.prog 86 #[.int .i64 x, .int .i64 y] w fun e w' => e = .returned (.tuple #[.int .i64 (chkV (x * y)), .bool (okB (x * y))]) ∧ w = w' := by
  have n1 : (x == 0) = false := by simp; omega
  have n2 : (y == 0) = false := by simp; omega
  have n3 : (x == -9223372036854775808) = false := by simp; omega
  have n4 : (y == -9223372036854775808) = false := by simp; omega
  have hp := mul_one_le hx hy
  go_enter Tryd.func86, Tryd.ntmps86
  go_wp2
  · go_ret2
    have h1 := mul_small hy ‹x ≤ 9223372036854775807 / y›
    have hi : I64 (x * y) := by unfold I64; omega
    rw [show x * y = x * y from rfl]
    exact ⟨ret2b ((wrapI hi).trans (chk_yes' hi).1.symm) (chk_yes' hi).2.symm, rfl⟩
  · go_ret2
    have h1 := mul_great hy ‹9223372036854775807 / y < x›
    have hi : ¬ I64 (x * y) := by unfold I64; omega
    rw [show x * y = x * y from rfl]
    exact ⟨ret2b (chk_no' hi).1.symm (chk_no' hi).2.symm, rfl⟩
set_option maxHeartbeats 1000000 in
theorem ref01_mul_nn (x y : Int) (w : World) (hx : 1 ≤ x) (hx2 : x ≤ 9223372036854775807) (hy : 1 ≤ y) (hy2 : y ≤ 9223372036854775807) :
    Calls Tryd.prog 86 #[.int .i64 (-x), .int .i64 (-y)] w fun e w' => e = .returned (.tuple #[.int .i64 (chkV ((-x) * (-y))), .bool (okB ((-x) * (-y)))]) ∧ w = w' := by
  have n1 : ((-x) == 0) = false := by simp; omega
  have n2 : ((-y) == 0) = false := by simp; omega
  have n3 : ((-x) == -9223372036854775808) = false := by simp; omega
  have n4 : ((-y) == -9223372036854775808) = false := by simp; omega
  have hp := mul_one_le hx hy
  go_enter Tryd.func86, Tryd.ntmps86
  go_wp2
  · go_ret2
    have h1 := mul_small hy ‹x ≤ 9223372036854775807 / y›
    have hi : I64 (x * y) := by unfold I64; omega
    rw [Int.neg_mul_neg]
    exact ⟨ret2b ((wrapI hi).trans (chk_yes' hi).1.symm) (chk_yes' hi).2.symm, rfl⟩
  · go_ret2
    have h1 := mul_great hy ‹9223372036854775807 / y < x›
    have hi : ¬ I64 (x * y) := by unfold I64; omega
    rw [Int.neg_mul_neg]
    exact ⟨ret2b (chk_no' hi).1.symm (chk_no' hi).2.symm, rfl⟩
set_option maxHeartbeats 1000000 in
theorem ref01_mul_np (x y : Int) (w : World) (hx : 1 ≤ x) (hx2 : x ≤ 9223372036854775807) (hy : 1 ≤ y) (hy2 : y ≤ 9223372036854775807) :
    Calls Tryd.prog 86 #[.int .i64 (-x), .int .i64 y] w fun e w' => e = .returned (.tuple #[.int .i64 (chkV ((-x) * y)), .bool (okB ((-x) * y))]) ∧ w = w' := by
  have n1 : ((-x) == 0) = false := by simp; omega
  have n2 : (y == 0) = false := by simp; omega
  have n3 : ((-x) == -9223372036854775808) = false := by simp; omega
  have n4 : (y == -9223372036854775808) = false := by simp; omega
  have hp := mul_one_le hx hy
  go_enter Tryd.func86, Tryd.ntmps86
  go_wp2
  · go_ret2
    have h1 := mul_small hy ‹x ≤ 9223372036854775807 / y›
    have e : -x * y = -(x * y) := Int.neg_mul _ _
    rw [e]
    have hi : I64 (-(x * y)) := by unfold I64; omega
    refine ⟨ret2b ?_ (chk_yes' hi).2.symm, rfl⟩
    exact (show wrap64 _ = _ by first | exact wrapI hi | (rw [← e]; exact wrapI (e ▸ hi))).trans (chk_yes' hi).1.symm
  · go_ret2
    have h1 := mul_great hy ‹9223372036854775807 / y < x›
    have h2 := mul_edge hy ‹_›
    have e : -x * y = -(x * y) := Int.neg_mul _ _
    have e2 : x * y = 9223372036854775808 := by omega
    rw [e, e2]
    exact ⟨ret2b (by decide) (by decide), rfl⟩
  · exfalso
    have h1 := mul_great hy ‹9223372036854775807 / y < x›
    have h2 := mul_edge hy ‹x - 1 ≤ (9223372036854775807 - (y - 1)) / y›
    have e2 : x * y = 9223372036854775808 := by omega
    have e3 : wrap64 (9223372036854775808 : Int) = -9223372036854775808 := by unfold wrap64; omega
    have h3 := ‹(wrap64 (x * y) == -9223372036854775808) = false›
    rw [e2, e3] at h3
    simp at h3
  · go_ret2
    have h2 := mul_past hy ‹_›
    have e : -x * y = -(x * y) := Int.neg_mul _ _
    rw [e]
    have hi : ¬ I64 (-(x * y)) := by unfold I64; omega
    exact ⟨ret2b (chk_no' hi).1.symm (chk_no' hi).2.symm, rfl⟩
set_option maxHeartbeats 1000000 in
theorem ref01_mul_pn (x y : Int) (w : World) (hx : 1 ≤ x) (hx2 : x ≤ 9223372036854775807) (hy : 1 ≤ y) (hy2 : y ≤ 9223372036854775807) :
    Calls Tryd.prog 86 #[.int .i64 x, .int .i64 (-y)] w fun e w' => e = .returned (.tuple #[.int .i64 (chkV (x * (-y))), .bool (okB (x * (-y)))]) ∧ w = w' := by
  have n1 : (x == 0) = false := by simp; omega
  have n2 : ((-y) == 0) = false := by simp; omega
  have n3 : (x == -9223372036854775808) = false := by simp; omega
  have n4 : ((-y) == -9223372036854775808) = false := by simp; omega
  have hp := mul_one_le hx hy
  go_enter Tryd.func86, Tryd.ntmps86
  go_wp2
  · go_ret2
    have h1 := mul_small hy ‹x ≤ 9223372036854775807 / y›
    have e : x * -y = -(x * y) := Int.mul_neg _ _
    rw [e]
    have hi : I64 (-(x * y)) := by unfold I64; omega
    refine ⟨ret2b ?_ (chk_yes' hi).2.symm, rfl⟩
    exact (show wrap64 _ = _ by first | exact wrapI hi | (rw [← e]; exact wrapI (e ▸ hi))).trans (chk_yes' hi).1.symm
  · go_ret2
    have h1 := mul_great hy ‹9223372036854775807 / y < x›
    have h2 := mul_edge hy ‹_›
    have e : x * -y = -(x * y) := Int.mul_neg _ _
    have e2 : x * y = 9223372036854775808 := by omega
    rw [e, e2]
    exact ⟨ret2b (by decide) (by decide), rfl⟩
  · exfalso
    have h1 := mul_great hy ‹9223372036854775807 / y < x›
    have h2 := mul_edge hy ‹x - 1 ≤ (9223372036854775807 - (y - 1)) / y›
    have e2 : x * y = 9223372036854775808 := by omega
    have e3 : wrap64 (9223372036854775808 : Int) = -9223372036854775808 := by unfold wrap64; omega
    have h3 := ‹(wrap64 (x * y) == -9223372036854775808) = false›
    rw [e2, e3] at h3
    simp at h3
  · go_ret2
    have h2 := mul_past hy ‹_›
    have e : x * -y = -(x * y) := Int.mul_neg _ _
    rw [e]
    have hi : ¬ I64 (-(x * y)) := by unfold I64; omega
    exact ⟨ret2b (chk_no' hi).1.symm (chk_no' hi).2.symm, rfl⟩
theorem okB_iff (x : Int) : okB x = decide (I64 x) := rfl
theorem least_mul {b : Int} (h0 : (b == 0) = false) (h1 : (b == 1) = false) : ¬ I64 (-9223372036854775808 * b) := by
  simp at h0 h1
  unfold I64
  omega
set_option maxHeartbeats 1000000 in
theorem ref01_mul_zero (a b : Int) (w : World) (h : a = 0 ∨ b = 0) :
    Calls Tryd.prog 86 #[.int .i64 a, .int .i64 b] w fun e w' => e = .returned (.tuple #[.int .i64 (chkV (a * b)), .bool (okB (a * b))]) ∧ w = w' := by
  rcases h with rfl | rfl
  · go_enter Tryd.func86, Tryd.ntmps86
    go_wp2
    go_ret2
    exact ⟨ret2b (by simp [chkV]) (by rw [Int.zero_mul]; decide), rfl⟩
  · by_cases h0 : a = 0
    · subst h0
      go_enter Tryd.func86, Tryd.ntmps86
      go_wp2
      go_ret2
      exact ⟨ret2b (by simp [chkV]) (by decide), rfl⟩
    · have n1 : (a == 0) = false := by simpa using h0
      clear h0
      go_enter Tryd.func86, Tryd.ntmps86
      go_wp2
      go_ret2
      exact ⟨ret2b (by simp [chkV]) (by rw [Int.mul_zero]; decide), rfl⟩
set_option maxHeartbeats 1000000 in
theorem ref01_mul_least (b : Int) (w : World) (hb : I64 b) (h0 : (b == 0) = false) :
    Calls Tryd.prog 86 #[.int .i64 (-9223372036854775808), .int .i64 b] w fun e w' => e = .returned (.tuple #[.int .i64 (chkV (-9223372036854775808 * b)), .bool (okB (-9223372036854775808 * b))]) ∧ w = w' := by
  rcases Bool.eq_false_or_eq_true (b == 1) with h1 | h1
  · have h2 : b = 1 := by simpa using h1
    subst h2
    clear h1 h0
    go_enter Tryd.func86, Tryd.ntmps86
    go_wp2
    go_ret2
    exact ⟨ret2b (by decide) (by decide), rfl⟩
  · go_enter Tryd.func86, Tryd.ntmps86
    go_wp2
    go_ret2
    have hi := least_mul h0 h1
    exact ⟨ret2b (chk_no' hi).1.symm (chk_no' hi).2.symm, rfl⟩
set_option maxHeartbeats 1000000 in
theorem ref01_mul_least2 (a : Int) (w : World) (h0 : (a == 0) = false) (h2 : (a == -9223372036854775808) = false) :
    Calls Tryd.prog 86 #[.int .i64 a, .int .i64 (-9223372036854775808)] w fun e w' => e = .returned (.tuple #[.int .i64 (chkV (a * -9223372036854775808)), .bool (okB (a * -9223372036854775808))]) ∧ w = w' := by
  rcases Bool.eq_false_or_eq_true (a == 1) with h1 | h1
  · have h2 : a = 1 := by simpa using h1
    subst h2
    clear h1 h0
    go_enter Tryd.func86, Tryd.ntmps86
    go_wp2
    go_ret2
    exact ⟨ret2b (by decide) (by decide), rfl⟩
  · go_enter Tryd.func86, Tryd.ntmps86
    go_wp2
    go_ret2
    have hi := least_mul h0 h1
    rw [Int.mul_comm] at hi
    exact ⟨ret2b (chk_no' hi).1.symm (chk_no' hi).2.symm, rfl⟩
theorem ref01_mul (a b : Int) (w : World) (ha : I64 a) (hb : I64 b) :
    Calls Tryd.prog 86 #[.int .i64 a, .int .i64 b] w fun e w' => e = .returned (.tuple #[.int .i64 (chkV (a * b)), .bool (okB (a * b))]) ∧ w = w' := by
  by_cases h0 : a = 0 ∨ b = 0
  · exact ref01_mul_zero a b w h0
  have e0 : (a == 0) = false := by simp; exact fun h => h0 (.inl h)
  have f0 : (b == 0) = false := by simp; exact fun h => h0 (.inr h)
  by_cases h1 : a = -9223372036854775808
  · subst h1; exact ref01_mul_least b w hb f0
  have e1 : (a == -9223372036854775808) = false := by simpa using h1
  by_cases h2 : b = -9223372036854775808
  · subst h2; exact ref01_mul_least2 a w e0 e1
  unfold I64 at ha hb
  by_cases ha0 : a < 0
  · by_cases hb0 : b < 0
    · have := ref01_mul_nn (-a) (-b) w (by omega) (by omega) (by omega) (by omega)
      simpa only [Int.neg_neg] using this
    · have := ref01_mul_np (-a) b w (by omega) (by omega) (by omega) (by omega)
      simpa only [Int.neg_neg] using this
  · by_cases hb0 : b < 0
    · have := ref01_mul_pn a (-b) w (by omega) (by omega) (by omega) (by omega)
      simpa only [Int.neg_neg] using this
    · exact ref01_mul_pp a b w (by omega) (by omega) (by omega) (by omega)
end Go.Proofs.YtmfdiclbenmfbaaDoor
