/- Contracts of package calc's reference: the product. -/
import Derived.Test.YtaeeblceedklnaaGreatDoorCalcA
namespace Go.Proofs.YtaeeblceedklnaaGreatDoor
open Go.RowKit
def okB (x : Int) : Bool := decide (I64 x)
theorem mul_small {x y : Int} (hy : 1 ≤ y) (h : x ≤ 9223372036854775807 / y) : x * y ≤ 9223372036854775807 := (Int.le_ediv_iff_mul_le (by omega)).1 h
theorem mul_great {x y : Int} (hy : 1 ≤ y) (h : 9223372036854775807 / y < x) : 9223372036854775807 < x * y := (Int.ediv_lt_iff_lt_mul (by omega)).1 h
theorem mul_edge {x y : Int} (hy : 1 ≤ y) (h : x - 1 ≤ (9223372036854775807 - (y - 1)) / y) : x * y ≤ 9223372036854775808 := by
  have h1 := (Int.le_ediv_iff_mul_le (by omega)).1 h
  rw [Int.sub_mul] at h1
  omega
theorem mul_past {x y : Int} (hy : 1 ≤ y) (h : (9223372036854775807 - (y - 1)) / y < x - 1) : 9223372036854775808 < x * y := by
  have h1 := (Int.ediv_lt_iff_lt_mul (by omega)).1 h
  rw [Int.sub_mul] at h1
  omega
theorem mul_one_le {x y : Int} (hx : 1 ≤ x) (hy : 1 ≤ y) : 1 ≤ x * y := Int.mul_pos (by omega) (by omega)
theorem chk_yes' {x : Int} (h : I64 x) : chkV x = x ∧ okB x = true := by simp [chkV, okB, h]
theorem chk_no' {x : Int} (h : ¬ I64 x) : chkV x = 0 ∧ okB x = false := by simp [chkV, okB, h]
theorem okB_iff (x : Int) : okB x = decide (I64 x) := rfl
theorem least_mul {b : Int} (h0 : (b == 0) = false) (h1 : (b == 1) = false) : ¬ I64 (-9223372036854775808 * b) := by
  simp at h0 h1
  unfold I64
  omega
end Go.Proofs.YtaeeblceedklnaaGreatDoor
