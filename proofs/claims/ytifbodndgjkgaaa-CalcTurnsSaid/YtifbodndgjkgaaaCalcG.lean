/- The law CalcTurns, walked. -/
import Derived.Test.YtifbodndgjkgaaaCalcF
namespace Go.Proofs.Ytifbodndgjkgaaa
open Go.RowKit
def turnOp (k : Nat) : Int := [1, 3, 6, 7, 10, 11].getD k 0
def turnCells : Array Value := #[.int .i64 1, .int .i64 3, .int .i64 6, .int .i64 7, .int .i64 10, .int .i64 11]
theorem turn_cell (k : Nat) (h : k < 6) : turnCells[k]? = some (.int .i64 (turnOp k)) := by
  have : k = 0 ∨ k = 1 ∨ k = 2 ∨ k = 3 ∨ k = 4 ∨ k = 5 := by omega
  rcases this with h | h | h | h | h | h <;> subst h <;> rfl
theorem turn_same (k : Nat) (a b : Int) : doV (turnOp k) b a = doV (turnOp k) a b ∧ doE (turnOp k) b a = doE (turnOp k) a b := by
  have h6 : turnOp k = 1 ∨ turnOp k = 3 ∨ turnOp k = 6 ∨ turnOp k = 7 ∨ turnOp k = 10 ∨ turnOp k = 11 ∨ turnOp k = 0 := by
    by_cases h : k < 6
    · have : k = 0 ∨ k = 1 ∨ k = 2 ∨ k = 3 ∨ k = 4 ∨ k = 5 := by omega
      rcases this with h | h | h | h | h | h <;> subst h <;> simp [turnOp]
    · have : turnOp k = 0 := by unfold turnOp; rw [List.getD, List.getElem?_eq_none (by simp; omega)]; rfl
      simp [this]
  have hs : b + a = a + b := Int.add_comm _ _
  have hm : b * a = a * b := Int.mul_comm _ _
  have e1 : (b = a) = (a = b) := propext ⟨fun h => h.symm, fun h => h.symm⟩
  have e2 : (b ≠ 0 ∧ a ≠ 0) = (a ≠ 0 ∧ b ≠ 0) := propext And.comm
  have e3 : (b ≠ 0 ∨ a ≠ 0) = (a ≠ 0 ∨ b ≠ 0) := propext Or.comm
  rcases h6 with h | h | h | h | h | h | h <;> rw [h] <;> simp only [doV, doE, hs, hm, e1, e2, e3, ne_eq] <;> simp
theorem neg_cases (b : Int) (hb : I64 b) : doE 2 0 b = 6 ∧ b = -9223372036854775808 ∨ doE 2 0 b = 0 ∧ doV 2 0 b = -b ∧ wrap64 (-b) = -b ∧ I64 (-b) ∧ b ≠ -9223372036854775808 := by
  by_cases h : I64 (0 - b)
  · right
    have h2 : I64 (-b) := by simpa using h
    refine ⟨by simp [doE, chkE, h2], by simp [doV, chkV, h2], wrapI h2, h2, ?_⟩
    intro h3; subst h3; exact absurd h2 (by decide)
  · left
    have h2 : ¬ I64 (-b) := by simpa using h
    refine ⟨by simp [doE, chkE, h2], ?_⟩
    unfold I64 at hb h2
    omega
theorem sub_add (a b : Int) : doV 1 a (-b) = doV 2 a b ∧ doE 1 a (-b) = doE 2 a b := by
  have : a + -b = a - b := by omega
  simp [doV, doE, this]
set_option maxHeartbeats 2000000 in
theorem law_CalcTurns (a b : Int) (w : World) (ha : I64 a) (hb : I64 b) :
    Calls Try.prog 7 #[.int .i64 a, .int .i64 b] w fun e w' => e = .returned (.bool true) ∧ Below w.heap.size w w' := by
  have hn := neg_cases b hb
  obtain ⟨s1, s2⟩ := sub_add a b
  have HN := Lib.hid hn
  have S1 := Lib.hid s1
  have S2 := Lib.hid s2
  clear hn s1 s2
  go_enter Try.func7, Try.ntmps7
  go_wp2_with (first
    | (go_at_call 9; refine (law01_small _).mono ?_; rintro e w' ⟨rfl, hw1⟩))
  go_loopw [7] (fun i wr => ∃ (k m : Nat), k ≤ 6 ∧ i = .int .i64 k ∧ wr = (w'.alloc (.cells turnCells 3)).drewN m) (fun i _ => 6 - (intOf i).toNat)
  case atStart => exact ⟨0, 0, by omega, rfl, rfl⟩
  case round =>
    obtain ⟨k, m, hk, rfl, rfl⟩ := hrel
    by_cases hlt : k < 6
    · have hc := turn_cell k hlt
      obtain ⟨t1, t2⟩ := turn_same k a b
      go_wp2_with (first
        | (go_at_call 10; refine (calc_Do _ _ _ _ (by assumption) (by assumption)).mono ?_; rintro e w' ⟨rfl, n1, rfl⟩))
      go_roundw
      case rel => exact ⟨k + 1, _, by omega, by go_num, rfl⟩
      case measure => simp [intOf]; omega
    · have hk6 : k = 6 := by omega
      subst hk6
      rcases HN.out with ⟨q1, q2⟩ | ⟨q1, q2, q3, q4, q5⟩
      · subst q2
        go_wp2_with (first
          | (go_at_call 12; refine (calc_Neg2 _ _ (by assumption)).mono ?_; rintro e w' ⟨rfl, n1, rfl⟩))
        go_ret
        exact ⟨rfl, below_drewN (hw1.alloc hw1.size _) _⟩
      · have s1 := S1.out
        have s2 := S2.out
        go_wp2_with (first
          | (go_at_call 12; refine (calc_Neg2 _ _ (by assumption)).mono ?_; rintro e w' ⟨rfl, n1, rfl⟩)
          | (go_at_call 10; refine (calc_Do _ _ _ _ (by assumption) (by assumption)).mono ?_; rintro e w' ⟨rfl, n1, rfl⟩))
        go_ret
        exact ⟨rfl, below_drewN (hw1.alloc hw1.size _) _⟩
end Go.Proofs.Ytifbodndgjkgaaa
