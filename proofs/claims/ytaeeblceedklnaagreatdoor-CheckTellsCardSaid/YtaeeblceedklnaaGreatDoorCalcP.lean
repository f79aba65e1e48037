/- The plain answers of package calc, as functions of integers: no program in sight. -/
import Derived.WalkKit
namespace Go.Proofs.YtaeeblceedklnaaGreatDoor
open Go.RowKit

abbrev I64 (x : Int) : Prop := -9223372036854775808 ≤ x ∧ x ≤ 9223372036854775807
instance (x : Int) : Decidable (I64 x) := by unfold I64; infer_instance
def chkV (x : Int) : Int := if I64 x then x else 0
def chkE (x : Int) : Int := if I64 x then 0 else 6
def yesI (b : Bool) : Int := if b then 1 else 0
def quoE (a b : Int) : Int := if b = 0 then 7 else if I64 (a.tdiv b) then 0 else 6
def quoV (a b : Int) : Int := if quoE a b = 0 then a.tdiv b else 0
def remV (a b : Int) : Int := if quoE a b = 0 then a.tmod b else 0
/-- Do's number. -/
def doV (op a b : Int) : Int :=
  if op = 1 then chkV (a + b) else if op = 2 then chkV (a - b) else if op = 3 then chkV (a * b)
  else if op = 4 then quoV a b else if op = 5 then remV a b
  else if op = 6 then yesI (decide (a = b)) else if op = 7 then yesI (decide (a ≠ b)) else if op = 8 then yesI (decide (a < b))
  else if op = 9 then yesI (decide (a ≤ b)) else if op = 10 then yesI (decide (a ≠ 0 ∧ b ≠ 0)) else if op = 11 then yesI (decide (a ≠ 0 ∨ b ≠ 0)) else 0
/-- Do's error. -/
def doE (op a b : Int) : Int :=
  if op = 1 then chkE (a + b) else if op = 2 then chkE (a - b) else if op = 3 then chkE (a * b)
  else if op = 4 then quoE a b else if op = 5 then quoE a b
  else if 6 ≤ op ∧ op ≤ 11 then 0 else 1

theorem wrapI {x : Int} (h : I64 x) : wrap64 x = x := IntWalk.wrap64_in x h
theorem wrapI_bd (x : Int) : I64 (wrap64 x) := by unfold I64 wrap64; omega
theorem ret1 {k : IntKind} {a b : Int} (h : a = b) : Ending.returned (.int k a) = .returned (.int k b) := by rw [h]
theorem ret2 {k l : IntKind} {a b c d : Int} (h : a = b) (g : c = d) : Ending.returned (.tuple #[.int k a, .int l c]) = .returned (.tuple #[.int k b, .int l d]) := by rw [h, g]
theorem ret3 {k l m : IntKind} {a b c d x y : Int} (h : a = b) (g : c = d) (i : x = y) : Ending.returned (.tuple #[.int k a, .int l c, .int m x]) = .returned (.tuple #[.int k b, .int l d, .int m y]) := by rw [h, g, i]
theorem ret2b {k : IntKind} {a b : Int} {c d : Bool} (h : a = b) (g : c = d) : Ending.returned (.tuple #[.int k a, .bool c]) = .returned (.tuple #[.int k b, .bool d]) := by rw [h, g]

section
variable {a b : Int} (ha : I64 a) (hb : I64 b)
include ha hb
theorem sum_no (h1 : a < 0 ↔ b < 0) (h2 : (!decide (wrap64 (a + b) < 0) == decide (b < 0)) = true) : chkV (a + b) = 0 ∧ chkE (a + b) = 6 := by
  have hw : wrap64 (a + b) = (a + b + 9223372036854775808) % 18446744073709551616 - 9223372036854775808 := by unfold wrap64; rfl
  unfold I64 at ha hb
  have : ¬ I64 (a + b) := by
    unfold I64
    by_cases hb0 : b < 0 <;> simp [hb0] at h2 h1 <;> omega
  simp [chkV, chkE, this]
theorem sum_yes (h1 : a < 0 ↔ b < 0) (h2 : (!decide (wrap64 (a + b) < 0) == decide (b < 0)) = false) : chkV (a + b) = wrap64 (a + b) ∧ chkE (a + b) = 0 := by
  have hw : wrap64 (a + b) = (a + b + 9223372036854775808) % 18446744073709551616 - 9223372036854775808 := by unfold wrap64; rfl
  unfold I64 at ha hb
  have : I64 (a + b) := by
    unfold I64
    by_cases hb0 : b < 0 <;> simp [hb0] at h2 h1 <;> omega
  simp [chkV, chkE, this, wrapI this]
theorem sum_apart (h1 : ¬(a < 0 ↔ b < 0)) : chkV (a + b) = wrap64 (a + b) ∧ chkE (a + b) = 0 := by
  have : I64 (a + b) := by
    unfold I64 at *
    by_cases hb0 : b < 0 <;> simp [hb0] at h1 <;> omega
  simp [chkV, chkE, this, wrapI this]
theorem dif_same (h1 : a < 0 ↔ b < 0) : chkV (a - b) = wrap64 (a - b) ∧ chkE (a - b) = 0 := by
  have : I64 (a - b) := by
    unfold I64 at *
    by_cases hb0 : b < 0 <;> simp [hb0] at h1 <;> omega
  simp [chkV, chkE, this, wrapI this]
theorem dif_no (h1 : (!decide (a < 0) == decide (b < 0)) = true) (h2 : (!decide (wrap64 (a - b) < 0) == decide (a < 0)) = true) : chkV (a - b) = 0 ∧ chkE (a - b) = 6 := by
  have hw : wrap64 (a - b) = (a - b + 9223372036854775808) % 18446744073709551616 - 9223372036854775808 := by unfold wrap64; rfl
  unfold I64 at ha hb
  have : ¬ I64 (a - b) := by
    unfold I64
    by_cases ha0 : a < 0 <;> simp [ha0] at h2 h1 <;> omega
  simp [chkV, chkE, this]
theorem dif_yes (h0 : ¬(a < 0 ↔ b < 0)) (h1 : (!decide (a < 0) == decide (b < 0)) = false ∨ (!decide (wrap64 (a - b) < 0) == decide (a < 0)) = false) : chkV (a - b) = wrap64 (a - b) ∧ chkE (a - b) = 0 := by
  have hw : wrap64 (a - b) = (a - b + 9223372036854775808) % 18446744073709551616 - 9223372036854775808 := by unfold wrap64; rfl
  unfold I64 at ha hb
  have : I64 (a - b) := by
    unfold I64
    by_cases ha0 : a < 0 <;> simp [ha0] at h0 h1 <;> omega
  simp [chkV, chkE, this, wrapI this]
end
theorem quo_zero {a b : Int} (h : (b == 0) = true) : quoV a b = 0 ∧ remV a b = 0 ∧ quoE a b = 7 := by
  have : b = 0 := by simpa using h
  subst this
  simp [quoV, remV, quoE]
theorem quo_over {a b : Int} (h : a = -9223372036854775808) (h2 : (b == -1) = true) : quoV a b = 0 ∧ remV a b = 0 ∧ quoE a b = 6 := by
  have : b = -1 := by simpa using h2
  subst this
  subst h
  decide
theorem tdiv_bd (a b : Int) : (a.tdiv b).natAbs ≤ a.natAbs := by
  rw [Int.natAbs_tdiv]; exact Nat.div_le_self _ _
theorem tdiv_half {a b : Int} (hb : b ≠ 0) (h1 : b ≠ 1) (h2 : b ≠ -1) : 2 * (a.tdiv b).natAbs ≤ a.natAbs := by
  rw [Int.natAbs_tdiv]
  show 2 * (a.natAbs / b.natAbs) ≤ _
  have h3 : 2 ≤ b.natAbs := by omega
  have h4 : a.natAbs / b.natAbs ≤ a.natAbs / 2 := Nat.div_le_div_left h3 (by omega)
  omega
theorem quo_in {a b : Int} (ha : I64 a) (hb : ¬ b = 0) (h : ¬ (a = -9223372036854775808 ∧ b = -1)) : I64 (a.tdiv b) := by
  unfold I64 at *
  have h1 := tdiv_bd a b
  by_cases hb1 : b = -1
  · subst hb1
    have : a.tdiv (-1) = -a := by simp
    omega
  · by_cases hb2 : b = 1
    · subst hb2; simpa using ha
    · have := tdiv_half (a := a) hb hb2 hb1
      omega
theorem rem_in {a b : Int} (ha : I64 a) : I64 (a.tmod b) := by
  unfold I64 at *
  have h1 : (a.tmod b).natAbs ≤ a.natAbs := by rw [Int.natAbs_tmod]; exact Nat.mod_le _ _
  by_cases h : 0 ≤ a
  · have := Int.tmod_nonneg b h
    omega
  · have h2 : (-a).tmod b = -(a.tmod b) := Int.neg_tmod ..
    have := Int.tmod_nonneg b (a := -a) (by omega)
    omega
theorem quo_yes {a b : Int} (ha : I64 a) (hb : ¬ b = 0) (h : ¬ (a = -9223372036854775808 ∧ b = -1)) : quoV a b = a.tdiv b ∧ remV a b = a.tmod b ∧ quoE a b = 0 := by
  have hi := quo_in ha hb h
  simp [quoV, remV, quoE, hb, hi]
theorem mul_apart {a b : Int} (h : (!decide (a < 0) == decide (b < 0)) = true) : a * b = -((a.natAbs : Int) * (b.natAbs : Int)) := by
  by_cases ha : a < 0
  · have hb : ¬ b < 0 := by intro hb; simp [ha, hb] at h
    have h1 : (a.natAbs : Int) = -a := by omega
    have h2 : (b.natAbs : Int) = b := by omega
    rw [h1, h2, Int.neg_mul, Int.neg_neg]
  · have hb : b < 0 := by
      by_cases hb : b < 0
      · exact hb
      · simp [ha, hb] at h
    have h1 : (a.natAbs : Int) = a := by omega
    have h2 : (b.natAbs : Int) = -b := by omega
    rw [h1, h2, Int.mul_neg, Int.neg_neg]
theorem mul_alike {a b : Int} (h : (!decide (a < 0) == decide (b < 0)) = false) : a * b = (a.natAbs : Int) * (b.natAbs : Int) := by
  by_cases ha : a < 0
  · have hb : b < 0 := by
      by_cases hb : b < 0
      · exact hb
      · simp [ha, hb] at h
    have h1 : (a.natAbs : Int) = -a := by omega
    have h2 : (b.natAbs : Int) = -b := by omega
    rw [h1, h2, Int.neg_mul_neg]
  · have hb : ¬ b < 0 := by intro hb; simp [ha, hb] at h
    have h1 : (a.natAbs : Int) = a := by omega
    have h2 : (b.natAbs : Int) = b := by omega
    rw [h1, h2]
theorem mul_nn (a b : Int) : 0 ≤ (a.natAbs : Int) * (b.natAbs : Int) := Int.mul_nonneg (by omega) (by omega)
theorem chk_no {x : Int} (h : ¬ I64 x) : chkV x = 0 ∧ chkE x = 6 := by simp [chkV, chkE, h]
theorem chk_yes {x : Int} (h : I64 x) : chkV x = wrap64 x ∧ chkE x = 0 := by simp [chkV, chkE, h, wrapI h]
def strI (op : Int) : Int :=
  if op = 3 ∨ op = 4 ∨ op = 5 then 5 else if op = 1 ∨ op = 2 then 4 else if 6 ≤ op ∧ op ≤ 9 then 3 else if op = 10 then 2 else if op = 11 then 1 else 0
def knownB (op : Int) : Bool := decide (1 ≤ op ∧ op ≤ 11)
theorem ret1b {a b : Bool} (h : a = b) : Ending.returned (.bool a) = .returned (.bool b) := by rw [h]
/-- Fold from a number on: the number, the error. -/
def foldV (op : Int) : Int → List Int → Int
  | n, [] => n
  | n, k :: r => if doE op n k = 0 then foldV op (doV op n k) r else 0
def foldE (op : Int) : Int → List Int → Int
  | _, [] => 0
  | n, k :: r => if doE op n k = 0 then foldE op (doV op n k) r else doE op n k
/-- Fold's answer. -/
def foldLV (op : Int) (l : List Int) : Int := if knownB op then (match l with | [] => 0 | n :: r => foldV op n r) else 0
def foldLE (op : Int) (l : List Int) : Int := if knownB op then (match l with | [] => 1 | n :: r => foldE op n r) else 1
theorem chkV_in (x : Int) : I64 (chkV x) := by unfold chkV; split <;> first | assumption | decide
theorem yesI_in (b : Bool) : I64 (yesI b) := by cases b <;> decide
theorem quoV_in (a b : Int) : I64 (quoV a b) := by
  unfold quoV
  split
  · rename_i h; unfold quoE at h; split at h
    · cases h
    · split at h
      · assumption
      · cases h
  · decide
theorem doV_in (op a b : Int) (ha : I64 a) : I64 (doV op a b) := by
  unfold doV
  repeat' split
  all_goals first | exact chkV_in _ | exact yesI_in _ | exact quoV_in _ _ | decide | skip
  unfold remV; split
  · exact rem_in ha
  · decide
end Go.Proofs.YtaeeblceedklnaaGreatDoor
