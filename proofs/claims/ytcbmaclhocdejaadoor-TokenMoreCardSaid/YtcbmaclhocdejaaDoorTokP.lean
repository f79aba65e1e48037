/- Plain words of package token: bytes and runs; no program in sight. -/
import Derived.WalkKit
namespace Go.Proofs.YtcbmaclhocdejaaDoor
def isLetter (c : UInt8) : Bool := decide (97 ≤ c.toNat ∧ c.toNat ≤ 122) || decide (65 ≤ c.toNat ∧ c.toNat ≤ 90)
def isDigit (c : UInt8) : Bool := decide (48 ≤ c.toNat ∧ c.toNat ≤ 57)
def isNamed (c : UInt8) : Bool := isLetter c || isDigit c || decide (c.toNat = 95)
def isBlank (c : UInt8) : Bool := decide (c.toNat = 32 ∨ c.toNat = 9 ∨ c.toNat = 10 ∨ c.toNat = 13)
def isInline (c : UInt8) : Bool := decide (c.toNat ≠ 10)
theorem ret1b {a b : Bool} (h : a = b) : Ending.returned (.bool a) = .returned (.bool b) := by rw [h]
theorem ret1 {k : IntKind} {a b : Int} (h : a = b) : Ending.returned (.int k a) = .returned (.int k b) := by rw [h]
theorem ret2 {k l : IntKind} {a b c d : Int} (h : a = b) (g : c = d) : Ending.returned (.tuple #[.int k a, .int l c]) = .returned (.tuple #[.int k b, .int l d]) := by rw [h, g]
theorem ret2b {k : IntKind} {a b : Int} {c d : Bool} (h : a = b) (g : c = d) : Ending.returned (.tuple #[.int k a, .bool c]) = .returned (.tuple #[.int k b, .bool d]) := by rw [h, g]
theorem ret3 {k l m : IntKind} {a b c d x y : Int} (h : a = b) (g : c = d) (i : x = y) : Ending.returned (.tuple #[.int k a, .int l c, .int m x]) = .returned (.tuple #[.int k b, .int l d, .int m y]) := by rw [h, g, i]
/-- Where a run of bytes ends that are so. -/
def runL (p : UInt8 → Bool) (l : List UInt8) (k : Nat) : Nat := k + ((l.drop k).takeWhile p).length
theorem runL_step {p : UInt8 → Bool} {l : List UInt8} {k : Nat} (h : k < l.length) (hp : p l[k] = true) : runL p l (k + 1) = runL p l k := by
  unfold runL
  rw [List.drop_eq_getElem_cons h, List.takeWhile_cons_of_pos hp]
  simp; omega
theorem runL_stop {p : UInt8 → Bool} {l : List UInt8} {k : Nat} (h : k < l.length) (hp : p l[k] = false) : runL p l k = k := by
  unfold runL
  rw [List.drop_eq_getElem_cons h, List.takeWhile_cons_of_neg (by simp [hp])]
  simp
theorem runL_end {p : UInt8 → Bool} {l : List UInt8} {k : Nat} (h : l.length ≤ k) : runL p l k = k := by
  unfold runL
  rw [List.drop_eq_nil_of_le h]
  simp
theorem runL_ge (p : UInt8 → Bool) (l : List UInt8) (k : Nat) : k ≤ runL p l k := by unfold runL; omega
theorem runL_le (p : UInt8 → Bool) (l : List UInt8) (k : Nat) (h : k ≤ l.length) : runL p l k ≤ l.length := by
  unfold runL
  have := List.Sublist.length_le (List.takeWhile_sublist p (l := l.drop k))
  rw [List.length_drop] at this
  omega
theorem drop_runL (p : UInt8 → Bool) (l : List UInt8) (k : Nat) : l.drop (runL p l k) = (l.drop k).dropWhile p := by
  unfold runL
  rw [← List.drop_drop]
  generalize l.drop k = r
  induction r with
  | nil => simp
  | cons c r ih =>
    by_cases h : p c = true
    · rw [List.takeWhile_cons_of_pos h, List.dropWhile_cons_of_pos h]; simpa using ih
    · rw [List.takeWhile_cons_of_neg h, List.dropWhile_cons_of_neg h]; simp
/-- What is left of a text behind what is no token; the Bool: inside a remark. -/
def skipC : Bool → List UInt8 → List UInt8
  | _, [] => []
  | false, c :: r => if isBlank c then skipC false r else if c = 35 then skipC true r else c :: r
  | true, c :: r => if isInline c then skipC true r else skipC false r
theorem skipC_blank (r : List UInt8) : skipC false r = skipC false (r.dropWhile isBlank) := by
  induction r with
  | nil => rfl
  | cons c r ih =>
    by_cases h : isBlank c = true
    · rw [List.dropWhile_cons_of_pos h, ← ih]; simp [skipC, h]
    · rw [List.dropWhile_cons_of_neg h]
theorem skipC_inline (r : List UInt8) : skipC true r = skipC false (r.dropWhile isInline) := by
  induction r with
  | nil => rfl
  | cons c r ih =>
    by_cases h : isInline c = true
    · rw [List.dropWhile_cons_of_pos h, ← ih]; simp [skipC, h]
    · rw [List.dropWhile_cons_of_neg h]
      have h2 : c = 10 := by
        have : c.toNat = 10 := by simpa [isInline] using h
        exact UInt8.toNat_inj.1 this
      subst h2
      simp [skipC, isInline, isBlank]
theorem skipC_len (b : Bool) (r : List UInt8) : (skipC b r).length ≤ r.length := by
  induction r generalizing b with
  | nil => cases b <;> simp [skipC]
  | cons c r ih =>
    have h1 := ih true
    have h2 := ih false
    cases b
    · simp only [skipC]; split
      · simp; omega
      · split
        · simp; omega
        · simp
    · simp only [skipC]; split <;> simp <;> omega
/-- Where the next token begins. -/
def skipTo (l : List UInt8) (k : Nat) : Nat := l.length - (skipC false (l.drop k)).length
theorem skipTo_stop {l : List UInt8} {k : Nat} (h : k < l.length) (hb : isBlank l[k] = false) (hh : (l[k].toNat == 35) = false) : skipTo l k = k := by
  have h35 : ¬ l[k] = 35 := by intro e; rw [e] at hh; exact absurd hh (by decide)
  unfold skipTo
  rw [List.drop_eq_getElem_cons h]
  simp [skipC, hb, h35]; omega
theorem skipTo_end (l : List UInt8) : skipTo l l.length = l.length := by simp [skipTo, skipC]
theorem skipTo_blank (l : List UInt8) (k : Nat) : skipTo l k = skipTo l (runL isBlank l k) := by
  unfold skipTo; rw [drop_runL, ← skipC_blank]
theorem skipTo_hash {l : List UInt8} {k : Nat} (h : k < l.length) (hh : (l[k].toNat == 35) = true) : skipTo l k = skipTo l (runL isInline l k) ∧ k < runL isInline l k := by
  have h35 : l[k] = 35 := UInt8.toNat_inj.1 (by simpa using hh)
  have hi : isInline l[k] = true := by rw [h35]; decide
  constructor
  · unfold skipTo
    rw [drop_runL, List.drop_eq_getElem_cons h, List.dropWhile_cons_of_pos hi, ← skipC_inline]
    rw [h35]
    rfl
  · have := runL_ge isInline l (k + 1)
    rw [runL_step h hi] at this
    omega
theorem runL_blank_not {l : List UInt8} {k : Nat} (h : runL isBlank l k < l.length) : isBlank (l[runL isBlank l k]'h) = false := by
  have h1 := drop_runL isBlank l k
  rw [List.drop_eq_getElem_cons h] at h1
  have h2 := List.head?_dropWhile_not isBlank (l.drop k)
  rw [← h1] at h2
  simpa [List.getElem?_eq_getElem h] using h2
end Go.Proofs.YtcbmaclhocdejaaDoor
