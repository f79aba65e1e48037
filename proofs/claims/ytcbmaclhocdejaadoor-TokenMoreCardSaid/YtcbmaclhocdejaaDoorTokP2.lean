/- Plain words of package token: numbers. -/
import Derived.Test.YtcbmaclhocdejaaDoorTokP
import Derived.Lib.SlicesS
namespace Go.Proofs.YtcbmaclhocdejaaDoor
/-- The number of digits read so far. -/
def numF : Int → List UInt8 → Int
  | n, [] => n
  | n, c :: r => numF (n * 10 + ((c.toNat : Int) - 48)) r
def allDigits (l : List UInt8) : Bool := l.all isDigit
theorem numF_ge (l : List UInt8) (h : allDigits l = true) : ∀ n : Int, 0 ≤ n → n ≤ numF n l := by
  induction l with
  | nil => intro n _; exact Int.le_refl _
  | cons c r ih =>
    intro n hn
    have hc : isDigit c = true ∧ allDigits r = true := by simpa [allDigits] using h
    have h1 : 48 ≤ c.toNat := by have := hc.1; simp [isDigit] at this; exact this.1
    have := ih hc.2 (n * 10 + ((c.toNat : Int) - 48)) (by omega)
    simp only [numF]
    omega
/-- Number's answer. -/
def numOk (l : List UInt8) : Bool := decide (l ≠ []) && !(decide (1 < l.length) && decide (l.head? = some 48)) && allDigits l && decide (numF 0 l ≤ 9223372036854775807)
def numV (l : List UInt8) : Int := if numOk l then numF 0 l else 0
theorem runL_all {l : List UInt8} : runL isDigit l 0 = l.length ↔ allDigits l = true := by
  unfold runL allDigits
  simp only [List.drop_zero, Nat.zero_add]
  induction l with
  | nil => simp
  | cons c r ih =>
    by_cases h : isDigit c = true
    · rw [List.takeWhile_cons_of_pos h]; simp [h, ih]
    · rw [List.takeWhile_cons_of_neg h]; simp [h]
theorem toList_data (s : ByteArray) : s.toList = s.data.toList := ByteArray.toList_eq s
theorem head_get (s : ByteArray) (h : 0 < s.size) : s.data.toList.head? = some s[0] := by
  have : 0 < s.data.toList.length := by simpa using h
  rw [List.head?_eq_getElem?, List.getElem?_eq_getElem this]; rfl
theorem num_bad_absurd {s : ByteArray} (h : s.data.toList = [] ∨ (1 < s.size ∧ s.data.toList.head? = some 48) ∨ allDigits s.data.toList = false)
    (h1 : ¬ s.toList = []) (h2 : ¬ runL isDigit s.data.toList 0 < s.size) (h3 : s.size ≤ 1 ∨ ∃ h0 : 0 < s.size, ¬ (s[0].toNat : Int) = 48) : False := by
  have hsz : s.data.toList.length = s.size := by simp
  rcases h with h | ⟨h4, h5⟩ | h
  · exact h1 ((toList_data s).trans h)
  · rcases h3 with h3 | ⟨h0, h3⟩
    · omega
    · rw [head_get s h0] at h5
      injection h5 with h5
      rw [h5] at h3
      exact h3 rfl
  · have := runL_le isDigit s.data.toList 0 (by omega)
    have h6 := (runL_all (l := s.data.toList)).1 (by omega)
    rw [h6] at h
    cases h
/-- The form of a number, but for its size. -/
def numForm (l : List UInt8) : Prop := l ≠ [] ∧ ¬ (1 < l.length ∧ l.head? = some 48) ∧ allDigits l = true
theorem num_yes {l : List UInt8} (h : numForm l) (h2 : numF 0 l ≤ 9223372036854775807) : numV l = numF 0 l ∧ numOk l = true := by
  obtain ⟨h3, h4, h5⟩ := h
  have hk : numOk l = true := by
    simp only [numOk, h3, h5, h2, ne_eq, not_false_eq_true, decide_true, Bool.true_and, Bool.and_true, Bool.not_eq_true', Bool.and_eq_false_imp, decide_eq_true_eq, decide_eq_false_iff_not]
    exact fun h6 h7 => h4 ⟨h6, h7⟩
  exact ⟨by simp [numV, hk], hk⟩
theorem num_no {l : List UInt8} (h2 : ¬ (numForm l ∧ numF 0 l ≤ 9223372036854775807)) : numV l = 0 ∧ numOk l = false := by
  have hk : numOk l = false := by
    rw [Bool.eq_false_iff]
    intro hk
    simp only [numOk, Bool.and_eq_true, decide_eq_true_eq, Bool.not_eq_true', Bool.and_eq_false_imp, decide_eq_false_iff_not] at hk
    exact h2 ⟨⟨hk.1.1.1, fun h => hk.1.1.2 h.1 h.2, hk.1.2⟩, hk.2⟩
  exact ⟨by simp [numV, hk], hk⟩
theorem digits_at {l : List UInt8} (h : allDigits l = true) {k : Nat} (hk : k < l.length) : 48 ≤ l[k].toNat ∧ l[k].toNat ≤ 57 := by
  have := List.all_eq_true.1 h l[k] (List.getElem_mem hk)
  simpa [isDigit] using this
theorem digits_drop {l : List UInt8} (h : allDigits l = true) (k : Nat) : allDigits (l.drop k) = true :=
  List.all_eq_true.2 fun c hc => List.all_eq_true.1 h c (List.mem_of_mem_drop hc)
end Go.Proofs.YtcbmaclhocdejaaDoor
