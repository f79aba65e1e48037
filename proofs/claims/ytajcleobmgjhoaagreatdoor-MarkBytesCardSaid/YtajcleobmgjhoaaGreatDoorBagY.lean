/- The document's answer of layer 03: with. -/
import Derived.Test.YtajcleobmgjhoaaGreatDoorBagX
namespace Go.Proofs.YtajcleobmgjhoaaGreatDoor
open Go.RowKit
def insM (m n : Int) : Row := if 0 < n then [(m, n)] else []
def ltM (m : Int) (b : Row) : Row := b.filter fun p => decide (p.1 < m)
def gtM (m : Int) (b : Row) : Row := b.filter fun p => decide (m < p.1)
/-- A row in which a member is so often. -/
def withL (b : Row) (m n : Int) : Row := ltM m b ++ insM m n ++ gtM m b
theorem withL_len (b : Row) (m n : Int) : (withL b m n).length ≤ b.length + 1 := by
  unfold withL ltM gtM insM
  rw [List.length_append, List.length_append]
  have h : (b.filter fun p => decide (p.1 < m)).length + (b.filter fun p => decide (m < p.1)).length ≤ b.length := by
    induction b with
    | nil => simp
    | cons p r ih =>
      simp only [List.filter_cons, List.length_cons]
      by_cases h1 : p.1 < m
      · have h2 : ¬ m < p.1 := by omega
        simp only [h1, h2, decide_true, decide_false, if_true, Bool.false_eq_true, if_false, List.length_cons]
        omega
      · by_cases h2 : m < p.1
        · simp only [h1, h2, decide_true, decide_false, if_true, Bool.false_eq_true, if_false, List.length_cons]
          omega
        · simp only [h1, h2, decide_false, Bool.false_eq_true, if_false]
          omega
  split <;> simp <;> omega
theorem withL_row {b : Row} {m n : Int} (hs : Srt b) (hp : ∀ p ∈ b, 0 < p.2) : RowG (withL b m n) (fun j => if j = m then n else getM b j) := by
  have hlt : ∀ p, p ∈ ltM m b ↔ p ∈ b ∧ p.1 < m := fun p => by unfold ltM; simp [List.mem_filter]
  have hgt : ∀ p, p ∈ gtM m b ↔ p ∈ b ∧ m < p.1 := fun p => by unfold gtM; simp [List.mem_filter]
  have hin : ∀ p, p ∈ insM m n ↔ 0 < n ∧ p = (m, n) := fun p => by unfold insM; split <;> simp [*]
  have hmem : ∀ p, p ∈ withL b m n ↔ (p ∈ b ∧ p.1 < m) ∨ (0 < n ∧ p = (m, n)) ∨ (p ∈ b ∧ m < p.1) := fun p => by
    unfold withL
    rw [List.mem_append, List.mem_append, hlt, hgt, hin, or_assoc]
  refine ⟨?_, fun p h => ?_, fun k hk => ?_⟩
  · unfold withL Srt
    rw [List.pairwise_append, List.pairwise_append]
    refine ⟨⟨hs.sublist List.filter_sublist, ?_, fun p h q h2 => ?_⟩, hs.sublist List.filter_sublist, fun p h q h2 => ?_⟩
    · unfold insM; split <;> simp
    · have h3 := ((hlt p).1 h).2
      have h4 := ((hin q).1 h2).2
      rw [h4]; exact h3
    · have h4 := ((hgt q).1 h2).2
      rcases List.mem_append.1 h with h | h
      · have h3 := ((hlt p).1 h).2
        omega
      · have h3 := ((hin p).1 h).2
        rw [h3]; exact h4
  · rcases (hmem p).1 h with ⟨h1, h2⟩ | ⟨h1, rfl⟩ | ⟨h1, h2⟩
    · refine ⟨hp p h1, ?_⟩
      show p.2 = if p.1 = m then n else getM b p.1
      rw [if_neg (by omega), getM_mem hs h1]
    · exact ⟨h1, by simp⟩
    · refine ⟨hp p h1, ?_⟩
      show p.2 = if p.1 = m then n else getM b p.1
      rw [if_neg (by omega), getM_mem hs h1]
  · have hk' : 0 < if k = m then n else getM b k := hk
    show (k, if k = m then n else getM b k) ∈ _
    rw [hmem]
    by_cases e : k = m
    · rw [if_pos e] at hk' ⊢
      exact .inr (.inl ⟨hk', by rw [e]⟩)
    · rw [if_neg e] at hk' ⊢
      have h1 := mem_getM (M := b) (k := k) (by omega)
      rcases Int.lt_or_gt_of_ne e with h2 | h2
      · exact .inl ⟨h1, h2⟩
      · exact .inr (.inr ⟨h1, h2⟩)
/-- What stands after so many rows. -/
structure WInv (b : Row) (m n : Int) (k : Nat) (dn : Bool) (O : Row) : Prop where
  eq : O = ltM m (b.take k) ++ (if dn then insM m n else []) ++ gtM m (b.take k)
  no : dn = false → ∀ p ∈ b.take k, p.1 < m
  yes : dn = true → ∀ p ∈ b.drop k, m < p.1
  le : O.length ≤ k + 1
  ls : dn = false → O.length ≤ k
theorem ltM_app (m : Int) (a b : Row) : ltM m (a ++ b) = ltM m a ++ ltM m b := List.filter_append _ _
theorem gtM_app (m : Int) (a b : Row) : gtM m (a ++ b) = gtM m a ++ gtM m b := List.filter_append _ _
theorem gtM_nil {m : Int} {a : Row} (h : ∀ p ∈ a, p.1 < m) : gtM m a = [] := by
  unfold gtM
  rw [List.filter_eq_nil_iff]
  intro p hp
  have := h p hp
  simp; omega
theorem ltM_one {m : Int} {p : Int × Int} : ltM m [p] = if p.1 < m then [p] else [] := by
  unfold ltM; by_cases h : p.1 < m <;> simp [h]
theorem gtM_one {m : Int} {p : Int × Int} : gtM m [p] = if m < p.1 then [p] else [] := by
  unfold gtM; by_cases h : m < p.1 <;> simp [h]
theorem insM_len (m n : Int) : (insM m n).length ≤ 1 := by unfold insM; split <;> simp
section
variable {b : Row} {m n : Int} {k : Nat} {O : Row}
theorem WInv.nil (b : Row) (m n : Int) : WInv b m n 0 false [] := ⟨by simp [ltM, gtM], fun _ p hp => by simp at hp, fun h => (by cases h), by simp, fun _ => by simp⟩
theorem drop_gt (hs : Srt b) (hk : k < b.length) : ∀ p ∈ b.drop (k + 1), (b.getD k (0, 0)).1 < p.1 := by
  intro p hp
  obtain ⟨i, hi, rfl⟩ := List.getElem_of_mem hp
  rw [List.getElem_drop, List.getD, List.getElem?_eq_getElem hk]
  exact List.pairwise_iff_getElem.1 hs k (k + 1 + i) hk (by rw [List.length_drop] at hi; omega) (by omega)
theorem WInv.lt (h : WInv b m n k false O) (hk : k < b.length) {p : Int × Int} (hp : p = b.getD k (0, 0)) (h1 : p.1 < m) : WInv b m n (k + 1) false (O ++ [p]) := by
  have hts := take_snoc hk
  rw [← hp] at hts
  have hno := h.no rfl
  refine ⟨?_, fun _ q hq => ?_, fun h => (by cases h), by rw [List.length_append]; have := h.ls rfl; simp; omega, fun _ => by rw [List.length_append]; have := h.ls rfl; simp; omega⟩
  · have n1 : ¬ m < p.1 := by omega
    rw [hts, ltM_app, gtM_app, ltM_one, gtM_one, if_pos h1, if_neg n1, h.eq, gtM_nil hno]
    simp
  · rw [hts] at hq
    rcases List.mem_append.1 hq with hq | hq
    · exact hno q hq
    · rw [List.mem_singleton] at hq
      rw [hq]; exact h1
theorem WInv.ge (h : WInv b m n k false O) (hs : Srt b) (hk : k < b.length) {p : Int × Int} (hp : p = b.getD k (0, 0)) (h1 : m ≤ p.1) : WInv b m n (k + 1) true (O ++ insM m n ++ if p.1 = m then [] else [p]) := by
  have hts := take_snoc hk
  rw [← hp] at hts
  have hno := h.no rfl
  have hl := h.ls rfl
  refine ⟨?_, fun h => (by cases h), fun _ q hq => ?_, ?_, fun h => (by cases h)⟩
  · have n1 : ¬ p.1 < m := by omega
    by_cases e : p.1 = m
    · have n2 : ¬ m < p.1 := by omega
      rw [hts, ltM_app, gtM_app, ltM_one, gtM_one, if_neg n1, if_neg n2, if_pos e, h.eq, gtM_nil hno]
      simp
    · have n2 : m < p.1 := by omega
      rw [hts, ltM_app, gtM_app, ltM_one, gtM_one, if_neg n1, if_pos n2, if_neg e, h.eq, gtM_nil hno]
      simp
  · have := drop_gt hs hk q hq
    rw [← hp] at this
    omega
  · rw [List.length_append, List.length_append]
    have := insM_len m n
    split <;> simp <;> omega
theorem WInv.more (h : WInv b m n k true O) (hk : k < b.length) {p : Int × Int} (hp : p = b.getD k (0, 0)) : m < p.1 ∧ WInv b m n (k + 1) true (O ++ [p]) := by
  have hts := take_snoc hk
  rw [← hp] at hts
  have hm : p ∈ b.drop k := by
    rw [List.drop_eq_getElem_cons hk, hp, List.getD, List.getElem?_eq_getElem hk]
    exact List.mem_cons_self
  have h1 := h.yes rfl p hm
  refine ⟨h1, ?_, fun h => (by cases h), fun _ q hq => h.yes rfl q ?_, by rw [List.length_append]; have := h.le; simp; omega, fun h => (by cases h)⟩
  · have n1 : ¬ p.1 < m := by omega
    rw [hts, ltM_app, gtM_app, ltM_one, gtM_one, if_neg n1, if_pos h1, h.eq]
    simp
  · rw [List.drop_eq_getElem_cons hk]
    exact List.mem_cons_of_mem _ hq
theorem WInv.endT (h : WInv b m n k true O) (hk : b.length ≤ k) : O = withL b m n := by
  rw [h.eq, List.take_of_length_le hk]; rfl
theorem WInv.endF (h : WInv b m n k false O) (hk : b.length ≤ k) : O ++ insM m n = withL b m n := by
  have hno := h.no rfl
  rw [List.take_of_length_le hk] at hno
  rw [h.eq, List.take_of_length_le hk, gtM_nil hno]
  unfold withL
  rw [gtM_nil hno]
  simp
end
end Go.Proofs.YtajcleobmgjhoaaGreatDoor
