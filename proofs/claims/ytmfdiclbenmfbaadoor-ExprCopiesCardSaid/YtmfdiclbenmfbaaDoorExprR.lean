/- Plain: Vars. -/
import Derived.Test.YtmfdiclbenmfbaaDoorExprQ
import Derived.Lib.SlicesCompact
namespace Go.Proofs.YtmfdiclbenmfbaaDoor
open Go.RowKit
theorem strict_unique : ∀ (l m : List Int), l.Pairwise (· < ·) → m.Pairwise (· < ·) → (∀ x, x ∈ l ↔ x ∈ m) → l = m
  | [], [], _, _, _ => rfl
  | [], y :: m, _, _, h => absurd ((h y).2 (by simp)) (by simp)
  | x :: l, [], _, _, h => absurd ((h x).1 (by simp)) (by simp)
  | x :: l, y :: m, hl, hm, h => by
    rw [List.pairwise_cons] at hl hm
    have e : x = y := by
      rcases List.mem_cons.1 ((h x).1 (by simp)) with e | e
      · exact e
      · rcases List.mem_cons.1 ((h y).2 (by simp)) with e2 | e2
        · exact e2.symm
        · have := hm.1 x e; have := hl.1 y e2; omega
    subst e
    refine congrArg _ (strict_unique l m hl.2 hm.2 fun z => ⟨fun hz => ?_, fun hz => ?_⟩)
    · rcases List.mem_cons.1 ((h z).1 (by simp [hz])) with e | e
      · have := hl.1 z hz; omega
      · exact e
    · rcases List.mem_cons.1 ((h z).2 (by simp [hz])) with e | e
      · have := hm.1 z hz; omega
      · exact e
/-- A number put into its place. -/
def insV (n : Int) : List Int → List Int
  | [] => [n]
  | x :: r => if x < n then x :: insV n r else if x = n then x :: r else n :: x :: r
theorem mem_insV (n y : Int) : ∀ l : List Int, y ∈ insV n l ↔ y = n ∨ y ∈ l
  | [] => by simp [insV]
  | x :: r => by
    unfold insV
    have := mem_insV n y r
    split
    · simp only [List.mem_cons, this]
      constructor
      · rintro (h | h | h) <;> simp [h]
      · rintro (h | h | h) <;> simp [h]
    · split
      · rename_i h; subst h; simp
      · simp
theorem insV_sorted (n : Int) : ∀ l : List Int, l.Pairwise (· < ·) → (insV n l).Pairwise (· < ·)
  | [], _ => by simp [insV]
  | x :: r, h => by
    unfold insV
    have h2 := List.pairwise_cons.1 h
    split
    · rw [List.pairwise_cons]
      refine ⟨fun y hy => ?_, insV_sorted n r h2.2⟩
      rcases (mem_insV n y r).1 hy with e | e
      · omega
      · exact h2.1 y e
    · split
      · exact h
      · rw [List.pairwise_cons]
        refine ⟨fun y hy => ?_, h⟩
        rcases List.mem_cons.1 hy with e | e
        · omega
        · have := h2.1 y e; omega
mutual
/-- The document's. -/
def varsR : Tr → List Int → List Int
  | .mk k n l, acc => varsRL l (if k = 2 then insV n acc else acc)
def varsRL : List Tr → List Int → List Int
  | [], acc => acc
  | t :: r, acc => varsRL r (varsR t acc)
end
mutual
theorem mem_varsR (y : Int) : ∀ (t : Tr) (acc : List Int), y ∈ varsR t acc ↔ y ∈ acc ∨ hasT y t = true
  | .mk k n l, acc => by
    rw [varsR, mem_varsRL y l, hasT]
    split
    · rename_i h
      rw [mem_insV]
      simp only [h, decide_true, Bool.true_and, Bool.or_eq_true, decide_eq_true_eq]
      constructor
      · rintro ((h | h) | h) <;> simp [h]
      · rintro (h | h | h) <;> simp [h]
    · rename_i h
      simp [h]
theorem mem_varsRL (y : Int) : ∀ (l : List Tr) (acc : List Int), y ∈ varsRL l acc ↔ y ∈ acc ∨ hasL y l = true
  | [], acc => by rw [varsRL, hasL]; simp
  | t :: r, acc => by
    rw [varsRL, mem_varsRL y r, mem_varsR y t, hasL, Bool.or_eq_true, or_assoc]
end
mutual
theorem varsR_sorted : ∀ (t : Tr) (acc : List Int), acc.Pairwise (· < ·) → (varsR t acc).Pairwise (· < ·)
  | .mk k n l, acc, h => by
    rw [varsR]
    refine varsRL_sorted l _ ?_
    split
    · exact insV_sorted n acc h
    · exact h
theorem varsRL_sorted : ∀ (l : List Tr) (acc : List Int), acc.Pairwise (· < ·) → (varsRL l acc).Pairwise (· < ·)
  | [], acc, h => by rw [varsRL]; exact h
  | t :: r, acc, h => by
    rw [varsRL]
    exact varsRL_sorted r _ (varsR_sorted t acc h)
end
/-- Sorted, and each once. -/
def sortC (l : List Int) : List Int := Lib.compact (l.mergeSort fun x y => decide (x ≤ y))
theorem compact_ok (d : Array Int) (hs : ∀ i j : Nat, i ≤ j → j < d.size → d[i]! ≤ d[j]!) : ∀ m, m ≤ d.size → (Lib.compactUpTo d m).Pairwise (· < ·) ∧ (∀ x ∈ Lib.compactUpTo d m, ∃ i, i < m ∧ x = d[i]!) ∧ ∀ i, i < m → d[i]! ∈ Lib.compactUpTo d m
  | 0, _ => by simp [Lib.compactUpTo]
  | m + 1, hm => by
    obtain ⟨h1, h2, h3⟩ := compact_ok d hs m (by omega)
    rw [Lib.compactUpTo_succ]
    by_cases hk : Lib.keeps d m = true
    · rw [if_pos hk]
      have hlt : ∀ i, i < m → d[i]! < d[m]! := fun i hi => by
        have hk2 : m = 0 ∨ d[m]! ≠ d[m - 1]! := by simpa [Lib.keeps] using hk
        rcases hk2 with e | e
        · omega
        · have a := hs i (m - 1) (by omega) (by omega)
          have b := hs (m - 1) m (by omega) (by omega)
          omega
      refine ⟨?_, ?_, ?_⟩
      · rw [List.pairwise_append]
        refine ⟨h1, by simp, fun x hx y hy => ?_⟩
        obtain ⟨i, hi, rfl⟩ := h2 x hx
        rw [List.mem_singleton] at hy
        subst hy
        exact hlt i hi
      · intro x hx
        rcases List.mem_append.1 hx with hx | hx
        · obtain ⟨i, hi, e⟩ := h2 x hx
          exact ⟨i, by omega, e⟩
        · exact ⟨m, by omega, List.mem_singleton.1 hx⟩
      · intro i hi
        by_cases e : i = m
        · subst e; exact List.mem_append_right _ (by simp)
        · exact List.mem_append_left _ (h3 i (by omega))
    · rw [if_neg hk, List.append_nil]
      refine ⟨h1, fun x hx => ?_, fun i hi => ?_⟩
      · obtain ⟨i, hi, e⟩ := h2 x hx
        exact ⟨i, by omega, e⟩
      · by_cases e : i = m
        · subst e
          have hk2 : ¬ (i = 0 ∨ d[i]! ≠ d[i - 1]!) := by simpa [Lib.keeps] using hk
          have h0 : i ≠ 0 := fun h => hk2 (.inl h)
          have e2 : d[i]! = d[i - 1]! := Classical.byContradiction fun h => hk2 (.inr h)
          rw [e2]
          exact h3 (i - 1) (by omega)
        · exact h3 i (by omega)
theorem sortC_ok (l : List Int) : (sortC l).Pairwise (· < ·) ∧ ∀ x, x ∈ sortC l ↔ x ∈ l := by
  obtain ⟨s, hs⟩ : ∃ s, s = l.mergeSort fun x y => decide (x ≤ y) := ⟨_, rfl⟩
  have hp : s.Perm l := by rw [hs]; exact List.mergeSort_perm _ _
  have hS : s.Pairwise (fun x y => decide (x ≤ y) = true) := by
    rw [hs]
    exact List.pairwise_mergeSort (fun a b c h1 h2 => by simp at h1 h2 ⊢; omega) (fun a b => by simp; omega) l
  unfold sortC Lib.compact
  rw [← hs]
  have hord : ∀ i j : Nat, i ≤ j → j < s.toArray.size → s.toArray[i]! ≤ s.toArray[j]! := fun i j hij hj => by
    have hj' : j < s.length := by simpa using hj
    rw [getElem!_pos s.toArray i (by simp; omega), getElem!_pos s.toArray j hj]
    simp only [List.getElem_toArray]
    by_cases e : i = j
    · subst e; exact Int.le_refl _
    · have := List.pairwise_iff_getElem.1 hS i j (by omega) hj' (by omega)
      simpa using this
  obtain ⟨h1, h2, h3⟩ := compact_ok s.toArray hord s.length (by simp)
  refine ⟨h1, fun x => ⟨fun hx => ?_, fun hx => ?_⟩⟩
  · obtain ⟨i, hi, e⟩ := h2 x hx
    rw [getElem!_pos s.toArray i (by simpa using hi), List.getElem_toArray] at e
    rw [e]
    exact hp.mem_iff.1 (List.getElem_mem _)
  · obtain ⟨i, hi, e⟩ := List.getElem_of_mem (hp.mem_iff.2 hx)
    have := h3 i hi
    rw [getElem!_pos s.toArray i (by simpa using hi), List.getElem_toArray, e] at this
    exact this
mutual
/-- The program's. -/
def varsT : Tr → List Int
  | .mk k n l => sortC ((if k = 2 then [n] else []) ++ varsC l)
def varsC : List Tr → List Int
  | [] => []
  | t :: r => varsT t ++ varsC r
end
theorem varsT_eq (t : Tr) : varsT t = sortC ((if t.kind = 2 then [t.num] else []) ++ varsC t.kids) := by
  obtain ⟨k, n, l⟩ := t
  rw [varsT]; rfl
theorem varsC_nil : varsC [] = [] := by rw [varsC]
theorem varsC_cons (t : Tr) (r : List Tr) : varsC (t :: r) = varsT t ++ varsC r := by rw [varsC]
mutual
theorem mem_varsT (y : Int) : ∀ t : Tr, y ∈ varsT t ↔ hasT y t = true
  | .mk k n l => by
    rw [varsT, (sortC_ok _).2, List.mem_append, mem_varsC y l, hasT, Bool.or_eq_true]
    split
    · rename_i h; rw [List.mem_singleton, decide_eq_true h, Bool.true_and, decide_eq_true_eq]; exact or_congr ⟨Eq.symm, Eq.symm⟩ Iff.rfl
    · rename_i h; simp [h]
theorem mem_varsC (y : Int) : ∀ l : List Tr, y ∈ varsC l ↔ hasL y l = true
  | [] => by rw [varsC, hasL]; simp
  | t :: r => by rw [varsC, hasL, List.mem_append, mem_varsT y t, mem_varsC y r, Bool.or_eq_true]
end
theorem varsT_sorted : ∀ t : Tr, (varsT t).Pairwise (· < ·)
  | .mk k n l => by rw [varsT]; exact (sortC_ok _).1
theorem vars_same (t : Tr) : varsT t = varsR t [] := by
  refine strict_unique _ _ (varsT_sorted t) (varsR_sorted t [] List.Pairwise.nil) fun x => ?_
  rw [mem_varsT, mem_varsR]
  simp
end Go.Proofs.YtmfdiclbenmfbaaDoor
