/- Plain words of package timer: a heap of entries as a list; sorted rows; no program in sight. -/
namespace Go.Proofs.Ytkcggnfbmbfciaa
/-- An entry: its block, id and time. -/
structure Ent where
  blk : Nat
  id : Int
  at_ : Int
def e0 : Ent := ⟨0, 0, 0⟩
def ltE (a b : Ent) : Prop := a.at_ < b.at_ ∨ a.at_ = b.at_ ∧ a.id < b.id
def leE (a b : Ent) : Prop := ¬ ltE b a
theorem leE_trans {a b c : Ent} (h : leE a b) (g : leE b c) : leE a c := by unfold leE ltE at *; omega
theorem leE_of_lt {a b : Ent} (h : ltE a b) : leE a b := by unfold leE ltE at *; omega
theorem leE_total (a b : Ent) : leE a b ∨ leE b a := by unfold leE ltE at *; omega
theorem leE_refl (a : Ent) : leE a a := by unfold leE ltE at *; omega
def gE (l : List Ent) (k : Nat) : Ent := l.getD k e0
/-- Two places exchanged. -/
def swp (l : List Ent) (i j : Nat) : List Ent := (l.set i (gE l j)).set j (gE l i)
theorem swp_len (l : List Ent) (i j : Nat) : (swp l i j).length = l.length := by simp [swp]
theorem swp_get {l : List Ent} {i j : Nat} (hi : i < l.length) (hj : j < l.length) (k : Nat) : gE (swp l i j) k = if k = j then gE l i else if k = i then gE l j else gE l k := by
  unfold swp gE
  by_cases hkj : k = j
  · subst hkj; simp [List.getD, hj]
  · by_cases hki : k = i
    · subst hki
      have : ¬ j = k := fun h => hkj h.symm
      simp [List.getD, this, hi, hkj]
    · have h1 : ¬ j = k := fun h => hkj h.symm
      have h2 : ¬ i = k := fun h => hki h.symm
      simp [List.getD, h1, h2, hkj, hki]
theorem swp_perm {l : List Ent} {i j : Nat} (hi : i < l.length) (hj : j < l.length) : (swp l i j).Perm l := by
  have h := Array.swap_perm (xs := l.toArray) (i := i) (j := j) (by simpa using hi) (by simpa using hj)
  have h2 := Array.perm_iff_toList_perm.1 h
  have e : (l.toArray.swap i j (by simpa using hi) (by simpa using hj)).toList = swp l i j := by
    simp [swp, gE, Array.swap, List.getD, hi, hj]
  rw [e] at h2
  simpa using h2
/-- The first n are a heap. -/
def HeapN (l : List Ent) (n : Nat) : Prop := ∀ k, 0 < k → k < n → leE (gE l ((k - 1) / 2)) (gE l k)
def UpN (l : List Ent) (n j : Nat) : Prop :=
  (∀ k, 0 < k → k < n → k ≠ j → leE (gE l ((k - 1) / 2)) (gE l k)) ∧ (∀ k, 0 < k → k < n → (k - 1) / 2 = j → 0 < j → leE (gE l ((j - 1) / 2)) (gE l k))
def HoleN (l : List Ent) (n i : Nat) : Prop :=
  (∀ k, 0 < k → k < n → (k - 1) / 2 ≠ i → k ≠ i → leE (gE l ((k - 1) / 2)) (gE l k)) ∧ (∀ k, 0 < k → k < n → (k - 1) / 2 = i → 0 < i → leE (gE l ((i - 1) / 2)) (gE l k))
theorem up_done {l : List Ent} {n j : Nat} (h : UpN l n j) (hj : 0 < j → leE (gE l ((j - 1) / 2)) (gE l j)) : HeapN l n := by
  intro k h0 hk
  by_cases e : k = j
  · subst e; exact hj h0
  · exact h.1 k h0 hk e
theorem up_step {l : List Ent} {n j : Nat} (h : UpN l n j) (h0 : 0 < j) (hj : j < n) (hn : n ≤ l.length) (hlt : ltE (gE l j) (gE l ((j - 1) / 2))) : UpN (swp l ((j - 1) / 2) j) n ((j - 1) / 2) := by
  have hp : (j - 1) / 2 < l.length := by omega
  have hj2 : j < l.length := by omega
  have hg := swp_get hp hj2
  refine ⟨fun k k0 kn hne => ?_, fun k k0 kn hk hp0 => ?_⟩
  · rw [hg, hg]
    by_cases e1 : k = j
    · subst e1
      rw [if_neg (by omega), if_pos rfl, if_pos rfl]
      exact leE_of_lt hlt
    · by_cases e2 : (k - 1) / 2 = j
      · rw [if_pos e2, if_neg e1, if_neg hne]
        exact h.2 k k0 kn e2 h0
      · by_cases e3 : (k - 1) / 2 = (j - 1) / 2
        · rw [if_neg e2, if_pos e3, if_neg e1, if_neg hne]
          exact leE_trans (leE_of_lt hlt) (by rw [← e3]; exact h.1 k k0 kn e1)
        · rw [if_neg e2, if_neg e3, if_neg e1, if_neg hne]
          exact h.1 k k0 kn e1
  · rw [hg, hg]
    have hpp : leE (gE l (((j - 1) / 2 - 1) / 2)) (gE l ((j - 1) / 2)) := h.1 _ hp0 (by omega) (by omega)
    rw [if_neg (by omega), if_neg (by omega)]
    by_cases e1 : k = j
    · rw [if_pos e1]; exact hpp
    · rw [if_neg e1, if_neg (by omega)]
      exact leE_trans hpp (by rw [← hk]; exact h.1 k k0 kn e1)
theorem down_done {l : List Ent} {n i : Nat} (h : HoleN l n i) (hi : 0 < i → leE (gE l ((i - 1) / 2)) (gE l i)) (hc : ∀ k, 0 < k → k < n → (k - 1) / 2 = i → leE (gE l i) (gE l k)) : HeapN l n := by
  intro k k0 kn
  by_cases e1 : (k - 1) / 2 = i
  · rw [e1]; exact hc k k0 kn e1
  · by_cases e2 : k = i
    · subst e2; exact hi k0
    · exact h.1 k k0 kn e1 e2
theorem hole_up {l : List Ent} {n i : Nat} (h : HoleN l n i) (hc : ∀ k, 0 < k → k < n → (k - 1) / 2 = i → leE (gE l i) (gE l k)) : UpN l n i := by
  refine ⟨fun k k0 kn hne => ?_, h.2⟩
  by_cases e1 : (k - 1) / 2 = i
  · rw [e1]; exact hc k k0 kn e1
  · exact h.1 k k0 kn e1 hne
theorem down_step {l : List Ent} {n i c : Nat} (h : HoleN l n i) (c0 : 0 < c) (cn : c < n) (hn : n ≤ l.length) (hci : (c - 1) / 2 = i) (hmin : ∀ k, 0 < k → k < n → (k - 1) / 2 = i → leE (gE l c) (gE l k)) (hlt : ltE (gE l c) (gE l i)) :
    HoleN (swp l i c) n c ∧ leE (gE (swp l i c) ((c - 1) / 2)) (gE (swp l i c) c) := by
  have hi : i < l.length := by omega
  have hc : c < l.length := by omega
  have hg := swp_get hi hc
  refine ⟨⟨fun k k0 kn h1 h2 => ?_, fun k k0 kn h1 _ => ?_⟩, ?_⟩
  · rw [hg, hg, if_neg h1, if_neg h2]
    by_cases e1 : k = i
    · rw [if_pos e1, if_neg (by omega), e1]
      exact h.2 c c0 cn hci (by omega)
    · rw [if_neg e1]
      by_cases e2 : (k - 1) / 2 = i
      · rw [if_pos e2]; exact hmin k k0 kn e2
      · rw [if_neg e2]; exact h.1 k k0 kn e2 e1
  · rw [hg, hg, hci, if_neg (by omega), if_pos rfl, if_neg (by omega), if_neg (by omega)]
    have := h.1 k k0 kn (by omega) (by omega)
    rw [h1] at this; exact this
  · rw [hg, hg, hci, if_neg (by omega), if_pos rfl, if_pos rfl]
    exact leE_of_lt hlt
theorem heap_min {l : List Ent} {n : Nat} (h : HeapN l n) : ∀ k, k < n → leE (gE l 0) (gE l k) := by
  intro k
  induction k using Nat.strongRecOn with
  | ind k ih =>
    intro hk
    by_cases e : k = 0
    · subst e; exact leE_refl _
    · exact leE_trans (ih ((k - 1) / 2) (by omega) (by omega)) (h k (by omega) hk)
end Go.Proofs.Ytkcggnfbmbfciaa
