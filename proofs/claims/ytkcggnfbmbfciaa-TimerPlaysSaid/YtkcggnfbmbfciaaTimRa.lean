/- The document's queue of layer 14: plain lemmas. -/
import Derived.Test.YtkcggnfbmbfciaaTimN
namespace Go.Proofs.Ytkcggnfbmbfciaa
open Go.RowKit
theorem ins_split {x : Int × Int} : ∀ {S : List (Int × Int)} {k : Nat}, k ≤ S.length → (∀ j, j < k → ltP (S.getD j (0, 0)) x) → (k < S.length → ¬ ltP (S.getD k (0, 0)) x) → insP x S = S.take k ++ x :: S.drop k
  | [], k, hk, _, _ => by simp [insP]
  | y :: r, 0, _, _, h => by
    unfold insP
    rw [if_neg (show ¬ ltP y x from h (by simp))]
    rfl
  | y :: r, k + 1, hk, h1, h2 => by
    unfold insP
    rw [if_pos (show ltP y x from h1 0 (by omega)), ins_split (S := r) (k := k) (by simpa using hk) (fun j hj => by have := h1 (j + 1) (by omega); simpa using this) (fun hl => by have := h2 (by simpa using hl); simpa using this)]
    rfl
theorem del_split {id : Int} : ∀ {S : List (Int × Int)} {k : Nat}, (S.map (·.1)).Nodup → k < S.length → (S.getD k (0, 0)).1 = id → delP id S = S.take k ++ S.drop (k + 1)
  | [], k, _, hk, _ => by simp at hk
  | y :: r, 0, hn, _, h => by
    have h0 : y.1 = id := by simpa using h
    rw [List.map_cons, List.nodup_cons] at hn
    unfold delP
    rw [List.filter_cons_of_neg (by simp [h0])]
    simp only [List.take_zero, List.nil_append, List.drop_succ_cons, List.drop_zero, Nat.zero_add]
    rw [List.filter_eq_self]
    intro p hp
    have : p.1 ≠ y.1 := fun e => hn.1 (by rw [← e]; exact List.mem_map_of_mem hp)
    simp only [bne_iff_ne, ne_eq]
    omega
  | y :: r, k + 1, hn, hk, h => by
    rw [List.map_cons, List.nodup_cons] at hn
    have hk2 : k < r.length := by simpa using hk
    have h2 : (r.getD k (0, 0)).1 = id := by simpa using h
    have h0 : y.1 ≠ id := by
      intro e
      apply hn.1
      rw [e, ← h2, List.getD, List.getElem?_eq_getElem hk2]
      exact List.mem_map_of_mem (List.getElem_mem hk2)
    have ih := del_split (S := r) (k := k) hn.2 hk2 h2
    unfold delP at ih ⊢
    rw [List.filter_cons_of_pos (by simpa using h0), ih]
    rfl
theorem getD_memP {S : List (Int × Int)} {k : Nat} (hk : k < S.length) : S.getD k (0, 0) ∈ S := by
  rw [List.getD, List.getElem?_eq_getElem hk]
  exact List.getElem_mem _
theorem at_split {S : List (Int × Int)} (h : SrtP S) {k : Nat} (hk : k < S.length) : atP (S.getD k (0, 0)).1 S = (S.getD k (0, 0)).2 := h.atP_eq (getD_memP hk)
theorem has_take {id : Int} {S : List (Int × Int)} {k : Nat} (h : hasP id (S.take k) = false) (hk : S.length ≤ k) : hasP id S = false := by rwa [List.take_of_length_le hk] at h
theorem has_next {id : Int} {S : List (Int × Int)} {k : Nat} (h : hasP id (S.take k) = false) (hk : k < S.length) (hne : (S.getD k (0, 0)).1 ≠ id) : hasP id (S.take (k + 1)) = false := by
  rw [has_false] at h ⊢
  intro p hp
  rw [take_snocP hk] at hp
  rcases List.mem_append.1 hp with hp | hp
  · exact h p hp
  · rw [List.mem_singleton] at hp
    rw [hp]; exact hne
end Go.Proofs.Ytkcggnfbmbfciaa
