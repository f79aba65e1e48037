/- Law BagLists: the walk. -/
import Derived.Test.YtfnolejghioodaaBagQ
namespace Go.Proofs.Ytfnolejghioodaa
open Go.RowKit
theorem count_flat (k : Int) : ∀ {M : Row}, Srt M → ((flatM M).count k : Int) = (getM M k).toNat
  | [], _ => rfl
  | p :: r, hs => by
    obtain ⟨h1, h2⟩ := List.pairwise_cons.1 hs
    have e : flatM (p :: r) = List.replicate p.2.toNat p.1 ++ flatM r := by simp [flatM]
    have ih := count_flat k h2
    rw [e, List.count_append, List.count_replicate, getM]
    by_cases hk : p.1 = k
    · have h0 : getM r k = 0 := getM_not fun q hq => by have := h1 q hq; omega
      rw [h0] at ih
      simp only [hk, beq_self_eq_true, if_true]
      omega
    · have : (p.1 == k) = false := by simpa using hk
      simp only [this, hk, if_false, Bool.false_eq_true]
      omega
theorem ofG_flat {M : Row} (h : Ok M) : ofG (flatM M) = getM M := by
  funext k
  unfold ofG
  rw [count_flat k h.1]
  have h1 := h.nonneg k
  split
  · omega
  · rename_i hk
    by_cases h0 : getM M k = 0
    · exact h0.symm
    · exact absurd (h.key h0) hk
theorem flat_length : ∀ {M : Row}, (∀ p ∈ M, 0 ≤ p.2) → ((flatM M).length : Int) = totM M
  | [], _ => rfl
  | p :: r, h => by
    have e : flatM (p :: r) = List.replicate p.2.toNat p.1 ++ flatM r := by simp [flatM]
    have := flat_length (M := r) fun q hq => h q (by simp [hq])
    have h0 := h p (by simp)
    rw [e, List.length_append, List.length_replicate, totM]
    omega
theorem ofG_rev (l : List Int) : ofG l.reverse = ofG l := by
  funext k
  unfold ofG
  rw [List.count_reverse]
theorem of_ok {M : Row} {l : List Int} (h : RowG M (ofG l)) : Ok M ∧ ∀ k, getM M k = ofG l k := by
  refine ⟨h.ok (fun k hk => ?_) (fun k => (ofG_bound l k).2), fun k => h.get (fun k => (ofG_bound l k).1) k⟩
  unfold ofG at hk
  split at hk
  · assumption
  · omega
/-- How many may be members. -/
def nnC : List Int → Int
  | [] => 0
  | x :: r => (if 0 ≤ x then 1 else 0) + nnC r
theorem nnC_snoc (x : Int) : ∀ l : List Int, nnC (l ++ [x]) = nnC l + if 0 ≤ x then 1 else 0
  | [] => by simp [nnC]
  | y :: r => by rw [List.cons_append, nnC, nnC, nnC_snoc x r]; omega
theorem nnC_bound : ∀ l : List Int, 0 ≤ nnC l ∧ nnC l ≤ l.length
  | [] => by simp [nnC]
  | x :: r => by
    have := nnC_bound r
    rw [nnC, List.length_cons]
    split <;> omega
theorem sum_count {K : List Int} (hK : K.Nodup) : ∀ {l : List Int}, (∀ x ∈ l, 0 ≤ x → x ∈ K) → sumK K (fun k => if 0 ≤ k then (l.count k : Int) else 0) = nnC l
  | [], _ => by rw [sumK_zero]; rfl; intro k _; simp
  | x :: r, h => by
    have ih := sum_count hK (l := r) fun y hy => h y (by simp [hy])
    rw [nnC, ← ih]
    by_cases h0 : 0 ≤ x
    · have e : (fun k => if 0 ≤ k then ((x :: r).count k : Int) else 0) = fun k => (if k = x then 1 else 0) + (if 0 ≤ k then (r.count k : Int) else 0) := by
        funext k
        rw [List.count_cons]
        by_cases hk : k = x
        · subst hk; simp [h0]; omega
        · have : (x == k) = false := by simpa using fun e => hk e.symm
          simp [hk, this]
      rw [e, sumK_add, sumK_one hK (h x (by simp) h0), if_pos h0]
    · have e : (fun k => if 0 ≤ k then ((x :: r).count k : Int) else 0) = fun k => (if 0 ≤ k then (r.count k : Int) else 0) := by
        funext k
        rw [List.count_cons]
        by_cases hk : 0 ≤ k
        · have : (x == k) = false := by simp; omega
          simp [this]
        · simp [hk]
      rw [e, if_neg h0]; omega
theorem of_tot {M : Row} {l : List Int} (h : RowG M (ofG l)) (hl : l.length ≤ 1000000) : totR M = nnC l := by
  obtain ⟨hM, hg⟩ := of_ok h
  have e : getM M = fun k => if 0 ≤ k then (l.count k : Int) else 0 := by
    funext k
    rw [hg]
    unfold ofG
    have := List.count_le_length (a := k) (l := l)
    split <;> omega
  unfold totR
  rw [if_pos ((rightB_iff M).2 hM), totM_sumK hM.1.keys hM.1 fun p hp => List.mem_map.2 ⟨p, hp, rfl⟩, e]
  refine sum_count hM.1.keys fun x hx h0 => getM_pos ?_
  rw [e]
  have := List.count_pos_iff.2 hx
  show (if 0 ≤ x then (l.count x : Int) else 0) ≠ 0
  rw [if_pos h0]
  omega
theorem drop_rev {l : List Int} {j : Nat} (hj : j < l.length) : (l.drop j).reverse = (l.drop (j + 1)).reverse ++ [l.getD j 0] := by
  rw [List.drop_eq_getElem_cons hj, List.reverse_cons, List.getD, List.getElem?_eq_getElem hj]; rfl
section
variable {w : World}
theorem gotOf {A : Option Addr} {n c : Nat} {l : List Int} (hA : Sl w (.slice A n c) n 1 (intCells l)) (hi : ∀ x ∈ l, I64 x) (hn : n < 100000000000) :
    Calls Try.prog 17 #[.slice A n c] w fun e w' => ∃ A' c' M k, e = .returned (.slice A' k c') ∧ k = M.length ∧ k ≤ l.length ∧ RowG M (ofG l) ∧ I64s M ∧ Sl w' (.slice A' k c') k 2 (pairCells M) ∧ Below w.heap.size w w' := by
  refine (bag_Of A n c l w hA hi hn).mono ?_
  rintro e w' ⟨v, rfl, ⟨A', c', M, rfl, h1, h2, h3, h4⟩, hb⟩
  exact ⟨A', c', M, _, rfl, rfl, h3, h1, h2, Sl.of_own h4, hb⟩
end
end Go.Proofs.Ytfnolejghioodaa
