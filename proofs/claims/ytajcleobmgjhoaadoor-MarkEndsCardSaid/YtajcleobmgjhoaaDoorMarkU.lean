/- Plain laws of markings: final, and one token more. -/
import Derived.Test.YtajcleobmgjhoaaDoorMarkR
import Derived.Test.YtajcleobmgjhoaaDoorMarkC
namespace Go.Proofs.YtajcleobmgjhoaaDoor
open Go.RowKit
theorem finB_iff (ti : Int) : ∀ (R : List Row) (k : Nat), finB ti k R = true ↔ ∀ i (h : i < R.length), totR (R[i]) = if ((k + i : Nat) : Int) = ti then 1 else 0
  | [], k => by simp [finB]
  | r :: s, k => by
    unfold finB
    constructor
    · intro h i hi
      by_cases hr2 : totR r = if (k : Int) = ti then 1 else 0
      rotate_left
      · rw [if_pos hr2] at h; cases h
      · rw [if_neg (fun h => h hr2)] at h
        cases i with
        | zero => simpa using hr2
        | succ i =>
          have := (finB_iff ti s (k + 1)).1 h i (by simpa using hi)
          rw [show k + 1 + i = k + (i + 1) by omega] at this
          simpa using this
    · intro h
      have h0 := h 0 (by simp)
      simp only [List.getElem_cons_zero, Nat.add_zero] at h0
      rw [if_neg (by rw [h0]; simp)]
      refine (finB_iff ti s (k + 1)).2 fun i hi => ?_
      have := h (i + 1) (by simp; omega)
      rw [show k + (i + 1) = k + 1 + i by omega] at this
      simpa using this
theorem finB_tot (ti : Int) : ∀ (R : List Row) (k : Nat), finB ti k R = true → totL R = if (k : Int) ≤ ti ∧ ti < ((k + R.length : Nat) : Int) then 1 else 0
  | [], k, _ => by
    rw [if_neg (by simp only [List.length_nil]; omega)]; rfl
  | r :: s, k, h => by
    unfold finB at h
    by_cases hr2 : totR r = if (k : Int) = ti then 1 else 0
    rotate_left
    · rw [if_pos hr2] at h; cases h
    · rw [if_neg (fun h => h hr2)] at h
      have h2 := finB_tot ti s (k + 1) h
      have e : totL (r :: s) = totR r + totL s := by simp [totL]
      rw [e, hr2, h2]
      simp only [List.length_cons]
      split <;> split <;> split <;> omega
theorem final_facts {pn : Nat} {ti : Int} {R : List Row} (h : finalB pn ti R = true) : endedB ti R = true ∧ totL R = 1 ∧ R.length = pn ∧ 0 ≤ ti ∧ ti < (R.length : Int) ∧ finB ti 0 R = true := by
  unfold finalB at h
  simp only [Bool.and_eq_true, decide_eq_true_eq] at h
  obtain ⟨⟨h1, h2⟩, h3⟩ := h
  have h4 : 0 ≤ ti ∧ ti < (R.length : Int) := by
    unfold endedB at h2
    split at h2
    · rename_i h; exact h
    · cases h2
  refine ⟨h2, ?_, h1, h4.1, h4.2, h3⟩
  rw [finB_tot ti R 0 h3, if_pos (by simp; omega)]
theorem allF_set {f : Row → Row → Bool} : ∀ (R : List Row) (p : Nat) (M : Row) (hp : p < R.length), (∀ r ∈ R, f r r = true) → f (R[p]) M = true → allF f R (R.set p M) = true
  | [], _, _, hp, _, _ => absurd hp (by simp)
  | r :: s, 0, M, _, h, h2 => by
    simp only [List.set_cons_zero, allF, Bool.and_eq_true]
    refine ⟨by simpa using h2, ?_⟩
    have : ∀ (l : List Row), (∀ r ∈ l, f r r = true) → allF f l l = true := by
      intro l
      induction l with
      | nil => intro _; rfl
      | cons x r ih => intro h; unfold allF; rw [h x (by simp), ih fun q hq => h q (List.mem_cons_of_mem _ hq)]; rfl
    exact this s fun q hq => h q (List.mem_cons_of_mem _ hq)
  | r :: s, p + 1, M, hp, h, h2 => by
    simp only [List.set_cons_succ, allF, Bool.and_eq_true]
    exact ⟨h r (by simp), allF_set s p M (by simpa using hp) (fun q hq => h q (List.mem_cons_of_mem _ hq)) (by simpa using h2)⟩
theorem CmpL.set_one : ∀ (R : List Row) (p : Nat) (M : Row) (hp : p < R.length) {z : Int}, OkL R → Ok M → Cmp (getM M) (getM (R[p])) 1 → CmpL (R.set p M) R z → z = 1
  | [], _, _, hp, _, _, _, _, _ => absurd hp (by simp)
  | r :: s, 0, M, _, z, hR, hM, hc, h => by
    obtain ⟨y, hy, h2⟩ := h
    have e := (hy.ok hM hR.cons.1).uniq (by simpa using hc)
    rcases h2 with ⟨_, e2⟩ | ⟨e2, _⟩
    · rw [e2]; exact e
    · omega
  | r :: s, p + 1, M, hp, z, hR, hM, hc, h => by
    obtain ⟨y, hy, h2⟩ := h
    have e := ((hy.ok hR.cons.1 hR.cons.1).zero).2 fun k => rfl
    rcases h2 with ⟨e2, _⟩ | ⟨_, h2⟩
    · exact absurd e e2
    · exact CmpL.set_one s p M (by simpa using hp) hR.cons.2 hM (by simpa using hc) h2
theorem row_one {m : Int} (hm : 0 ≤ m) : RowG [(m, 1)] (ofG [m]) := by
  refine ⟨by simp [Srt], fun p hp => ?_, fun k hk => ?_⟩
  · rw [List.mem_singleton] at hp
    subst hp
    refine ⟨by show (0:Int) < 1; omega, ?_⟩
    unfold ofG
    rw [if_pos hm]
    simp
    try omega
  · have h1 := ofG_mem hk
    rw [List.mem_singleton] at h1
    subst h1
    rw [List.mem_singleton]
    unfold ofG
    rw [if_pos hm]
    simp
    try omega
theorem ok_one {m : Int} (hm : 0 ≤ m) : Ok [(m, 1)] := ⟨by simp [Srt], fun p hp => by
  rw [List.mem_singleton] at hp
  subst hp
  show 0 ≤ m ∧ (1:Int) ≤ 1 ∧ (1:Int) ≤ 1048576
  omega⟩
theorem getM_one (m k : Int) : getM [(m, 1)] k = if k = m then 1 else 0 := by
  unfold getM
  by_cases h : m = k
  · rw [if_pos h, if_pos h.symm]
  · rw [if_neg h, if_neg fun e => h e.symm]; rfl
structure More (r M : Row) (m : Int) : Prop where
  ok : Ok M
  cmp : Cmp (getM M) (getM r) 1
  le : withR r M = true
  tot : totR M = totR r + 1
theorem more_of {r M : Row} {m : Int} (hr : Ok r) (hm : 0 ≤ m) (hf : fullB r [(m, 1)] = false) (h : RowG M (sumG r [(m, 1)])) : More r M m := by
  obtain ⟨h1, h2⟩ := sum_ok hr (ok_one hm) hf h
  have h3 : ∀ k, getM M k = getM r k + if k = m then 1 else 0 := fun k => by rw [h2 k, getM_one]
  refine ⟨h1, .inr ⟨m, ?_, fun j hj => ?_, ?_⟩, (withR_iff hr h1).2 fun k => ?_, ?_⟩
  · rw [h3 m, if_pos rfl]; omega
  · rw [h3 j, if_neg (by omega)]; omega
  · rw [if_neg (by rw [h3 m, if_pos rfl]; omega)]
  · rw [h3 k]; split <;> omega
  · rw [tot_sum hr (ok_one hm) h1 h2]
    have : totR [(m, 1)] = 1 := by
      unfold totR
      rw [(rightB_iff _).2 (ok_one hm)]
      rfl
    rw [this]
theorem more_final {pn : Nat} {ti : Int} {R : List Row} {p : Nat} {M : Row} {m : Int} (h : finalB pn ti R = true) (hp : p < R.length) (hM : More (R[p]) M m) : finalB pn ti (R.set p M) = false ∧ endedB ti (R.set p M) = true := by
  obtain ⟨h1, _, _, h4, h5, h6⟩ := final_facts h
  have hi := (finB_iff ti R 0).1 h6
  constructor
  · unfold finalB
    rw [show finB ti 0 (R.set p M) = false from ?_, Bool.and_false]
    rw [Bool.eq_false_iff]
    intro h7
    have h8 := (finB_iff ti (R.set p M) 0).1 h7 p (by rw [List.length_set]; exact hp)
    rw [List.getElem_set_self] at h8
    have h9 := hi p hp
    have := hM.tot
    omega
  · unfold endedB
    rw [if_pos ⟨h4, by rw [List.length_set]; exact h5⟩, decide_eq_true_eq]
    obtain ⟨t, rfl⟩ : ∃ t : Nat, ti = (t : Int) := ⟨ti.toNat, by omega⟩
    have ht : t < R.length := by omega
    rw [Int.toNat_natCast, List.getD, List.getElem?_eq_getElem (by rw [List.length_set]; exact ht)]
    have h9 := hi t ht
    rw [Nat.zero_add, if_pos rfl] at h9
    simp only [Option.getD_some]
    by_cases e : p = t
    · subst e
      rw [List.getElem_set_self]
      have := hM.tot
      omega
    · rw [List.getElem_set_ne e]
      omega
theorem MCmp.set_one {R : List Row} {p : Nat} {M : Row} {m : Int} (hp : p < R.length) (hR : OkL R) (hM : More (R[p]) M m) {z : Int} (h : MCmp (R.set p M) R z) : z = 1 := by
  rcases h with ⟨h, _⟩ | ⟨_, h⟩
  · exact absurd (List.length_set) h
  · exact CmpL.set_one R p M hp hR hM.ok hM.cmp h
end Go.Proofs.YtajcleobmgjhoaaDoor
