/- Laws 04: the plain laws of ExprFree and ExprPuts; a row of numbers set. -/
import Derived.Test.YtmfdiclbenmfbaaDoorExprEv
namespace Go.Proofs.YtmfdiclbenmfbaaDoor
open Go.RowKit
theorem own_open {w : World} {base n : Nat} {v : Value} {l : List Int} (h : w.ownsRow base 3 1 v n (intCells l)) (hn : 0 < n) : ∃ g c, v = .slice (some ⟨g, 0, none⟩) n c ∧ base ≤ g ∧ (∀ j, j < n → w.cell? ⟨g, j, none⟩ = some (.int .i64 (l.getD j 0)) ∧ w.frozen? ⟨g, j, none⟩ = false) ∧
    ∀ j, j < n → ∀ x, Sl (w.setCell ⟨g, j, none⟩ (.int .i64 x)) (.slice (some ⟨g, 0, none⟩) n c) n 1 (intCells (l.set j x)) := by
  have hl : l.length = n := by have := h.1; rw [intCells_len] at this; omega
  obtain ⟨_, ⟨_, h0⟩ | ⟨g, cap, cur, rfl, hb, hg, hnc, hm, hcs, ht⟩⟩ := h
  · omega
  · have hcell : ∀ j, j < n → w.cell? ⟨g, j, none⟩ = some (.int .i64 (l.getD j 0)) := fun j hj => by
      rw [cell_of_row _ _ _ _ _ _ hg]
      have e : (cur.toList.take (n * 1))[j]? = (intCells l)[j]? := by rw [ht]
      rw [List.getElem?_take, if_pos (by omega), intCells_at (by omega)] at e
      simpa using e
    refine ⟨g, cap, rfl, hb, fun j hj => ⟨hcell j hj, by simp [World.frozen?, hg]⟩, fun j hj x => ?_⟩
    refine ⟨_, _, rfl, hnc, by unfold maxLen at hm; exact hm, by rw [intCells_len, List.length_set]; omega, fun _ => ⟨g, 0, rfl, fun i u hu => ?_⟩⟩
    rw [Nat.zero_add]
    have hi : i < n := by
      rcases Nat.lt_or_ge i n with h1 | h1
      · exact h1
      · rw [List.getElem?_eq_none (by rw [intCells_len, List.length_set]; omega)] at hu; cases hu
    rw [intCells_at (by rw [List.length_set]; omega)] at hu
    injection hu with hu
    subst hu
    by_cases e : i = j
    · subst e
      rw [set_getD_eq (by omega)]
      exact World.cell?_setCell_same _ _ _ (hcell i hi)
    · rw [set_getD_ne e, World.cell?_setCell_other _ _ _ _ (by simp)]
      exact hcell i hi
theorem has_vars (k : Int) (t : Tr) : decide (k ∈ varsT t) = hasT k t := by
  rw [Bool.eq_iff_iff, decide_eq_true_eq, mem_varsT]
/-- What ExprFree needs. -/
theorem free_law (env : List Int) (k : Nat) (v : Int) (t : Tr) : (hasT k t = true ∨ evalV (env.set k v) t = evalV env t) ∧ ((evalV env t).2 = 1 ∨ evalV (env ++ [v]) t = evalV env t) := by
  unfold evalV
  rw [List.length_set]
  rcases hr : rightT env.length t with _ | _
  · simp
  · have hp := right_parts hr
    simp only [if_true]
    constructor
    · rcases hh : hasT k t with _ | _
      · exact .inr (ev_free env k v t hp hh).symm
      · exact .inl rfl
    · right
      have hr2 : rightT ((env ++ [v]).length : Nat) t = true := by
        unfold rightT at hr ⊢
        simp only [Bool.and_eq_true] at hr ⊢
        refine ⟨hr.1, hr.2.1, ?_⟩
        have := parts_more env.length t hr.2.2
        rw [List.length_append]
        exact this
      rw [if_pos hr2]
      exact ev_more env v t hp
/-- What ExprPuts needs. -/
theorem puts_law (env : List Int) (k : Nat) (hk : k < env.length) (b t : Tr) (v : Int) (hb : evalV env b = (v, 0)) (hr : rightT env.length t = true) (hr2 : rightT env.length (putT k b t) = true) : evalV env (putT k b t) = evalV (env.set k v) t := by
  have hb2 : evT env b = (v, 0) := by
    unfold evalV at hb
    split at hb
    · exact hb
    · injection hb with _ h; cases h
  unfold evalV
  rw [List.length_set, if_pos hr, if_pos hr2]
  exact ev_put env k v b hb2 hk t (right_parts hr)
mutual
theorem put_size (k : Int) (b : Tr) : ∀ t : Tr, sizeT (putT k b t) ≤ sizeT t * sizeT b
  | .mk kd n l => by
    have h1 : 1 ≤ sizeT b := by have := sizeT_eq b; omega
    rw [putT]
    split
    · have h2 : 1 ≤ sizeT (.mk kd n l) := by have := sizeT_eq (.mk kd n l); omega
      exact Nat.le_mul_of_pos_left _ h2
    · rw [sizeT, sizeT]
      have := put_sizeL k b l
      rw [Nat.add_mul]
      omega
theorem put_sizeL (k : Int) (b : Tr) : ∀ l : List Tr, sizeL (putL k b l) ≤ sizeL l * sizeT b
  | [] => by rw [putL, sizeL]; omega
  | t :: r => by
    rw [putL, sizeL, sizeL, Nat.add_mul]
    have := put_size k b t
    have := put_sizeL k b r
    omega
end
end Go.Proofs.YtmfdiclbenmfbaaDoor
