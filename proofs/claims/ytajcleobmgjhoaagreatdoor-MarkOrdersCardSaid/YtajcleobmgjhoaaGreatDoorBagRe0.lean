/- The document's answer of layer 03: what its folds leave. -/
import Derived.Test.YtajcleobmgjhoaaGreatDoorBagRd
namespace Go.Proofs.YtajcleobmgjhoaaGreatDoor
open Go.RowKit
/-- What a fold of 'with' leaves. -/
def RefBag (g : Int → Int) (n : Nat) (w : World) (v : Value) (w' : World) : Prop :=
  ∃ A c j M, v = .slice A j c ∧ j = M.length ∧ j ≤ n ∧ RowG M g ∧ w'.ownsRow w.heap.size 45 2 (.slice A j c) j (pairCells M)
theorem gk_zero {h : Int → Int → Int} {a b : Row} (ha : Ok a) (hz : ∀ x, 0 ≤ x → h x 0 = x) : gk h a b 0 = getM a := by
  funext i
  unfold gk
  simp only [List.take_zero, getM]
  exact hz _ (ha.nonneg i).1
theorem pair_cells_one : ∀ (l : Row), ∀ u ∈ pairCells l, u.oneCell' = true
  | [], u, h => by cases h
  | p :: r, u, h => by
    rw [show p :: r = [p] ++ r from rfl, pairCells_app] at h
    rcases List.mem_append.1 h with h | h
    · exact pair_one2 p.1 p.2 u h
    · exact pair_cells_one r u h
theorem cnt_ok {l : Row} (h : Ok l) (m : Int) : cntR l m = getM l m := by unfold cntR; rw [if_pos ((rightB_iff l).2 h)]
end Go.Proofs.YtajcleobmgjhoaaGreatDoor
