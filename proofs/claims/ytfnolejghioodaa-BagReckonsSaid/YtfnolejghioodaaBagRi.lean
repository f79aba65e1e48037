/- Law BagReckons: what the program and the document make of two bags, as one. -/
import Derived.Test.YtfnolejghioodaaBagRc
import Derived.Test.YtfnolejghioodaaBagRf
import Derived.Test.YtfnolejghioodaaBagRg
import Derived.Test.YtfnolejghioodaaBagRh
namespace Go.Proofs.Ytfnolejghioodaa
open Go.RowKit
def SumV (a b : Row) (M : Row) (z : Int) : Prop := ((rightB a && rightB b) = false ∧ M = [] ∧ z = 1) ∨ ((rightB a && rightB b) = true ∧ fullB a b = true ∧ M = [] ∧ z = 2) ∨ ((rightB a && rightB b) = true ∧ fullB a b = false ∧ RowG M (sumG a b) ∧ z = 0)
def LessV (a b : Row) (M : Row) (z : Int) : Prop := ((rightB a && rightB b) = false ∧ M = [] ∧ z = 1) ∨ ((rightB a && rightB b) = true ∧ inM b (getM a) = false ∧ M = [] ∧ z = 10) ∨ ((rightB a && rightB b) = true ∧ inM b (getM a) = true ∧ RowG M (lessG a b) ∧ z = 0)
def MostV (a b : Row) (M : Row) : Prop := ((rightB a && rightB b) = false ∧ M = []) ∨ ((rightB a && rightB b) = true ∧ RowG M (mostG a b))
theorem SumV.uniq {a b M N : Row} {z y : Int} (h : SumV a b M z) (h2 : SumV a b N y) : M = N ∧ z = y := by
  rcases h with ⟨p, rfl, rfl⟩ | ⟨p, q, rfl, rfl⟩ | ⟨p, q, r, rfl⟩ <;> rcases h2 with ⟨p2, rfl, rfl⟩ | ⟨p2, q2, rfl, rfl⟩ | ⟨p2, q2, r2, rfl⟩ <;>
    first | exact ⟨rfl, rfl⟩ | exact ⟨r.uniq r2, rfl⟩ | (rw [p] at p2; cases p2; done) | (rw [q] at q2; cases q2; done)
theorem LessV.uniq {a b M N : Row} {z y : Int} (h : LessV a b M z) (h2 : LessV a b N y) : M = N ∧ z = y := by
  rcases h with ⟨p, rfl, rfl⟩ | ⟨p, q, rfl, rfl⟩ | ⟨p, q, r, rfl⟩ <;> rcases h2 with ⟨p2, rfl, rfl⟩ | ⟨p2, q2, rfl, rfl⟩ | ⟨p2, q2, r2, rfl⟩ <;>
    first | exact ⟨rfl, rfl⟩ | exact ⟨r.uniq r2, rfl⟩ | (rw [p] at p2; cases p2; done) | (rw [q] at q2; cases q2; done)
theorem MostV.uniq {a b M N : Row} (h : MostV a b M) (h2 : MostV a b N) : M = N := by
  rcases h with ⟨p, rfl⟩ | ⟨p, r⟩ <;> rcases h2 with ⟨p2, rfl⟩ | ⟨p2, r2⟩ <;> first | rfl | exact r.uniq r2 | (rw [p] at p2; cases p2; done)
def TwoP (V : Row → Int → Prop) (w : World) (e : Ending) (w' : World) : Prop :=
  ∃ A c j M z, e = .returned (.tuple #[.slice A j c, .int .i64 z]) ∧ j = M.length ∧ V M z ∧ w'.ownsRow w.heap.size 39 2 (.slice A j c) j (pairCells M) ∧ Below w.heap.size w w'
def OneP (V : Row → Prop) (w : World) (e : Ending) (w' : World) : Prop :=
  ∃ A c j M, e = .returned (.slice A j c) ∧ j = M.length ∧ V M ∧ w'.ownsRow w.heap.size 39 2 (.slice A j c) j (pairCells M) ∧ Below w.heap.size w w'
section
variable {A B : Option Addr} {n m c d : Nat} {a b : Row} {w : World}
theorem sumP (hA : Sl w (.slice A n c) n 2 (pairCells a)) (hi : I64s a) (hB : Sl w (.slice B m d) m 2 (pairCells b)) (hj : I64s b) (hn : n < 1000) (hm : m < 1000) :
    Calls Try.prog 22 #[.slice A n c, .slice B m d] w (TwoP (SumV a b) w) := by
  refine (bag_Sum A n c a B m d b w hA hi (by omega) hB hj (by omega)).mono ?_
  rintro e w' ⟨hb, ⟨h1, rfl⟩ | ⟨h1, h2, rfl⟩ | ⟨h1, h2, v, rfl, A3, c3, M, rfl, q1, q2, q3, q4⟩⟩
  · exact ⟨none, 0, 0, [], 1, rfl, rfl, .inl ⟨h1, rfl, rfl⟩, World.ownsRow_nil _ _ _ _, hb⟩
  · exact ⟨none, 0, 0, [], 2, rfl, rfl, .inr (.inl ⟨h1, h2, rfl, rfl⟩), World.ownsRow_nil _ _ _ _, hb⟩
  · exact ⟨A3, c3, _, M, 0, rfl, rfl, .inr (.inr ⟨h1, h2, q1, rfl⟩), q4, hb⟩
theorem sumR (hA : Sl w (.slice A n c) n 2 (pairCells a)) (hB : Sl w (.slice B m d) m 2 (pairCells b)) (hn : n < 1000) (hm : m < 1000) :
    Calls Try.prog 23 #[.slice A n c, .slice B m d] w (TwoP (SumV a b) w) := by
  refine (ref_Sum A n c a B m d b w hA hB (by omega) (by omega)).mono ?_
  rintro e w' ⟨hb, ⟨h1, rfl⟩ | ⟨h1, h2, rfl⟩ | ⟨h1, h2, v, rfl, A3, c3, j, M, rfl, q1, q2, q3, q4⟩⟩
  · exact ⟨none, 0, 0, [], 1, rfl, rfl, .inl ⟨h1, rfl, rfl⟩, World.ownsRow_nil _ _ _ _, hb⟩
  · exact ⟨none, 0, 0, [], 2, rfl, rfl, .inr (.inl ⟨h1, h2, rfl, rfl⟩), World.ownsRow_nil _ _ _ _, hb⟩
  · exact ⟨A3, c3, j, M, 0, rfl, q1, .inr (.inr ⟨h1, h2, q3, rfl⟩), q4, hb⟩
theorem lessP (hA : Sl w (.slice A n c) n 2 (pairCells a)) (hi : I64s a) (hB : Sl w (.slice B m d) m 2 (pairCells b)) (hj : I64s b) (hn : n < 1000) (hm : m < 1000) :
    Calls Try.prog 24 #[.slice A n c, .slice B m d] w (TwoP (LessV a b) w) := by
  refine (bag_Less A n c a B m d b w hA hi (by omega) hB hj (by omega)).mono ?_
  rintro e w' ⟨hb, ⟨h1, rfl⟩ | ⟨h1, h2, rfl⟩ | ⟨h1, h2, v, rfl, A3, c3, M, rfl, q1, q2, q3, q4⟩⟩
  · exact ⟨none, 0, 0, [], 1, rfl, rfl, .inl ⟨h1, rfl, rfl⟩, World.ownsRow_nil _ _ _ _, hb⟩
  · exact ⟨none, 0, 0, [], 10, rfl, rfl, .inr (.inl ⟨h1, h2, rfl, rfl⟩), World.ownsRow_nil _ _ _ _, hb⟩
  · exact ⟨A3, c3, _, M, 0, rfl, rfl, .inr (.inr ⟨h1, h2, q1, rfl⟩), q4, hb⟩
theorem lessR (hA : Sl w (.slice A n c) n 2 (pairCells a)) (hB : Sl w (.slice B m d) m 2 (pairCells b)) (hn : n < 1000) (hm : m < 1000) :
    Calls Try.prog 25 #[.slice A n c, .slice B m d] w (TwoP (LessV a b) w) := by
  refine (ref_Less A n c a B m d b w hA hB (by omega) (by omega)).mono ?_
  rintro e w' ⟨hb, ⟨h1, rfl⟩ | ⟨h1, h2, rfl⟩ | ⟨h1, h2, v, rfl, A3, c3, j, M, rfl, q1, q2, q3, q4⟩⟩
  · exact ⟨none, 0, 0, [], 1, rfl, rfl, .inl ⟨h1, rfl, rfl⟩, World.ownsRow_nil _ _ _ _, hb⟩
  · exact ⟨none, 0, 0, [], 10, rfl, rfl, .inr (.inl ⟨h1, h2, rfl, rfl⟩), World.ownsRow_nil _ _ _ _, hb⟩
  · exact ⟨A3, c3, j, M, 0, rfl, q1, .inr (.inr ⟨h1, h2, q3, rfl⟩), q4, hb⟩
theorem mostP (hA : Sl w (.slice A n c) n 2 (pairCells a)) (hi : I64s a) (hB : Sl w (.slice B m d) m 2 (pairCells b)) (hj : I64s b) (hn : n < 1000) (hm : m < 1000) :
    Calls Try.prog 26 #[.slice A n c, .slice B m d] w (OneP (MostV a b) w) := by
  refine (bag_Most A n c a B m d b w hA hi (by omega) hB hj (by omega)).mono ?_
  rintro e w' ⟨hb, ⟨h1, rfl⟩ | ⟨h1, v, rfl, A3, c3, M, rfl, q1, q2, q3, q4⟩⟩
  · exact ⟨none, 0, 0, [], rfl, rfl, .inl ⟨h1, rfl⟩, World.ownsRow_nil _ _ _ _, hb⟩
  · exact ⟨A3, c3, _, M, rfl, rfl, .inr ⟨h1, q1⟩, q4, hb⟩
theorem mostR (hA : Sl w (.slice A n c) n 2 (pairCells a)) (hB : Sl w (.slice B m d) m 2 (pairCells b)) (hn : n < 1000) (hm : m < 1000) :
    Calls Try.prog 27 #[.slice A n c, .slice B m d] w (OneP (MostV a b) w) := by
  refine (ref_Most A n c a B m d b w hA hB (by omega) (by omega)).mono ?_
  rintro e w' ⟨hb, ⟨h1, rfl⟩ | ⟨h1, v, rfl, A3, c3, j, M, rfl, q1, q2, q3, q4⟩⟩
  · exact ⟨none, 0, 0, [], rfl, rfl, .inl ⟨h1, rfl⟩, World.ownsRow_nil _ _ _ _, hb⟩
  · exact ⟨A3, c3, j, M, rfl, q1, .inr ⟨h1, q3⟩, q4, hb⟩
end
theorem own_other {w : World} {base base2 : Nat} {v v2 : Value} {n n2 : Nat} {xs xs2 : List Value} {e e2 : TypeId} {s s2 : Nat} (h : w.ownsRow base e s v n xs) (hl : ∀ g, v2.ownBlock = some g → g < base) {g o : Nat} (_ : w.ownsRow base2 e2 s2 v2 n2 xs2) (hg : v2.ownBlock = some g) (u : Value) : (w.setCell ⟨g, o, none⟩ u).ownsRow base e s v n xs :=
  ownsRow_setCell_other h (fun e => by have := (h.lt g e).1; have := hl g hg; omega) u
theorem cmpR_uniq {a b : Row} {z y : Int} (h : CmpR a b z) (h2 : CmpR a b y) : z = y := by
  rcases h with ⟨p, rfl⟩ | ⟨p, q⟩ <;> rcases h2 with ⟨p2, rfl⟩ | ⟨p2, q2⟩ <;> first | rfl | exact q.uniq q2 | (rw [p] at p2; cases p2; done)
end Go.Proofs.Ytfnolejghioodaa
