/- Joined: Law 06: small. Printed by gen_pbO.py. Plain: Same. parts, Right: the program's. -/
import Derived.Test.YtkpjhjoopdbkaaaGreatDoorG25
import Derived.Test.YtkpjhjoopdbkaaaGreatDoorG27
import Derived.Deep.QuietTactic
import Derived.BigQuiet
import Derived.Test.YtkpjhjoopdbkaaaGreatDoorG03
import Derived.Deep.DeepCutAuto
namespace Go.Proofs.YtkpjhjoopdbkaaaGreatDoor
open Go.RowKit
end Go.Proofs.YtkpjhjoopdbkaaaGreatDoor
namespace Go.Proofs.YtkpjhjoopdbkaaaGreatDoor
mutual
def sameT : Tr → Tr → Bool
  | .mk k n l, b => decide (k = b.kind) && (decide (n = b.num) && sameL l b.kids)
def sameL : List Tr → List Tr → Bool
  | [], m => m.isEmpty
  | t :: r, m => match m with
    | [] => false
    | u :: s => sameT t u && sameL r s
end
theorem sameT_eq (a b : Tr) : sameT a b = (decide (a.kind = b.kind) && (decide (a.num = b.num) && sameL a.kids b.kids)) := by
  obtain ⟨k, n, l⟩ := a
  rw [sameT]; rfl
theorem sameL_len : ∀ (l m : List Tr), l.length ≠ m.length → sameL l m = false
  | [], [], h => by simp at h
  | [], u :: s, _ => by rw [sameL]; rfl
  | t :: r, [], _ => by rw [sameL]
  | t :: r, u :: s, h => by
    rw [sameL]
    rw [sameL_len r s (by simpa using h), Bool.and_false]
theorem sameL_nil : sameL [] [] = true := by rw [sameL]; rfl
theorem sameL_cons (t u : Tr) (r s : List Tr) : sameL (t :: r) (u :: s) = (sameT t u && sameL r s) := by rw [sameL]
mutual
theorem sameT_self : ∀ t : Tr, sameT t t = true
  | .mk k n l => by
    rw [sameT_eq, show (Tr.mk k n l).kids = l from rfl, sameL_self l]
    simp
theorem sameL_self : ∀ l : List Tr, sameL l l = true
  | [] => sameL_nil
  | t :: r => by rw [sameL_cons, sameT_self t, sameL_self r]; rfl
end
end Go.Proofs.YtkpjhjoopdbkaaaGreatDoor
namespace Go.Proofs.YtkpjhjoopdbkaaaGreatDoor
open Go.RowKit
end Go.Proofs.YtkpjhjoopdbkaaaGreatDoor
