/- Joined: Plain law of parse: places alone depend on places. -/
import Derived.Test.YtkpjhjoopdbkaaaGreatDoorG25
namespace Go.Proofs.YtkpjhjoopdbkaaaGreatDoor
theorem kt_move (d : Nat) (T : List Tok) : ktOf (T.map (Tok.move d)) = ktOf T := by
  unfold ktOf
  rw [List.map_map]
  rfl
end Go.Proofs.YtkpjhjoopdbkaaaGreatDoor
