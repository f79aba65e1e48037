/-
  DERIVED. GIVEN WITH THE SEED: THE CARDS: each row of YtajcleobmgjhoaaGreatDoorRows.lean that lists a variable, with what it lists TIED to the program's text (the seventh form; the later family's looks); each row that meets fmt, with fmt's text TOLD by the authors' own Lean function (tested against real Go, not proved from fmt's source: count such statements apart). THE CARD IS WHAT COUNTS. Prove the row's statement (the work); the ties are given (YtajcleobmgjhoaaGreatDoorTie.lean); close each card by the builder's one call (the guide's Derived/Test/ToyasCard.lean, 'card_holds'). Laid BY PROGRAM, IN A SANDBOX (cutbox-door.mjs). By AI agents, Wed Nov 11 2026. No macro, syntax, notation, axiom, sorry.
-/
import Derived.Test.YtajcleobmgjhoaaGreatDoorRows
import GoSem.ClaimSeven
namespace Go.Proofs.YtajcleobmgjhoaaGreatDoor
namespace Rows

/-- THE TIED CARD OF 'baldriclaw09.MarkOrders'. -/
def markOrdersCard : Claim7 := { stood := { row := markOrdersRow, standIns := [], harness := (true, "44331332bcb4b4a35887d40534de05af542ceda155c18874323a3c42d0bc1629"), looks := false }, kinds := [], alts := [], laidByText := true, laidKinds := [.data, .data, .data], laidTests := true, laidLooks := .later }
def MarkOrdersCardSaid : Prop := Claim7.holds Tryz.pinned (.plain (OpenSpec.ofChange markOrdersSpec)) markOrdersCard

/-- THE TIED CARD OF 'baldriclaw09.MarkBytes'. -/
def markBytesCard : Claim7 := { stood := { row := markBytesRow, standIns := [], harness := (true, "44331332bcb4b4a35887d40534de05af542ceda155c18874323a3c42d0bc1629"), looks := false }, kinds := [], alts := [], laidByText := true, laidKinds := [.data, .data, .data], laidTests := true, laidLooks := .later }
def MarkBytesCardSaid : Prop := Claim7.holds Tryz.pinned (.plain (OpenSpec.ofChange markBytesSpec)) markBytesCard

/-- THE SECOND FORM's CARD OF 'baldriclaw09.MarkOrders'. -/
def markOrdersUptoCard : Claim7 := { stood := { row := markOrdersUptoRow, standIns := [], harness := (true, "44331332bcb4b4a35887d40534de05af542ceda155c18874323a3c42d0bc1629"), looks := false }, kinds := [], alts := [], laidByText := true, laidKinds := [.data, .data, .data], laidTests := true, laidLooks := .later }
def MarkOrdersUptoCardSaid : Prop := Claim7.holds Tryz.pinned (.plain (OpenSpec.upto markOrdersSpec)) markOrdersUptoCard

/-- THE SECOND FORM's CARD OF 'baldriclaw09.MarkBytes'. -/
def markBytesUptoCard : Claim7 := { stood := { row := markBytesUptoRow, standIns := [], harness := (true, "44331332bcb4b4a35887d40534de05af542ceda155c18874323a3c42d0bc1629"), looks := false }, kinds := [], alts := [], laidByText := true, laidKinds := [.data, .data, .data], laidTests := true, laidLooks := .later }
def MarkBytesUptoCardSaid : Prop := Claim7.holds Tryz.pinned (.plain (OpenSpec.upto markBytesSpec)) markBytesUptoCard
end Rows
end Go.Proofs.YtajcleobmgjhoaaGreatDoor
