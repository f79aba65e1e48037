/-
  DERIVED. GIVEN WITH THE SEED: THE CARDS: each row of YtckcoknfgfjhmaaDoorRows.lean that lists a variable, with what it lists TIED to the program's text (the seventh form; the later family's looks); each row that meets fmt, with fmt's text TOLD by the authors' own Lean function (tested against real Go, not proved from fmt's source: count such statements apart). THE CARD IS WHAT COUNTS. Prove the row's statement (the work); the ties are given (YtckcoknfgfjhmaaDoorTie.lean); close each card by the builder's one call (the guide's Derived/Test/ToyasCard.lean, 'card_holds'). Laid BY PROGRAM, IN A SANDBOX (cutbox-door.mjs). By AI agents, Wed Nov 11 2026. No macro, syntax, notation, axiom, sorry.
-/
import Derived.Test.YtckcoknfgfjhmaaDoorRows
import GoSem.ClaimSeven
namespace Go.Proofs.YtckcoknfgfjhmaaDoor
namespace Rows

/-- THE TIED CARD OF 'baldriclaw02.ColourNested'. -/
def colourNestedCard : Claim7 := { stood := { row := colourNestedRow, standIns := [], harness := (true, "9bb68862f87ea0dbf1c2f32f79577459c0dbf302b7cb1c040d0acbe2e0003fa1"), looks := true }, kinds := [], alts := [], laidByText := true, laidKinds := [.data, .data, .data, .sentinel, .sentinel], laidTests := true, laidLooks := .later }
def ColourNestedCardSaid : Prop := Claim7.holds Tryd.pinned (.plain (OpenSpec.ofChange colourNestedSpec)) colourNestedCard

/-- THE SECOND FORM's CARD OF 'baldriclaw02.ColourNested'. -/
def colourNestedUptoCard : Claim7 := { stood := { row := colourNestedUptoRow, standIns := [], harness := (true, "9bb68862f87ea0dbf1c2f32f79577459c0dbf302b7cb1c040d0acbe2e0003fa1"), looks := true }, kinds := [], alts := [], laidByText := true, laidKinds := [.data, .data, .data, .sentinel, .sentinel], laidTests := true, laidLooks := .later }
def ColourNestedUptoCardSaid : Prop := Claim7.holds Tryd.pinned (.plain (OpenSpec.upto colourNestedSpec)) colourNestedUptoCard
end Rows
end Go.Proofs.YtckcoknfgfjhmaaDoor
