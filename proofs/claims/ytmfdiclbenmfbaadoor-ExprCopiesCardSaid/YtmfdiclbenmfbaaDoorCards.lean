/-
  DERIVED. GIVEN WITH THE SEED: THE CARDS: each row of YtmfdiclbenmfbaaDoorRows.lean that lists a variable, with what it lists TIED to the program's text (the seventh form; the later family's looks); each row that meets fmt, with fmt's text TOLD by the authors' own Lean function (tested against real Go, not proved from fmt's source: count such statements apart). THE CARD IS WHAT COUNTS. Prove the row's statement (the work); the ties are given (YtmfdiclbenmfbaaDoorTie.lean); close each card by the builder's one call (the guide's Derived/Test/ToyasCard.lean, 'card_holds'). Laid BY PROGRAM, IN A SANDBOX (cutbox-door.mjs). By AI agents, Wed Nov 11 2026. No macro, syntax, notation, axiom, sorry.
-/
import Derived.Test.YtmfdiclbenmfbaaDoorRows
import GoSem.ClaimSeven
namespace Go.Proofs.YtmfdiclbenmfbaaDoor
namespace Rows

/-- THE TIED CARD OF 'baldriclaw04.ExprTells'. -/
def exprTellsCard : Claim7 := { stood := { row := exprTellsRow, standIns := [], harness := (true, "7886c7e35707402d6dc3012362f9c028b4f9e1840d9a270cabed0be44bd585a1"), looks := false }, kinds := [], alts := [], laidByText := true, laidKinds := [.data, .data, .data], laidTests := true, laidLooks := .later }
def ExprTellsCardSaid : Prop := Claim7.holds Tryd.pinned (.plain (OpenSpec.ofChange exprTellsSpec)) exprTellsCard

/-- THE TIED CARD OF 'baldriclaw04.ExprEvals'. -/
def exprEvalsCard : Claim7 := { stood := { row := exprEvalsRow, standIns := [], harness := (true, "7886c7e35707402d6dc3012362f9c028b4f9e1840d9a270cabed0be44bd585a1"), looks := false }, kinds := [], alts := [], laidByText := true, laidKinds := [.data, .data, .data], laidTests := true, laidLooks := .later }
def ExprEvalsCardSaid : Prop := Claim7.holds Tryd.pinned (.plain (OpenSpec.ofChange exprEvalsSpec)) exprEvalsCard

/-- THE TIED CARD OF 'baldriclaw04.ExprPuts'. -/
def exprPutsCard : Claim7 := { stood := { row := exprPutsRow, standIns := [], harness := (true, "7886c7e35707402d6dc3012362f9c028b4f9e1840d9a270cabed0be44bd585a1"), looks := false }, kinds := [], alts := [], laidByText := true, laidKinds := [.data, .data, .data], laidTests := true, laidLooks := .later }
def ExprPutsCardSaid : Prop := Claim7.holds Tryd.pinned (.plain (OpenSpec.ofChange exprPutsSpec)) exprPutsCard

/-- THE TIED CARD OF 'baldriclaw04.ExprFree'. -/
def exprFreeCard : Claim7 := { stood := { row := exprFreeRow, standIns := [], harness := (true, "7886c7e35707402d6dc3012362f9c028b4f9e1840d9a270cabed0be44bd585a1"), looks := false }, kinds := [], alts := [], laidByText := true, laidKinds := [.data, .data, .data], laidTests := true, laidLooks := .later }
def ExprFreeCardSaid : Prop := Claim7.holds Tryd.pinned (.plain (OpenSpec.ofChange exprFreeSpec)) exprFreeCard

/-- THE TIED CARD OF 'baldriclaw04.ExprNests'. -/
def exprNestsCard : Claim7 := { stood := { row := exprNestsRow, standIns := [], harness := (true, "7886c7e35707402d6dc3012362f9c028b4f9e1840d9a270cabed0be44bd585a1"), looks := false }, kinds := [], alts := [], laidByText := true, laidKinds := [.data, .data, .data], laidTests := true, laidLooks := .later }
def ExprNestsCardSaid : Prop := Claim7.holds Tryd.pinned (.plain (OpenSpec.ofChange exprNestsSpec)) exprNestsCard

/-- THE TIED CARD OF 'baldriclaw04.ExprCopies'. -/
def exprCopiesCard : Claim7 := { stood := { row := exprCopiesRow, standIns := [], harness := (true, "7886c7e35707402d6dc3012362f9c028b4f9e1840d9a270cabed0be44bd585a1"), looks := false }, kinds := [], alts := [], laidByText := true, laidKinds := [.data, .data, .data], laidTests := true, laidLooks := .later }
def ExprCopiesCardSaid : Prop := Claim7.holds Tryd.pinned (.plain (OpenSpec.ofChange exprCopiesSpec)) exprCopiesCard

/-- THE SECOND FORM's CARD OF 'baldriclaw04.ExprTells'. -/
def exprTellsUptoCard : Claim7 := { stood := { row := exprTellsUptoRow, standIns := [], harness := (true, "7886c7e35707402d6dc3012362f9c028b4f9e1840d9a270cabed0be44bd585a1"), looks := false }, kinds := [], alts := [], laidByText := true, laidKinds := [.data, .data, .data], laidTests := true, laidLooks := .later }
def ExprTellsUptoCardSaid : Prop := Claim7.holds Tryd.pinned (.plain (OpenSpec.upto exprTellsSpec)) exprTellsUptoCard

/-- THE SECOND FORM's CARD OF 'baldriclaw04.ExprEvals'. -/
def exprEvalsUptoCard : Claim7 := { stood := { row := exprEvalsUptoRow, standIns := [], harness := (true, "7886c7e35707402d6dc3012362f9c028b4f9e1840d9a270cabed0be44bd585a1"), looks := false }, kinds := [], alts := [], laidByText := true, laidKinds := [.data, .data, .data], laidTests := true, laidLooks := .later }
def ExprEvalsUptoCardSaid : Prop := Claim7.holds Tryd.pinned (.plain (OpenSpec.upto exprEvalsSpec)) exprEvalsUptoCard

/-- THE SECOND FORM's CARD OF 'baldriclaw04.ExprPuts'. -/
def exprPutsUptoCard : Claim7 := { stood := { row := exprPutsUptoRow, standIns := [], harness := (true, "7886c7e35707402d6dc3012362f9c028b4f9e1840d9a270cabed0be44bd585a1"), looks := false }, kinds := [], alts := [], laidByText := true, laidKinds := [.data, .data, .data], laidTests := true, laidLooks := .later }
def ExprPutsUptoCardSaid : Prop := Claim7.holds Tryd.pinned (.plain (OpenSpec.upto exprPutsSpec)) exprPutsUptoCard

/-- THE SECOND FORM's CARD OF 'baldriclaw04.ExprFree'. -/
def exprFreeUptoCard : Claim7 := { stood := { row := exprFreeUptoRow, standIns := [], harness := (true, "7886c7e35707402d6dc3012362f9c028b4f9e1840d9a270cabed0be44bd585a1"), looks := false }, kinds := [], alts := [], laidByText := true, laidKinds := [.data, .data, .data], laidTests := true, laidLooks := .later }
def ExprFreeUptoCardSaid : Prop := Claim7.holds Tryd.pinned (.plain (OpenSpec.upto exprFreeSpec)) exprFreeUptoCard

/-- THE SECOND FORM's CARD OF 'baldriclaw04.ExprNests'. -/
def exprNestsUptoCard : Claim7 := { stood := { row := exprNestsUptoRow, standIns := [], harness := (true, "7886c7e35707402d6dc3012362f9c028b4f9e1840d9a270cabed0be44bd585a1"), looks := false }, kinds := [], alts := [], laidByText := true, laidKinds := [.data, .data, .data], laidTests := true, laidLooks := .later }
def ExprNestsUptoCardSaid : Prop := Claim7.holds Tryd.pinned (.plain (OpenSpec.upto exprNestsSpec)) exprNestsUptoCard

/-- THE SECOND FORM's CARD OF 'baldriclaw04.ExprCopies'. -/
def exprCopiesUptoCard : Claim7 := { stood := { row := exprCopiesUptoRow, standIns := [], harness := (true, "7886c7e35707402d6dc3012362f9c028b4f9e1840d9a270cabed0be44bd585a1"), looks := false }, kinds := [], alts := [], laidByText := true, laidKinds := [.data, .data, .data], laidTests := true, laidLooks := .later }
def ExprCopiesUptoCardSaid : Prop := Claim7.holds Tryd.pinned (.plain (OpenSpec.upto exprCopiesSpec)) exprCopiesUptoCard
end Rows
end Go.Proofs.YtmfdiclbenmfbaaDoor
