/-
  DERIVED. GIVEN WITH THE SEED: THE CARDS: each row of YtcbmaclhocdejaaDoorRows.lean that lists a variable, with what it lists TIED to the program's text (the seventh form; the later family's looks); each row that meets fmt, with fmt's text TOLD by the authors' own Lean function (tested against real Go, not proved from fmt's source: count such statements apart). THE CARD IS WHAT COUNTS. Prove the row's statement (the work); the ties are given (YtcbmaclhocdejaaDoorTie.lean); close each card by the builder's one call (the guide's Derived/Test/ToyasCard.lean, 'card_holds'). Laid BY PROGRAM, IN A SANDBOX (cutbox-door.mjs). By AI agents, Wed Nov 11 2026. No macro, syntax, notation, axiom, sorry.
-/
import Derived.Test.YtcbmaclhocdejaaDoorRows
import GoSem.ClaimSeven
namespace Go.Proofs.YtcbmaclhocdejaaDoor
namespace Rows

/-- THE TIED CARD OF 'baldriclaw05.TokenJoins'. -/
def tokenJoinsCard : Claim7 := { stood := { row := tokenJoinsRow, standIns := [], harness := (true, "ffdb66e3c8fb09d5b317e740755b8e2811b498c34ae2d73d110e4da1ea092708"), looks := false }, kinds := [], alts := [], laidByText := true, laidKinds := [.listed, .data], laidTests := true, laidLooks := .later }
def TokenJoinsCardSaid : Prop := Claim7.holds Tryd.pinned (.plain (OpenSpec.ofChange tokenJoinsSpec)) tokenJoinsCard

/-- THE TIED CARD OF 'baldriclaw05.TokenMore'. -/
def tokenMoreCard : Claim7 := { stood := { row := tokenMoreRow, standIns := [], harness := (true, "ffdb66e3c8fb09d5b317e740755b8e2811b498c34ae2d73d110e4da1ea092708"), looks := false }, kinds := [], alts := [], laidByText := true, laidKinds := [.listed, .data], laidTests := true, laidLooks := .later }
def TokenMoreCardSaid : Prop := Claim7.holds Tryd.pinned (.plain (OpenSpec.ofChange tokenMoreSpec)) tokenMoreCard

/-- THE TIED CARD OF 'baldriclaw05.TokenPlaces'. -/
def tokenPlacesCard : Claim7 := { stood := { row := tokenPlacesRow, standIns := [], harness := (true, "ffdb66e3c8fb09d5b317e740755b8e2811b498c34ae2d73d110e4da1ea092708"), looks := false }, kinds := [], alts := [], laidByText := true, laidKinds := [.listed, .data], laidTests := true, laidLooks := .later }
def TokenPlacesCardSaid : Prop := Claim7.holds Tryd.pinned (.plain (OpenSpec.ofChange tokenPlacesSpec)) tokenPlacesCard

/-- THE TIED CARD OF 'baldriclaw05.TokenWords'. -/
def tokenWordsCard : Claim7 := { stood := { row := tokenWordsRow, standIns := [], harness := (true, "ffdb66e3c8fb09d5b317e740755b8e2811b498c34ae2d73d110e4da1ea092708"), looks := false }, kinds := [], alts := [], laidByText := true, laidKinds := [.listed, .data], laidTests := true, laidLooks := .later }
def TokenWordsCardSaid : Prop := Claim7.holds Tryd.pinned (.plain (OpenSpec.ofChange tokenWordsSpec)) tokenWordsCard

/-- THE SECOND FORM's CARD OF 'baldriclaw05.TokenJoins'. -/
def tokenJoinsUptoCard : Claim7 := { stood := { row := tokenJoinsUptoRow, standIns := [], harness := (true, "ffdb66e3c8fb09d5b317e740755b8e2811b498c34ae2d73d110e4da1ea092708"), looks := false }, kinds := [], alts := [], laidByText := true, laidKinds := [.listed, .data], laidTests := true, laidLooks := .later }
def TokenJoinsUptoCardSaid : Prop := Claim7.holds Tryd.pinned (.plain (OpenSpec.upto tokenJoinsSpec)) tokenJoinsUptoCard

/-- THE SECOND FORM's CARD OF 'baldriclaw05.TokenMore'. -/
def tokenMoreUptoCard : Claim7 := { stood := { row := tokenMoreUptoRow, standIns := [], harness := (true, "ffdb66e3c8fb09d5b317e740755b8e2811b498c34ae2d73d110e4da1ea092708"), looks := false }, kinds := [], alts := [], laidByText := true, laidKinds := [.listed, .data], laidTests := true, laidLooks := .later }
def TokenMoreUptoCardSaid : Prop := Claim7.holds Tryd.pinned (.plain (OpenSpec.upto tokenMoreSpec)) tokenMoreUptoCard

/-- THE SECOND FORM's CARD OF 'baldriclaw05.TokenPlaces'. -/
def tokenPlacesUptoCard : Claim7 := { stood := { row := tokenPlacesUptoRow, standIns := [], harness := (true, "ffdb66e3c8fb09d5b317e740755b8e2811b498c34ae2d73d110e4da1ea092708"), looks := false }, kinds := [], alts := [], laidByText := true, laidKinds := [.listed, .data], laidTests := true, laidLooks := .later }
def TokenPlacesUptoCardSaid : Prop := Claim7.holds Tryd.pinned (.plain (OpenSpec.upto tokenPlacesSpec)) tokenPlacesUptoCard

/-- THE SECOND FORM's CARD OF 'baldriclaw05.TokenWords'. -/
def tokenWordsUptoCard : Claim7 := { stood := { row := tokenWordsUptoRow, standIns := [], harness := (true, "ffdb66e3c8fb09d5b317e740755b8e2811b498c34ae2d73d110e4da1ea092708"), looks := false }, kinds := [], alts := [], laidByText := true, laidKinds := [.listed, .data], laidTests := true, laidLooks := .later }
def TokenWordsUptoCardSaid : Prop := Claim7.holds Tryd.pinned (.plain (OpenSpec.upto tokenWordsSpec)) tokenWordsUptoCard
end Rows
end Go.Proofs.YtcbmaclhocdejaaDoor
