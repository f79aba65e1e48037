/-
  DERIVED. GIVEN WITH THE SEED: THE CARDS: each row of YtkpjhjoopdbkaaaGreatDoorRows.lean that lists a variable, with what it lists TIED to the program's text (the seventh form; the later family's looks); each row that meets fmt, with fmt's text TOLD by the authors' own Lean function (tested against real Go, not proved from fmt's source: count such statements apart). THE CARD IS WHAT COUNTS. Prove the row's statement (the work); the ties are given (YtkpjhjoopdbkaaaGreatDoorTie.lean); close each card by the builder's one call (the guide's Derived/Test/ToyasCard.lean, 'card_holds'). Laid BY PROGRAM, IN A SANDBOX (cutbox-door.mjs). By AI agents, Wed Nov 11 2026. No macro, syntax, notation, axiom, sorry.
-/
import Derived.Test.YtkpjhjoopdbkaaaGreatDoorRows
import GoSem.ClaimSeven
namespace Go.Proofs.YtkpjhjoopdbkaaaGreatDoor
namespace Rows

/-- THE TIED CARD OF 'baldriclaw06.ParseGroups'. -/
def parseGroupsCard : Claim7 := { stood := { row := parseGroupsRow, standIns := [], harness := (true, "1601f652d1380490647130189cc5ecb66ef3c2a11cef7a2019f9eab44a843225"), looks := false }, kinds := [], alts := [], laidByText := true, laidKinds := [.data, .data, .data, .listed, .data], laidTests := true, laidLooks := .later }
def ParseGroupsCardSaid : Prop := Claim7.holds Tryz.pinned (.plain (OpenSpec.ofChange parseGroupsSpec)) parseGroupsCard

/-- THE TIED CARD OF 'baldriclaw06.ParsePlaces'. -/
def parsePlacesCard : Claim7 := { stood := { row := parsePlacesRow, standIns := [], harness := (true, "1601f652d1380490647130189cc5ecb66ef3c2a11cef7a2019f9eab44a843225"), looks := false }, kinds := [], alts := [], laidByText := true, laidKinds := [.data, .data, .data, .listed, .data], laidTests := true, laidLooks := .later }
def ParsePlacesCardSaid : Prop := Claim7.holds Tryz.pinned (.plain (OpenSpec.ofChange parsePlacesSpec)) parsePlacesCard

/-- THE TIED CARD OF 'baldriclaw06.ParseBack'. -/
def parseBackCard : Claim7 := { stood := { row := parseBackRow, standIns := [], harness := (true, "1601f652d1380490647130189cc5ecb66ef3c2a11cef7a2019f9eab44a843225"), looks := false }, kinds := [], alts := [], laidByText := true, laidKinds := [.data, .data, .data, .listed, .data], laidTests := true, laidLooks := .later }
def ParseBackCardSaid : Prop := Claim7.holds Tryz.pinned (.plain (OpenSpec.ofChange parseBackSpec)) parseBackCard

/-- THE TIED CARD OF 'baldriclaw07.PrintBack'. -/
def printBackCard : Claim7 := { stood := { row := printBackRow, standIns := [], harness := (true, "1601f652d1380490647130189cc5ecb66ef3c2a11cef7a2019f9eab44a843225"), looks := false }, kinds := [], alts := [], laidByText := true, laidKinds := [.data, .data, .data, .listed, .data], laidTests := true, laidLooks := .later }
def PrintBackCardSaid : Prop := Claim7.holds Tryz.pinned (.plain (OpenSpec.ofChange printBackSpec)) printBackCard

/-- THE TIED CARD OF 'baldriclaw07.PrintShort'. -/
def printShortCard : Claim7 := { stood := { row := printShortRow, standIns := [], harness := (true, "1601f652d1380490647130189cc5ecb66ef3c2a11cef7a2019f9eab44a843225"), looks := false }, kinds := [], alts := [], laidByText := true, laidKinds := [.data, .data, .data, .listed, .data], laidTests := true, laidLooks := .later }
def PrintShortCardSaid : Prop := Claim7.holds Tryz.pinned (.plain (OpenSpec.ofChange printShortSpec)) printShortCard

/-- THE SECOND FORM's CARD OF 'baldriclaw06.ParseGroups'. -/
def parseGroupsUptoCard : Claim7 := { stood := { row := parseGroupsUptoRow, standIns := [], harness := (true, "1601f652d1380490647130189cc5ecb66ef3c2a11cef7a2019f9eab44a843225"), looks := false }, kinds := [], alts := [], laidByText := true, laidKinds := [.data, .data, .data, .listed, .data], laidTests := true, laidLooks := .later }
def ParseGroupsUptoCardSaid : Prop := Claim7.holds Tryz.pinned (.plain (OpenSpec.upto parseGroupsSpec)) parseGroupsUptoCard

/-- THE SECOND FORM's CARD OF 'baldriclaw06.ParsePlaces'. -/
def parsePlacesUptoCard : Claim7 := { stood := { row := parsePlacesUptoRow, standIns := [], harness := (true, "1601f652d1380490647130189cc5ecb66ef3c2a11cef7a2019f9eab44a843225"), looks := false }, kinds := [], alts := [], laidByText := true, laidKinds := [.data, .data, .data, .listed, .data], laidTests := true, laidLooks := .later }
def ParsePlacesUptoCardSaid : Prop := Claim7.holds Tryz.pinned (.plain (OpenSpec.upto parsePlacesSpec)) parsePlacesUptoCard

/-- THE SECOND FORM's CARD OF 'baldriclaw06.ParseBack'. -/
def parseBackUptoCard : Claim7 := { stood := { row := parseBackUptoRow, standIns := [], harness := (true, "1601f652d1380490647130189cc5ecb66ef3c2a11cef7a2019f9eab44a843225"), looks := false }, kinds := [], alts := [], laidByText := true, laidKinds := [.data, .data, .data, .listed, .data], laidTests := true, laidLooks := .later }
def ParseBackUptoCardSaid : Prop := Claim7.holds Tryz.pinned (.plain (OpenSpec.upto parseBackSpec)) parseBackUptoCard

/-- THE SECOND FORM's CARD OF 'baldriclaw07.PrintBack'. -/
def printBackUptoCard : Claim7 := { stood := { row := printBackUptoRow, standIns := [], harness := (true, "1601f652d1380490647130189cc5ecb66ef3c2a11cef7a2019f9eab44a843225"), looks := false }, kinds := [], alts := [], laidByText := true, laidKinds := [.data, .data, .data, .listed, .data], laidTests := true, laidLooks := .later }
def PrintBackUptoCardSaid : Prop := Claim7.holds Tryz.pinned (.plain (OpenSpec.upto printBackSpec)) printBackUptoCard

/-- THE SECOND FORM's CARD OF 'baldriclaw07.PrintShort'. -/
def printShortUptoCard : Claim7 := { stood := { row := printShortUptoRow, standIns := [], harness := (true, "1601f652d1380490647130189cc5ecb66ef3c2a11cef7a2019f9eab44a843225"), looks := false }, kinds := [], alts := [], laidByText := true, laidKinds := [.data, .data, .data, .listed, .data], laidTests := true, laidLooks := .later }
def PrintShortUptoCardSaid : Prop := Claim7.holds Tryz.pinned (.plain (OpenSpec.upto printShortSpec)) printShortUptoCard
end Rows
end Go.Proofs.YtkpjhjoopdbkaaaGreatDoor
