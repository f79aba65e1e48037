/-
  DERIVED. GIVEN WITH THE SEED: THE CARDS: each row of YtajcleobmgjhoaaDoorRows.lean that lists a variable, with what it lists TIED to the program's text (the seventh form; the later family's looks); each row that meets fmt, with fmt's text TOLD by the authors' own Lean function (tested against real Go, not proved from fmt's source: count such statements apart). THE CARD IS WHAT COUNTS. Prove the row's statement (the work); the ties are given (YtajcleobmgjhoaaDoorTie.lean); close each card by the builder's one call (the guide's Derived/Test/ToyasCard.lean, 'card_holds'). Laid BY PROGRAM, IN A SANDBOX (cutbox-door.mjs). By AI agents, Wed Nov 11 2026. No macro, syntax, notation, axiom, sorry.
-/
import Derived.Test.YtajcleobmgjhoaaDoorRows
import GoSem.ClaimSeven
namespace Go.Proofs.YtajcleobmgjhoaaDoor
namespace Rows

/-- THE TIED CARD OF 'baldriclaw09.MarkMore'. -/
def markMoreCard : Claim7 := { stood := { row := markMoreRow, standIns := [], harness := (true, "125d4bfb5332858bf353c7a59a941483b8054380e80bdcc91088a8b756d5e364"), looks := false }, kinds := [], alts := [], laidByText := true, laidKinds := [.data, .data, .data], laidTests := true, laidLooks := .later }
def MarkMoreCardSaid : Prop := Claim7.holds Tryd.pinned (.plain (OpenSpec.ofChange markMoreSpec)) markMoreCard

/-- THE TIED CARD OF 'baldriclaw09.MarkBack'. -/
def markBackCard : Claim7 := { stood := { row := markBackRow, standIns := [], harness := (true, "125d4bfb5332858bf353c7a59a941483b8054380e80bdcc91088a8b756d5e364"), looks := false }, kinds := [], alts := [], laidByText := true, laidKinds := [.data, .data, .data], laidTests := true, laidLooks := .later }
def MarkBackCardSaid : Prop := Claim7.holds Tryd.pinned (.plain (OpenSpec.ofChange markBackSpec)) markBackCard

/-- THE TIED CARD OF 'baldriclaw09.MarkEnds'. -/
def markEndsCard : Claim7 := { stood := { row := markEndsRow, standIns := [], harness := (true, "125d4bfb5332858bf353c7a59a941483b8054380e80bdcc91088a8b756d5e364"), looks := false }, kinds := [], alts := [], laidByText := true, laidKinds := [.data, .data, .data], laidTests := true, laidLooks := .later }
def MarkEndsCardSaid : Prop := Claim7.holds Tryd.pinned (.plain (OpenSpec.ofChange markEndsSpec)) markEndsCard

/-- THE SECOND FORM's CARD OF 'baldriclaw09.MarkMore'. -/
def markMoreUptoCard : Claim7 := { stood := { row := markMoreUptoRow, standIns := [], harness := (true, "125d4bfb5332858bf353c7a59a941483b8054380e80bdcc91088a8b756d5e364"), looks := false }, kinds := [], alts := [], laidByText := true, laidKinds := [.data, .data, .data], laidTests := true, laidLooks := .later }
def MarkMoreUptoCardSaid : Prop := Claim7.holds Tryd.pinned (.plain (OpenSpec.upto markMoreSpec)) markMoreUptoCard

/-- THE SECOND FORM's CARD OF 'baldriclaw09.MarkBack'. -/
def markBackUptoCard : Claim7 := { stood := { row := markBackUptoRow, standIns := [], harness := (true, "125d4bfb5332858bf353c7a59a941483b8054380e80bdcc91088a8b756d5e364"), looks := false }, kinds := [], alts := [], laidByText := true, laidKinds := [.data, .data, .data], laidTests := true, laidLooks := .later }
def MarkBackUptoCardSaid : Prop := Claim7.holds Tryd.pinned (.plain (OpenSpec.upto markBackSpec)) markBackUptoCard

/-- THE SECOND FORM's CARD OF 'baldriclaw09.MarkEnds'. -/
def markEndsUptoCard : Claim7 := { stood := { row := markEndsUptoRow, standIns := [], harness := (true, "125d4bfb5332858bf353c7a59a941483b8054380e80bdcc91088a8b756d5e364"), looks := false }, kinds := [], alts := [], laidByText := true, laidKinds := [.data, .data, .data], laidTests := true, laidLooks := .later }
def MarkEndsUptoCardSaid : Prop := Claim7.holds Tryd.pinned (.plain (OpenSpec.upto markEndsSpec)) markEndsUptoCard
end Rows
end Go.Proofs.YtajcleobmgjhoaaDoor
