/-
  No cell of these rows narrows 'for every input' (looked for: loops, veiled, ifaces, maps, wideKeys, modest, calm, conditions, laid).
  DERIVED. THE GIVEN ROWS OF THIS SEAT. 6 by the template 'for every input the law returns true; each argument reads behind the call as it read before'; 0 by the template 'total and deterministic' (their statements: YtifbodndgjkgaaaTotals.lean).
  GIVEN WITH THE SEED: the statements are not yours to turn. If you find one false, say at which input.
  Laid BY PROGRAM, IN A SANDBOX (cutbox-rows.mjs): the forced cells as the released guide's own fill.sh prints them over the translation be1d9acce605b6da… (all of the seat's roots in one cut). By AI agents, Wed Nov 11 2026. No macro, syntax, notation, axiom, sorry.
-/
import Derived.Test.YtifbodndgjkgaaaChecked
import GoSem.Claim
import GoSem.ClaimJoined
import GoSem.ClaimMapViews
import Derived.JoinedTies
import Derived.KernelRfl
namespace Go.Proofs.Ytifbodndgjkgaaa
/- THE CELL 'sum', in the pinned program and in every row, IS THE sha256 OF THE DUMP (.gsa) THAT YtifbodndgjkgaaaProg.lean LOADS. Nothing in Lean hashes anything: it is a label: what it is worth is what the hold of that sum in a sandbox is worth. -/
noncomputable def Try.pinned : Pinned := { name := "ytifbodndgjkgaaa", sum := "be1d9acce605b6da55e87991a4638c4c2b94c134d6d13be97bd5f5fb42cfc0bd", checked := Try.checked }
namespace Rows
def none {H : Type} : Left H := { results := [], args := [] }

/-- 'baldriclaw01.CalcTells': WHATEVER THE INPUT: true; the input reads as it did. -/
def calcTellsSpec : ChangeSpec := { name := "calcTells", fn := fun _ => fun
  | [d1, d2, d3] => { results := [.lit (.bool true)], args := [d1, d2, d3] }
  | _ => none }
def calcTellsRow : OpenClaim := { program := "ytifbodndgjkgaaa", sum := "be1d9acce605b6da55e87991a4638c4c2b94c134d6d13be97bd5f5fb42cfc0bd", func := "baldric/baldriclaw01.CalcTells", spec := "calcTells", apart := false }
def CalcTellsSaid : Prop := calcTellsRow.holds Try.pinned (OpenSpec.ofChange calcTellsSpec)

/-- ITS FALSE NEIGHBOUR: 'it returns false'. Refute it at one input. -/
def calcTellsWrong : ChangeSpec := { name := "calcTells", fn := fun _ => fun
  | [d1, d2, d3] => { results := [.lit (.bool false)], args := [d1, d2, d3] }
  | _ => none }
def CalcTellsWrongFalsely : Prop := calcTellsRow.holds Try.pinned (OpenSpec.ofChange calcTellsWrong)

/-- 'baldriclaw01.CalcSigns': WHATEVER THE INPUT: true; the input reads as it did. -/
def calcSignsSpec : ChangeSpec := { name := "calcSigns", fn := fun _ => fun
  | [d1, d2] => { results := [.lit (.bool true)], args := [d1, d2] }
  | _ => none }
def calcSignsRow : OpenClaim := { program := "ytifbodndgjkgaaa", sum := "be1d9acce605b6da55e87991a4638c4c2b94c134d6d13be97bd5f5fb42cfc0bd", func := "baldric/baldriclaw01.CalcSigns", spec := "calcSigns", apart := false }
def CalcSignsSaid : Prop := calcSignsRow.holds Try.pinned (OpenSpec.ofChange calcSignsSpec)

/-- ITS FALSE NEIGHBOUR: 'it returns false'. Refute it at one input. -/
def calcSignsWrong : ChangeSpec := { name := "calcSigns", fn := fun _ => fun
  | [d1, d2] => { results := [.lit (.bool false)], args := [d1, d2] }
  | _ => none }
def CalcSignsWrongFalsely : Prop := calcSignsRow.holds Try.pinned (OpenSpec.ofChange calcSignsWrong)

/-- 'baldriclaw01.CalcFolds': WHATEVER THE INPUT: true; the input reads as it did. -/
def calcFoldsSpec : ChangeSpec := { name := "calcFolds", fn := fun _ => fun
  | [d1, d2] => { results := [.lit (.bool true)], args := [d1, d2] }
  | _ => none }
def calcFoldsRow : OpenClaim := { program := "ytifbodndgjkgaaa", sum := "be1d9acce605b6da55e87991a4638c4c2b94c134d6d13be97bd5f5fb42cfc0bd", func := "baldric/baldriclaw01.CalcFolds", spec := "calcFolds", apart := false }
def CalcFoldsSaid : Prop := calcFoldsRow.holds Try.pinned (OpenSpec.ofChange calcFoldsSpec)

/-- ITS FALSE NEIGHBOUR: 'it returns false'. Refute it at one input. -/
def calcFoldsWrong : ChangeSpec := { name := "calcFolds", fn := fun _ => fun
  | [d1, d2] => { results := [.lit (.bool false)], args := [d1, d2] }
  | _ => none }
def CalcFoldsWrongFalsely : Prop := calcFoldsRow.holds Try.pinned (OpenSpec.ofChange calcFoldsWrong)

/-- 'baldriclaw01.CalcExact': WHATEVER THE INPUT: true; the input reads as it did. -/
def calcExactSpec : ChangeSpec := { name := "calcExact", fn := fun _ => fun
  | [d1, d2] => { results := [.lit (.bool true)], args := [d1, d2] }
  | _ => none }
def calcExactRow : OpenClaim := { program := "ytifbodndgjkgaaa", sum := "be1d9acce605b6da55e87991a4638c4c2b94c134d6d13be97bd5f5fb42cfc0bd", func := "baldric/baldriclaw01.CalcExact", spec := "calcExact", apart := false }
def CalcExactSaid : Prop := calcExactRow.holds Try.pinned (OpenSpec.ofChange calcExactSpec)

/-- ITS FALSE NEIGHBOUR: 'it returns false'. Refute it at one input. -/
def calcExactWrong : ChangeSpec := { name := "calcExact", fn := fun _ => fun
  | [d1, d2] => { results := [.lit (.bool false)], args := [d1, d2] }
  | _ => none }
def CalcExactWrongFalsely : Prop := calcExactRow.holds Try.pinned (OpenSpec.ofChange calcExactWrong)

/-- 'baldriclaw01.CalcTurns': WHATEVER THE INPUT: true; the input reads as it did. -/
def calcTurnsSpec : ChangeSpec := { name := "calcTurns", fn := fun _ => fun
  | [d1, d2] => { results := [.lit (.bool true)], args := [d1, d2] }
  | _ => none }
def calcTurnsRow : OpenClaim := { program := "ytifbodndgjkgaaa", sum := "be1d9acce605b6da55e87991a4638c4c2b94c134d6d13be97bd5f5fb42cfc0bd", func := "baldric/baldriclaw01.CalcTurns", spec := "calcTurns", apart := false }
def CalcTurnsSaid : Prop := calcTurnsRow.holds Try.pinned (OpenSpec.ofChange calcTurnsSpec)

/-- ITS FALSE NEIGHBOUR: 'it returns false'. Refute it at one input. -/
def calcTurnsWrong : ChangeSpec := { name := "calcTurns", fn := fun _ => fun
  | [d1, d2] => { results := [.lit (.bool false)], args := [d1, d2] }
  | _ => none }
def CalcTurnsWrongFalsely : Prop := calcTurnsRow.holds Try.pinned (OpenSpec.ofChange calcTurnsWrong)

/-- 'baldriclaw01.CalcOrders': WHATEVER THE INPUT: true; the input reads as it did. -/
def calcOrdersSpec : ChangeSpec := { name := "calcOrders", fn := fun _ => fun
  | [d1, d2] => { results := [.lit (.bool true)], args := [d1, d2] }
  | _ => none }
def calcOrdersRow : OpenClaim := { program := "ytifbodndgjkgaaa", sum := "be1d9acce605b6da55e87991a4638c4c2b94c134d6d13be97bd5f5fb42cfc0bd", func := "baldric/baldriclaw01.CalcOrders", spec := "calcOrders", apart := false }
def CalcOrdersSaid : Prop := calcOrdersRow.holds Try.pinned (OpenSpec.ofChange calcOrdersSpec)

/-- ITS FALSE NEIGHBOUR: 'it returns false'. Refute it at one input. -/
def calcOrdersWrong : ChangeSpec := { name := "calcOrders", fn := fun _ => fun
  | [d1, d2] => { results := [.lit (.bool false)], args := [d1, d2] }
  | _ => none }
def CalcOrdersWrongFalsely : Prop := calcOrdersRow.holds Try.pinned (OpenSpec.ofChange calcOrdersWrong)

/- THE SECOND FORM. 'bulk': how many values and letters a reading holds, each counted each time it is reached (what is shared counts as often as it is met; a slice's spare places count too). A statement '..UptoSaid' is the law's where the arguments, and the package variables that the reading takes, are together of bulk at most 1048576: NARROWER than '..Said'. Prove '..Said' where nothing that the law and all that it calls make is longer than what came in: it says more and counts as full. Else prove '..UptoSaid'. A law counts once. -/
mutual
def uptoBulk {H : Type} : DataW H → Nat
  | .lit (.string bytes) => bytes.length + 1
  | .lit _ => 1
  | .nil => 1
  | .ptr d => uptoBulk d + 1
  | .slice elems spare => uptoBulkAll elems + uptoBulkAll spare + 1
  | .agg parts => uptoBulkAll parts + 1
  | .iface _ d => uptoBulk d + 1
  | .map entries => uptoBulkEntries entries + 1
  | .held _ => 1
def uptoBulkAll {H : Type} : List (DataW H) → Nat
  | [] => 0
  | d :: r => uptoBulk d + uptoBulkAll r
def uptoBulkEntries {H : Type} : List (Lit × DataW H) → Nat
  | [] => 0
  | x :: r => uptoBulkEntry x + uptoBulkEntries r
def uptoBulkEntry {H : Type} : Lit × DataW H → Nat
  | (.string bytes, d) => bytes.length + uptoBulk d + 1
  | (_, d) => uptoBulk d + 1
 end
def uptoSmall : (H : Type) → List (DataW H) → Bool := fun _ ds => decide (uptoBulkAll ds ≤ 1048576)
def OpenSpec.upto (s : _root_.Go.ChangeSpec) : _root_.Go.OpenSpec := { _root_.Go.OpenSpec.ofChange s with cond := some uptoSmall }

/-- 'baldriclaw01.CalcTells', WHERE WHAT IT READS IS OF BULK AT MOST 1048576: true; the input reads as it did. -/
def calcTellsUptoRow : OpenClaim := { program := "ytifbodndgjkgaaa", sum := "be1d9acce605b6da55e87991a4638c4c2b94c134d6d13be97bd5f5fb42cfc0bd", func := "baldric/baldriclaw01.CalcTells", spec := "calcTells", apart := false, narrowed := true }
def CalcTellsUptoSaid : Prop := calcTellsUptoRow.holds Try.pinned (OpenSpec.upto calcTellsSpec)

/-- 'baldriclaw01.CalcSigns', WHERE WHAT IT READS IS OF BULK AT MOST 1048576: true; the input reads as it did. -/
def calcSignsUptoRow : OpenClaim := { program := "ytifbodndgjkgaaa", sum := "be1d9acce605b6da55e87991a4638c4c2b94c134d6d13be97bd5f5fb42cfc0bd", func := "baldric/baldriclaw01.CalcSigns", spec := "calcSigns", apart := false, narrowed := true }
def CalcSignsUptoSaid : Prop := calcSignsUptoRow.holds Try.pinned (OpenSpec.upto calcSignsSpec)

/-- 'baldriclaw01.CalcFolds', WHERE WHAT IT READS IS OF BULK AT MOST 1048576: true; the input reads as it did. -/
def calcFoldsUptoRow : OpenClaim := { program := "ytifbodndgjkgaaa", sum := "be1d9acce605b6da55e87991a4638c4c2b94c134d6d13be97bd5f5fb42cfc0bd", func := "baldric/baldriclaw01.CalcFolds", spec := "calcFolds", apart := false, narrowed := true }
def CalcFoldsUptoSaid : Prop := calcFoldsUptoRow.holds Try.pinned (OpenSpec.upto calcFoldsSpec)

/-- 'baldriclaw01.CalcExact', WHERE WHAT IT READS IS OF BULK AT MOST 1048576: true; the input reads as it did. -/
def calcExactUptoRow : OpenClaim := { program := "ytifbodndgjkgaaa", sum := "be1d9acce605b6da55e87991a4638c4c2b94c134d6d13be97bd5f5fb42cfc0bd", func := "baldric/baldriclaw01.CalcExact", spec := "calcExact", apart := false, narrowed := true }
def CalcExactUptoSaid : Prop := calcExactUptoRow.holds Try.pinned (OpenSpec.upto calcExactSpec)

/-- 'baldriclaw01.CalcTurns', WHERE WHAT IT READS IS OF BULK AT MOST 1048576: true; the input reads as it did. -/
def calcTurnsUptoRow : OpenClaim := { program := "ytifbodndgjkgaaa", sum := "be1d9acce605b6da55e87991a4638c4c2b94c134d6d13be97bd5f5fb42cfc0bd", func := "baldric/baldriclaw01.CalcTurns", spec := "calcTurns", apart := false, narrowed := true }
def CalcTurnsUptoSaid : Prop := calcTurnsUptoRow.holds Try.pinned (OpenSpec.upto calcTurnsSpec)

/-- 'baldriclaw01.CalcOrders', WHERE WHAT IT READS IS OF BULK AT MOST 1048576: true; the input reads as it did. -/
def calcOrdersUptoRow : OpenClaim := { program := "ytifbodndgjkgaaa", sum := "be1d9acce605b6da55e87991a4638c4c2b94c134d6d13be97bd5f5fb42cfc0bd", func := "baldric/baldriclaw01.CalcOrders", spec := "calcOrders", apart := false, narrowed := true }
def CalcOrdersUptoSaid : Prop := calcOrdersUptoRow.holds Try.pinned (OpenSpec.upto calcOrdersSpec)

end Rows
end Go.Proofs.Ytifbodndgjkgaaa
