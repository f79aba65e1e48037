/-
  No cell of these rows narrows 'for every input' (looked for: loops, veiled, ifaces, maps, wideKeys, modest, calm, conditions, laid).
  DERIVED. THE GIVEN ROWS OF THIS SEAT. 6 by the template 'for every input the law returns true; each argument reads behind the call as it read before'; 0 by the template 'total and deterministic' (their statements: YtfnolejghioodaaTotals.lean).
  GIVEN WITH THE SEED: the statements are not yours to turn. If you find one false, say at which input.
  Laid BY PROGRAM, IN A SANDBOX (cutbox-rows.mjs): the forced cells as the released guide's own fill.sh prints them over the translation 0cacd4e34679fcca… (all of the seat's roots in one cut). By AI agents, Wed Nov 11 2026. No macro, syntax, notation, axiom, sorry.
-/
import Derived.Test.YtfnolejghioodaaChecked
import GoSem.Claim
import GoSem.ClaimJoined
import GoSem.ClaimMapViews
import Derived.JoinedTies
import Derived.KernelRfl
namespace Go.Proofs.Ytfnolejghioodaa
/- THE CELL 'sum', in the pinned program and in every row, IS THE sha256 OF THE DUMP (.gsa) THAT YtfnolejghioodaaProg.lean LOADS. Nothing in Lean hashes anything: it is a label: what it is worth is what the hold of that sum in a sandbox is worth. -/
noncomputable def Try.pinned : Pinned := { name := "ytfnolejghioodaa", sum := "0cacd4e34679fcca16bf6a0d7c9196a88375b23fd986fc406832f0c98faf302e", checked := Try.checked }
namespace Rows
def none {H : Type} : Left H := { results := [], args := [] }

/-- 'baldriclaw03.BagTells': WHATEVER THE INPUT: true; the input reads as it did. -/
def bagTellsSpec : ChangeSpec := { name := "bagTells", fn := fun _ => fun
  | [d1, d2, d3, d4] => { results := [.lit (.bool true)], args := [d1, d2, d3, d4] }
  | _ => none }
def bagTellsRow : OpenClaim := { program := "ytfnolejghioodaa", sum := "0cacd4e34679fcca16bf6a0d7c9196a88375b23fd986fc406832f0c98faf302e", func := "baldric/baldriclaw03.BagTells", spec := "bagTells", unfollowed := true, recurses := true, apart := false }
def BagTellsSaid : Prop := bagTellsRow.holds Try.pinned (OpenSpec.ofChange bagTellsSpec)

/-- ITS FALSE NEIGHBOUR: 'it returns false'. Refute it at one input. -/
def bagTellsWrong : ChangeSpec := { name := "bagTells", fn := fun _ => fun
  | [d1, d2, d3, d4] => { results := [.lit (.bool false)], args := [d1, d2, d3, d4] }
  | _ => none }
def BagTellsWrongFalsely : Prop := bagTellsRow.holds Try.pinned (OpenSpec.ofChange bagTellsWrong)

/-- 'baldriclaw03.BagReckons': WHATEVER THE INPUT: true; the input reads as it did. -/
def bagReckonsSpec : ChangeSpec := { name := "bagReckons", fn := fun _ => fun
  | [d1, d2] => { results := [.lit (.bool true)], args := [d1, d2] }
  | _ => none }
def bagReckonsRow : OpenClaim := { program := "ytfnolejghioodaa", sum := "0cacd4e34679fcca16bf6a0d7c9196a88375b23fd986fc406832f0c98faf302e", func := "baldric/baldriclaw03.BagReckons", spec := "bagReckons", unfollowed := true, recurses := true, apart := false }
def BagReckonsSaid : Prop := bagReckonsRow.holds Try.pinned (OpenSpec.ofChange bagReckonsSpec)

/-- ITS FALSE NEIGHBOUR: 'it returns false'. Refute it at one input. -/
def bagReckonsWrong : ChangeSpec := { name := "bagReckons", fn := fun _ => fun
  | [d1, d2] => { results := [.lit (.bool false)], args := [d1, d2] }
  | _ => none }
def BagReckonsWrongFalsely : Prop := bagReckonsRow.holds Try.pinned (OpenSpec.ofChange bagReckonsWrong)

/-- 'baldriclaw03.BagBack': WHATEVER THE INPUT: true; the input reads as it did. -/
def bagBackSpec : ChangeSpec := { name := "bagBack", fn := fun _ => fun
  | [d1, d2] => { results := [.lit (.bool true)], args := [d1, d2] }
  | _ => none }
def bagBackRow : OpenClaim := { program := "ytfnolejghioodaa", sum := "0cacd4e34679fcca16bf6a0d7c9196a88375b23fd986fc406832f0c98faf302e", func := "baldric/baldriclaw03.BagBack", spec := "bagBack", unfollowed := true, recurses := true, apart := false }
def BagBackSaid : Prop := bagBackRow.holds Try.pinned (OpenSpec.ofChange bagBackSpec)

/-- ITS FALSE NEIGHBOUR: 'it returns false'. Refute it at one input. -/
def bagBackWrong : ChangeSpec := { name := "bagBack", fn := fun _ => fun
  | [d1, d2] => { results := [.lit (.bool false)], args := [d1, d2] }
  | _ => none }
def BagBackWrongFalsely : Prop := bagBackRow.holds Try.pinned (OpenSpec.ofChange bagBackWrong)

/-- 'baldriclaw03.BagOrders': WHATEVER THE INPUT: true; the input reads as it did. -/
def bagOrdersSpec : ChangeSpec := { name := "bagOrders", fn := fun _ => fun
  | [d1, d2, d3] => { results := [.lit (.bool true)], args := [d1, d2, d3] }
  | _ => none }
def bagOrdersRow : OpenClaim := { program := "ytfnolejghioodaa", sum := "0cacd4e34679fcca16bf6a0d7c9196a88375b23fd986fc406832f0c98faf302e", func := "baldric/baldriclaw03.BagOrders", spec := "bagOrders", unfollowed := true, recurses := true, apart := false }
def BagOrdersSaid : Prop := bagOrdersRow.holds Try.pinned (OpenSpec.ofChange bagOrdersSpec)

/-- ITS FALSE NEIGHBOUR: 'it returns false'. Refute it at one input. -/
def bagOrdersWrong : ChangeSpec := { name := "bagOrders", fn := fun _ => fun
  | [d1, d2, d3] => { results := [.lit (.bool false)], args := [d1, d2, d3] }
  | _ => none }
def BagOrdersWrongFalsely : Prop := bagOrdersRow.holds Try.pinned (OpenSpec.ofChange bagOrdersWrong)

/-- 'baldriclaw03.BagMost': WHATEVER THE INPUT: true; the input reads as it did. -/
def bagMostSpec : ChangeSpec := { name := "bagMost", fn := fun _ => fun
  | [d1, d2, d3] => { results := [.lit (.bool true)], args := [d1, d2, d3] }
  | _ => none }
def bagMostRow : OpenClaim := { program := "ytfnolejghioodaa", sum := "0cacd4e34679fcca16bf6a0d7c9196a88375b23fd986fc406832f0c98faf302e", func := "baldric/baldriclaw03.BagMost", spec := "bagMost", unfollowed := true, recurses := true, apart := false }
def BagMostSaid : Prop := bagMostRow.holds Try.pinned (OpenSpec.ofChange bagMostSpec)

/-- ITS FALSE NEIGHBOUR: 'it returns false'. Refute it at one input. -/
def bagMostWrong : ChangeSpec := { name := "bagMost", fn := fun _ => fun
  | [d1, d2, d3] => { results := [.lit (.bool false)], args := [d1, d2, d3] }
  | _ => none }
def BagMostWrongFalsely : Prop := bagMostRow.holds Try.pinned (OpenSpec.ofChange bagMostWrong)

/-- 'baldriclaw03.BagLists': WHATEVER THE INPUT: true; the input reads as it did. -/
def bagListsSpec : ChangeSpec := { name := "bagLists", fn := fun _ => fun
  | [d1, d2] => { results := [.lit (.bool true)], args := [d1, d2] }
  | _ => none }
def bagListsRow : OpenClaim := { program := "ytfnolejghioodaa", sum := "0cacd4e34679fcca16bf6a0d7c9196a88375b23fd986fc406832f0c98faf302e", func := "baldric/baldriclaw03.BagLists", spec := "bagLists", unfollowed := true, recurses := true, apart := false }
def BagListsSaid : Prop := bagListsRow.holds Try.pinned (OpenSpec.ofChange bagListsSpec)

/-- ITS FALSE NEIGHBOUR: 'it returns false'. Refute it at one input. -/
def bagListsWrong : ChangeSpec := { name := "bagLists", fn := fun _ => fun
  | [d1, d2] => { results := [.lit (.bool false)], args := [d1, d2] }
  | _ => none }
def BagListsWrongFalsely : Prop := bagListsRow.holds Try.pinned (OpenSpec.ofChange bagListsWrong)

/- THE SECOND FORM. 'bulk': how many values and letters a reading holds, each counted each time it is reached (what is shared counts as often as it is met; a slice's spare places count too). A statement '..UptoSaid' is the law's where the arguments, and the package variables that the reading takes, are together of bulk at most 1048576: NARROWER than '..Said'. Prove '..Said' where nothing that the law and all that it calls make is longer than what came in: it says more and counts as full. Else prove '..UptoSaid'. A law counts once. -/
mutual
def uptoBulk {H : Type} : DataW H → Nat
  | .lit (.string bytes) => bytes.length + 1
  | .lit _ => 1
  | .nil => 1
  | .ptr d => uptoBulk d + 1
  | .slice elems spare => uptoBulkAll elems + uptoBulkAll spare + 1
  | .agg parts => uptoBulkAll parts + 1
  | .iface _ d => uptoBulk d + 1
  | .map entries => uptoBulkEntries entries + 1
  | .held _ => 1
def uptoBulkAll {H : Type} : List (DataW H) → Nat
  | [] => 0
  | d :: r => uptoBulk d + uptoBulkAll r
def uptoBulkEntries {H : Type} : List (Lit × DataW H) → Nat
  | [] => 0
  | x :: r => uptoBulkEntry x + uptoBulkEntries r
def uptoBulkEntry {H : Type} : Lit × DataW H → Nat
  | (.string bytes, d) => bytes.length + uptoBulk d + 1
  | (_, d) => uptoBulk d + 1
 end
def uptoSmall : (H : Type) → List (DataW H) → Bool := fun _ ds => decide (uptoBulkAll ds ≤ 1048576)
def OpenSpec.upto (s : _root_.Go.ChangeSpec) : _root_.Go.OpenSpec := { _root_.Go.OpenSpec.ofChange s with cond := some uptoSmall }

/-- 'baldriclaw03.BagTells', WHERE WHAT IT READS IS OF BULK AT MOST 1048576: true; the input reads as it did. -/
def bagTellsUptoRow : OpenClaim := { program := "ytfnolejghioodaa", sum := "0cacd4e34679fcca16bf6a0d7c9196a88375b23fd986fc406832f0c98faf302e", func := "baldric/baldriclaw03.BagTells", spec := "bagTells", unfollowed := true, recurses := true, apart := false, narrowed := true }
def BagTellsUptoSaid : Prop := bagTellsUptoRow.holds Try.pinned (OpenSpec.upto bagTellsSpec)

/-- 'baldriclaw03.BagReckons', WHERE WHAT IT READS IS OF BULK AT MOST 1048576: true; the input reads as it did. -/
def bagReckonsUptoRow : OpenClaim := { program := "ytfnolejghioodaa", sum := "0cacd4e34679fcca16bf6a0d7c9196a88375b23fd986fc406832f0c98faf302e", func := "baldric/baldriclaw03.BagReckons", spec := "bagReckons", unfollowed := true, recurses := true, apart := false, narrowed := true }
def BagReckonsUptoSaid : Prop := bagReckonsUptoRow.holds Try.pinned (OpenSpec.upto bagReckonsSpec)

/-- 'baldriclaw03.BagBack', WHERE WHAT IT READS IS OF BULK AT MOST 1048576: true; the input reads as it did. -/
def bagBackUptoRow : OpenClaim := { program := "ytfnolejghioodaa", sum := "0cacd4e34679fcca16bf6a0d7c9196a88375b23fd986fc406832f0c98faf302e", func := "baldric/baldriclaw03.BagBack", spec := "bagBack", unfollowed := true, recurses := true, apart := false, narrowed := true }
def BagBackUptoSaid : Prop := bagBackUptoRow.holds Try.pinned (OpenSpec.upto bagBackSpec)

/-- 'baldriclaw03.BagOrders', WHERE WHAT IT READS IS OF BULK AT MOST 1048576: true; the input reads as it did. -/
def bagOrdersUptoRow : OpenClaim := { program := "ytfnolejghioodaa", sum := "0cacd4e34679fcca16bf6a0d7c9196a88375b23fd986fc406832f0c98faf302e", func := "baldric/baldriclaw03.BagOrders", spec := "bagOrders", unfollowed := true, recurses := true, apart := false, narrowed := true }
def BagOrdersUptoSaid : Prop := bagOrdersUptoRow.holds Try.pinned (OpenSpec.upto bagOrdersSpec)

/-- 'baldriclaw03.BagMost', WHERE WHAT IT READS IS OF BULK AT MOST 1048576: true; the input reads as it did. -/
def bagMostUptoRow : OpenClaim := { program := "ytfnolejghioodaa", sum := "0cacd4e34679fcca16bf6a0d7c9196a88375b23fd986fc406832f0c98faf302e", func := "baldric/baldriclaw03.BagMost", spec := "bagMost", unfollowed := true, recurses := true, apart := false, narrowed := true }
def BagMostUptoSaid : Prop := bagMostUptoRow.holds Try.pinned (OpenSpec.upto bagMostSpec)

/-- 'baldriclaw03.BagLists', WHERE WHAT IT READS IS OF BULK AT MOST 1048576: true; the input reads as it did. -/
def bagListsUptoRow : OpenClaim := { program := "ytfnolejghioodaa", sum := "0cacd4e34679fcca16bf6a0d7c9196a88375b23fd986fc406832f0c98faf302e", func := "baldric/baldriclaw03.BagLists", spec := "bagLists", unfollowed := true, recurses := true, apart := false, narrowed := true }
def BagListsUptoSaid : Prop := bagListsUptoRow.holds Try.pinned (OpenSpec.upto bagListsSpec)

end Rows
end Go.Proofs.Ytfnolejghioodaa
