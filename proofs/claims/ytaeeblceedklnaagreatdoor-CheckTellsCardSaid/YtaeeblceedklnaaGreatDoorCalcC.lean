/- Contracts: Do of the reference; signs. -/
import Derived.Test.YtaeeblceedklnaaGreatDoorCalcB
import Derived.Lib.Hide
namespace Go.Proofs.YtaeeblceedklnaaGreatDoor
open Go.RowKit
/-- The texts of the operations' signs. -/
def signBytes : List (List UInt8) := [[43], [45], [42], [47], [37], [61, 61], [33, 61], [60], [60, 61], [38, 38], [124, 124]]
def signStrs : List ByteArray := signBytes.map fun l => ⟨l.toArray⟩
def signCells : Array Value := (signStrs.map Value.string).toArray
def signOf (op : Int) : ByteArray := if 1 ≤ op ∧ op ≤ 11 then signStrs.getD (op - 1).toNat ⟨#[]⟩ else ⟨#[63]⟩
theorem sign_cell (w : World) (t : TypeId) (op : Int) (h1 : 1 ≤ op) (h2 : op ≤ 11) : (w.alloc (.cells signCells t)).cell? ⟨w.heap.size, op.toNat - 1, none⟩ = some (.string (signOf op)) := by
  have h : signCells[op.toNat - 1]? = some (.string (signOf op)) := by
    have : op = 1 ∨ op = 2 ∨ op = 3 ∨ op = 4 ∨ op = 5 ∨ op = 6 ∨ op = 7 ∨ op = 8 ∨ op = 9 ∨ op = 10 ∨ op = 11 := by omega
    rcases this with h | h | h | h | h | h | h | h | h | h | h <;> subst h <;> rfl
  have hb : (w.alloc (.cells signCells t)).heap[w.heap.size]? = some (.cells signCells t (0, 0)) := heap_alloc_new w _
  rw [cell_of_row _ _ _ _ _ _ hb, h]
theorem str_cell (op : Int) (h1 : 1 ≤ op) (h2 : op ≤ 11) : ([Value.int .i64 4, Value.int .i64 4, Value.int .i64 5, Value.int .i64 5, Value.int .i64 5, Value.int .i64 3, Value.int .i64 3, Value.int .i64 3, Value.int .i64 3, Value.int .i64 2, Value.int .i64 1] : List Value)[op.toNat - 1]? = some (.int .i64 (strI op)) := by
  have : op = 1 ∨ op = 2 ∨ op = 3 ∨ op = 4 ∨ op = 5 ∨ op = 6 ∨ op = 7 ∨ op = 8 ∨ op = 9 ∨ op = 10 ∨ op = 11 := by omega
  rcases this with h | h | h | h | h | h | h | h | h | h | h <;> subst h <;> rfl
end Go.Proofs.YtaeeblceedklnaaGreatDoor
