/- Contract of package token: Word. -/
import Derived.Test.YtaeeblceedklnaaGreatDoorColB
import Derived.Test.YtaeeblceedklnaaGreatDoorShelf
import Derived.Lib.SmallJoins
namespace Go.Proofs.YtaeeblceedklnaaGreatDoor
open Go.RowKit
def wordText : ByteArray := ⟨#[99, 111, 108, 111, 117, 114, 32, 112, 108, 97, 99, 101, 32, 116, 97, 115, 107, 32, 118, 97, 114, 32, 119, 104, 101, 110, 32, 106, 111, 105, 110, 32, 115, 112, 108, 105, 116, 32, 105, 110, 32, 111, 117, 116, 32, 99, 97, 110, 99, 101, 108, 32, 97, 102, 116, 101, 114, 32, 109, 97, 110, 121, 32, 102, 114, 111, 109, 32, 116, 111, 32, 105, 110, 116, 32, 101, 110, 117, 109, 32, 112, 97, 105, 114, 32, 97, 110, 100, 32, 120, 111, 114, 32, 111, 114, 32, 105, 102]⟩
/-- The words that are no names. -/
def wordL : List (List UInt8) := [[99, 111, 108, 111, 117, 114], [112, 108, 97, 99, 101], [116, 97, 115, 107], [118, 97, 114], [119, 104, 101, 110], [106, 111, 105, 110], [115, 112, 108, 105, 116], [105, 110], [111, 117, 116], [99, 97, 110, 99, 101, 108], [97, 102, 116, 101, 114], [109, 97, 110, 121], [102, 114, 111, 109], [116, 111], [105, 110, 116], [101, 110, 117, 109], [112, 97, 105, 114], [97, 110, 100], [120, 111, 114], [111, 114], [105, 102]]
def wordStrs : List ByteArray := wordL.map fun l => ⟨l.toArray⟩
theorem word_fields : Lib.fields wordText.data.toList = wordL := by decide +kernel
def isWord (s : ByteArray) : Bool := Lib.containsS wordStrs s
def TabOk (w : World) : Prop := Lib.TabIs Tryz.prog w "strings.asciiSpace" .u8 Lib.asciiSpaceTab
theorem TabOk.below {w w' : World} (h : TabOk w) (hb : Below w.heap.size w w') : TabOk w' := Joins.tab_stays (P := Tryz.prog) (g := 0) (by kernel_rfl) h hb (Nat.le_refl _)
theorem TabOk.drewN {w : World} (h : TabOk w) (n : Nat) : TabOk (w.drewN n) := h.below (below_drewN' (Below.refl _ _) n)
def wordCells : Array Value := (wordStrs.map Value.string).toArray
set_option maxHeartbeats 400000 in
theorem tok_words (w : World) (ht : Hid (TabOk w)) :
    Calls Tryz.prog 83 #[] w fun e w' => e = .returned (.slice (some ⟨w.heap.size, 0, none⟩) 21 21) ∧ w.alloc (.cells wordCells 9) = w' := by
  have hasc : ∀ (j : Nat) b, wordText.data.toList[j]? = some b → b.toNat < 128 := by
    intro j b hj
    have h : wordText.data.toList.all (fun b => decide (b.toNat < 128)) = true := by decide +kernel
    have := List.all_eq_true.1 h b (List.mem_of_getElem? hj)
    simpa using this
  have hc := Tryz.strings_Fields wordText w (by decide) hasc ht.out
  rw [word_fields] at hc
  have HC := Lib.hid hc
  clear hc
  go_enter Tryz.func83, Tryz.ntmps83
  go_wp2_with fail
  refine HC.out.mono ?_
  rintro e w2 ⟨rfl, rfl⟩
  go_wp2
  go_ret
  exact ⟨rfl, rfl⟩
set_option maxHeartbeats 400000 in
theorem tok_Word (s : ByteArray) (w : World) (ht : Hid (TabOk w)) :
    Calls Tryz.prog 19 #[.string s] w fun e w' => e = .returned (.bool (isWord s)) ∧ Below w.heap.size w w' := by
  have hcells : ∀ j, j < wordStrs.length → (w.alloc (.cells wordCells 9)).cell? ⟨w.heap.size, 0 + j, none⟩ = some (.string (wordStrs.getD j ByteArray.empty)) := by
    intro j hj
    rw [cell_of_row _ _ _ _ _ _ (heap_alloc_new w _)]
    have : wordCells = (wordStrs.map Value.string).toArray := rfl
    rw [this]
    simp [List.getD, List.getElem?_eq_getElem hj]
  have HC := Lib.hid hcells
  clear hcells
  go_enter Tryz.func19, Tryz.ntmps19
  go_wp2_with fail
  refine (tok_words w ht).mono ?_
  rintro e w2 ⟨rfl, rfl⟩
  go_wp2_with fail
  refine (Tryz.slices_Contains_string w.heap.size 0 21 21 wordStrs s _ (by decide) (by decide) HC.out).mono ?_
  rintro e w2 ⟨rfl, rfl⟩
  go_wp2
  go_ret
  exact ⟨rfl, (Below.refl _ _).alloc (Nat.le_refl _) _⟩
end Go.Proofs.YtaeeblceedklnaaGreatDoor
