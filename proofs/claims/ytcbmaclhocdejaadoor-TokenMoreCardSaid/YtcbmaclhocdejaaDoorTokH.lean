/- Contracts of package token: Word, Join; of package colour: Name. -/
import Derived.Test.YtcbmaclhocdejaaDoorTokG
import Derived.Lib.SmallJoins
namespace Go.Proofs.YtcbmaclhocdejaaDoor
open Go.RowKit
def wordText : ByteArray := ⟨#[99, 111, 108, 111, 117, 114, 32, 112, 108, 97, 99, 101, 32, 116, 97, 115, 107, 32, 118, 97, 114, 32, 119, 104, 101, 110, 32, 106, 111, 105, 110, 32, 115, 112, 108, 105, 116, 32, 105, 110, 32, 111, 117, 116, 32, 99, 97, 110, 99, 101, 108, 32, 97, 102, 116, 101, 114, 32, 109, 97, 110, 121, 32, 102, 114, 111, 109, 32, 116, 111, 32, 105, 110, 116, 32, 101, 110, 117, 109, 32, 112, 97, 105, 114, 32, 97, 110, 100, 32, 120, 111, 114, 32, 111, 114, 32, 105, 102]⟩
/-- The words that are no names. -/
def wordL : List (List UInt8) := [[99, 111, 108, 111, 117, 114], [112, 108, 97, 99, 101], [116, 97, 115, 107], [118, 97, 114], [119, 104, 101, 110], [106, 111, 105, 110], [115, 112, 108, 105, 116], [105, 110], [111, 117, 116], [99, 97, 110, 99, 101, 108], [97, 102, 116, 101, 114], [109, 97, 110, 121], [102, 114, 111, 109], [116, 111], [105, 110, 116], [101, 110, 117, 109], [112, 97, 105, 114], [97, 110, 100], [120, 111, 114], [111, 114], [105, 102]]
def wordStrs : List ByteArray := wordL.map fun l => ⟨l.toArray⟩
theorem word_fields : Lib.fields wordText.data.toList = wordL := by decide +kernel
def isWord (s : ByteArray) : Bool := Lib.containsS wordStrs s
def TabOk (w : World) : Prop := Lib.TabIs Tryd.prog w "strings.asciiSpace" .u8 Lib.asciiSpaceTab
theorem TabOk.below {w w' : World} (h : TabOk w) (hb : Below w.heap.size w w') : TabOk w' := Joins.tab_stays (P := Tryd.prog) (g := 0) (by kernel_rfl) h hb (Nat.le_refl _)
theorem TabOk.drewN {w : World} (h : TabOk w) (n : Nat) : TabOk (w.drewN n) := h.below (below_drewN' (Below.refl _ _) n)
def wordCells : Array Value := (wordStrs.map Value.string).toArray
set_option maxHeartbeats 400000 in
theorem tok_words (w : World) (ht : Hid (TabOk w)) :
    Calls Tryd.prog 20 #[] w fun e w' => e = .returned (.slice (some ⟨w.heap.size, 0, none⟩) 21 21) ∧ w.alloc (.cells wordCells 9) = w' := by
  have hasc : ∀ (j : Nat) b, wordText.data.toList[j]? = some b → b.toNat < 128 := by
    intro j b hj
    have h : wordText.data.toList.all (fun b => decide (b.toNat < 128)) = true := by decide +kernel
    have := List.all_eq_true.1 h b (List.mem_of_getElem? hj)
    simpa using this
  have hc := Tryd.strings_Fields wordText w (by decide) hasc ht.out
  rw [word_fields] at hc
  have HC := Lib.hid hc
  clear hc
  go_enter Tryd.func20, Tryd.ntmps20
  go_wp2_with fail
  refine HC.out.mono ?_
  rintro e w2 ⟨rfl, rfl⟩
  go_wp2
  go_ret
  exact ⟨rfl, rfl⟩
set_option maxHeartbeats 400000 in
theorem tok_Word (s : ByteArray) (w : World) (ht : Hid (TabOk w)) :
    Calls Tryd.prog 12 #[.string s] w fun e w' => e = .returned (.bool (isWord s)) ∧ Below w.heap.size w w' := by
  have hcells : ∀ j, j < wordStrs.length → (w.alloc (.cells wordCells 9)).cell? ⟨w.heap.size, 0 + j, none⟩ = some (.string (wordStrs.getD j ByteArray.empty)) := by
    intro j hj
    rw [cell_of_row _ _ _ _ _ _ (heap_alloc_new w _)]
    have : wordCells = (wordStrs.map Value.string).toArray := rfl
    rw [this]
    simp [List.getD, List.getElem?_eq_getElem hj]
  have HC := Lib.hid hcells
  clear hcells
  go_enter Tryd.func12, Tryd.ntmps12
  go_wp2_with fail
  refine (tok_words w ht).mono ?_
  rintro e w2 ⟨rfl, rfl⟩
  go_wp2_with fail
  refine (Tryd.slices_Contains_string w.heap.size 0 21 21 wordStrs s _ (by decide) (by decide) HC.out).mono ?_
  rintro e w2 ⟨rfl, rfl⟩
  go_wp2
  go_ret
  exact ⟨rfl, (Below.refl _ _).alloc (Nat.le_refl _) _⟩
/-- Is a text a name? -/
def nameOk (l : List UInt8) : Bool := decide (l ≠ []) && decide (l.length ≤ 32) && isLetter (l.getD 0 0) && l.all isNamed
set_option maxHeartbeats 400000 in
theorem col_letter (c : UInt8) (w : World) :
    Calls Tryd.prog 18 #[.int .u8 c.toNat] w fun e w' => e = .returned (.bool (isLetter c)) ∧ w = w' := by
  go_enter Tryd.func18, Tryd.ntmps18
  go_wp2
  all_goals
    go_ret
    exact ⟨ret1b (by rw [Bool.eq_iff_iff]; simp_all [isLetter]; try omega), rfl⟩
set_option maxHeartbeats 1000000 in
theorem col_Name (s : ByteArray) (w : World) (hs : s.size ≤ 9223372036854775805) :
    Calls Tryd.prog 11 #[.string s] w fun e w' => e = .returned (.bool (nameOk s.data.toList)) ∧ w = w' := by
  have hl := Lib.hid (show s.data.toList.length = s.size by simp)
  rcases he : s.toList.isEmpty with _ | _
  · have h0 : 0 < s.size := by
      have h1 : s.data.toList ≠ [] := by rw [← toList_data]; intro h; rw [h] at he; cases he
      rw [← hl.out]; exact List.length_pos_iff.2 h1
    have h00 : (0 : Int) < (s.size : Int) := by omega
    by_cases h32 : (32 : Int) < (s.size : Int)
    · have e1 : nameOk s.data.toList = false := by
        have : ¬ s.data.toList.length ≤ 32 := by rw [hl.out]; omega
        simp [nameOk]; omega
      rw [e1]
      go_enter Tryd.func11, Tryd.ntmps11
      go_wp2
      go_ret
      exact ⟨rfl, rfl⟩
    · rcases hL : isLetter s[0] with _ | _
      · go_enter Tryd.func11, Tryd.ntmps11
        go_wp2_with (go_at_call 18; refine (col_letter _ _).mono ?_; rintro e w' ⟨rfl, rfl⟩)
        go_ret
        have e1 : nameOk s.data.toList = false := by
          have : s.data.toList.getD 0 0 = s[0] := by
            have h1 : 0 < s.data.toList.length := by rw [hl.out]; exact h0
            rw [List.getD, List.getElem?_eq_getElem h1]; rfl
          unfold nameOk
          rw [this, hL]; simp
        rw [e1]
        exact ⟨rfl, rfl⟩
      · go_enter Tryd.func11, Tryd.ntmps11
        go_wp2_with (go_at_call 18; refine (col_letter _ _).mono ?_; rintro e w' ⟨rfl, rfl⟩)
        go_loop [20] (fun i => ∃ k : Nat, k ≤ s.size ∧ i = .int .i64 k ∧ Hid (∀ j, j < k → isNamed (s.data.toList.getD j 0) = true)) (fun i => s.size - (intOf i).toNat)
        case atStart => exact ⟨0, by omega, rfl, fun j hj => by omega⟩
        case round =>
          obtain ⟨k, hk, rfl, hno⟩ := hrel
          by_cases hlt : k < s.size
          · have hlt2 : (k : Int) < (s.size : Int) := by omega
            have hc : s[k] = s.data.toList.getD k 0 := by
              have h1 : k < s.data.toList.length := by rw [hl.out]; exact hlt
              rw [List.getD, List.getElem?_eq_getElem h1]; rfl
            obtain ⟨c, hcc⟩ : ∃ c, s[k] = c := ⟨_, rfl⟩
            have HC := Lib.hid (hcc.symm.trans hc)
            clear hc
            have hN : isNamed c = true → (∃ q : Nat, q ≤ s.size ∧ Value.int .i64 ((k : Int) + 1) = .int .i64 q ∧ Hid (∀ j, j < q → isNamed (s.data.toList.getD j 0) = true)) ∧ s.size - (intOf (.int .i64 ((k : Int) + 1))).toNat < s.size - (intOf (.int .i64 (k : Int))).toNat := by
              intro h
              refine ⟨⟨k + 1, by omega, rfl, Lib.hid fun j hj => ?_⟩, by simp only [intOf]; omega⟩
              by_cases hjk : j = k
              · rw [hjk, ← HC.out]; exact h
              · exact hno.out j (by omega)
            have hB : isNamed c = false → nameOk s.data.toList = false := by
              intro h
              have h1 : k < s.data.toList.length := by rw [hl.out]; exact hlt
              have h2 : s.data.toList.all isNamed = false := by
                rw [List.all_eq_false]
                refine ⟨s.data.toList[k], List.getElem_mem h1, ?_⟩
                have h3 := HC.out
                rw [List.getD, List.getElem?_eq_getElem h1] at h3
                have h4 : c = s.data.toList[k] := h3
                rw [← h4, h]; simp
              unfold nameOk
              rw [h2, Bool.and_false]
            have HN := Lib.hid hN
            have HBB := Lib.hid hB
            clear hN hB
            go_wp2_with (go_at_call 18; refine (col_letter _ _).mono ?_; rintro e w' ⟨rfl, rfl⟩)
            go_goals
            go_ways
            all_goals first
              | (refine HN.out ?_; clear hcc; simp_all [isNamed, isDigit]; done)
              | (refine HN.out ?_; clear hcc; simp_all [isNamed, isDigit]; omega)
              | (go_ret; refine ⟨ret1b (Eq.symm (HBB.out ?_)), rfl⟩; clear hcc; simp_all [isNamed, isDigit]; done)
              | (go_ret; refine ⟨ret1b (Eq.symm (HBB.out ?_)), rfl⟩; clear hcc; simp_all [isNamed, isDigit]; omega)
              | (trace_state; sorry)
          · go_wp2
            go_ret
            have e1 : nameOk s.data.toList = true := by
              have h1 : 0 < s.data.toList.length := by rw [hl.out]; exact h0
              have h2 : s.data.toList.getD 0 0 = s[0] := by
                rw [List.getD, List.getElem?_eq_getElem h1]; rfl
              have h3 : s.data.toList.all isNamed = true := by
                rw [List.all_eq_true]
                intro b hb
                obtain ⟨j, hj, rfl⟩ := List.mem_iff_getElem.1 hb
                have h4 := hno.out j (by rw [hl.out] at hj; omega)
                rw [List.getD, List.getElem?_eq_getElem hj] at h4
                exact h4
              unfold nameOk
              rw [h2, h3, hL]
              have h5 : s.data.toList ≠ [] := List.length_pos_iff.1 h1
              have h6 : s.data.toList.length ≤ 32 := by rw [hl.out]; omega
              rw [decide_eq_true h5, decide_eq_true h6]
              rfl
            rw [e1]
            exact ⟨rfl, rfl⟩
  · have e1 : nameOk s.data.toList = false := by
      have : s.data.toList = [] := by rw [← toList_data]; simpa using he
      rw [this]; rfl
    rw [e1]
    go_enter Tryd.func11, Tryd.ntmps11
    go_wp2
    go_ret
    exact ⟨rfl, rfl⟩
end Go.Proofs.YtcbmaclhocdejaaDoor
