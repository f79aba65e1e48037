/- Package colour: letter, Name. -/
import Derived.Test.YtaeeblceedklnaaGreatDoorRows
import Derived.Test.YtaeeblceedklnaaGreatDoorSl
import Derived.Test.YtaeeblceedklnaaGreatDoorCalcP
import Derived.WalkLawsBesides
import Derived.Deep.QuietTactic
import Derived.BigQuiet
namespace Go.Proofs.YtaeeblceedklnaaGreatDoor
open Go.RowKit
def isLetter (c : UInt8) : Bool := decide (97 ≤ c.toNat ∧ c.toNat ≤ 122) || decide (65 ≤ c.toNat ∧ c.toNat ≤ 90)
def isDigit (c : UInt8) : Bool := decide (48 ≤ c.toNat ∧ c.toNat ≤ 57)
def isNamed (c : UInt8) : Bool := isLetter c || isDigit c || decide (c.toNat = 95)
theorem toList_data (s : ByteArray) : s.toList = s.data.toList := ByteArray.toList_eq s
/-- Is a text a name? -/
def nameOk (l : List UInt8) : Bool := decide (l ≠ []) && decide (l.length ≤ 32) && isLetter (l.getD 0 0) && l.all isNamed
set_option maxHeartbeats 400000 in
theorem col_letter (c : UInt8) (w : World) :
    Calls Tryz.prog 81 #[.int .u8 c.toNat] w fun e w' => e = .returned (.bool (isLetter c)) ∧ w = w' := by
  go_enter Tryz.func81, Tryz.ntmps81
  go_wp2
  all_goals
    go_ret
    exact ⟨ret1b (by rw [Bool.eq_iff_iff]; simp_all [isLetter]; try omega), rfl⟩
set_option maxHeartbeats 1000000 in
theorem col_Name (s : ByteArray) (w : World) (hs : s.size ≤ 9223372036854775805) :
    Calls Tryz.prog 18 #[.string s] w fun e w' => e = .returned (.bool (nameOk s.data.toList)) ∧ w = w' := by
  have hl := Lib.hid (show s.data.toList.length = s.size by simp)
  rcases he : s.toList.isEmpty with _ | _
  · have h0 : 0 < s.size := by
      have h1 : s.data.toList ≠ [] := by rw [← toList_data]; intro h; rw [h] at he; cases he
      rw [← hl.out]; exact List.length_pos_iff.2 h1
    have h00 : (0 : Int) < (s.size : Int) := by omega
    by_cases h32 : (32 : Int) < (s.size : Int)
    · have e1 : nameOk s.data.toList = false := by
        have : ¬ s.data.toList.length ≤ 32 := by rw [hl.out]; omega
        simp [nameOk]; omega
      rw [e1]
      go_enter Tryz.func18, Tryz.ntmps18
      go_wp2
      go_ret
      exact ⟨rfl, rfl⟩
    · rcases hL : isLetter s[0] with _ | _
      · go_enter Tryz.func18, Tryz.ntmps18
        go_wp2_with (go_at_call 81; refine (col_letter _ _).mono ?_; rintro e w' ⟨rfl, rfl⟩)
        go_ret
        have e1 : nameOk s.data.toList = false := by
          have : s.data.toList.getD 0 0 = s[0] := by
            have h1 : 0 < s.data.toList.length := by rw [hl.out]; exact h0
            rw [List.getD, List.getElem?_eq_getElem h1]; rfl
          unfold nameOk
          rw [this, hL]; simp
        rw [e1]
        exact ⟨rfl, rfl⟩
      · go_enter Tryz.func18, Tryz.ntmps18
        go_wp2_with (go_at_call 81; refine (col_letter _ _).mono ?_; rintro e w' ⟨rfl, rfl⟩)
        go_loop [20] (fun i => ∃ k : Nat, k ≤ s.size ∧ i = .int .i64 k ∧ Hid (∀ j, j < k → isNamed (s.data.toList.getD j 0) = true)) (fun i => s.size - (intOf i).toNat)
        case atStart => exact ⟨0, by omega, rfl, fun j hj => by omega⟩
        case round =>
          obtain ⟨k, hk, rfl, hno⟩ := hrel
          by_cases hlt : k < s.size
          · have hlt2 : (k : Int) < (s.size : Int) := by omega
            have hc : s[k] = s.data.toList.getD k 0 := by
              have h1 : k < s.data.toList.length := by rw [hl.out]; exact hlt
              rw [List.getD, List.getElem?_eq_getElem h1]; rfl
            obtain ⟨c, hcc⟩ : ∃ c, s[k] = c := ⟨_, rfl⟩
            have HC := Lib.hid (hcc.symm.trans hc)
            clear hc
            have hN : isNamed c = true → (∃ q : Nat, q ≤ s.size ∧ Value.int .i64 ((k : Int) + 1) = .int .i64 q ∧ Hid (∀ j, j < q → isNamed (s.data.toList.getD j 0) = true)) ∧ s.size - (intOf (.int .i64 ((k : Int) + 1))).toNat < s.size - (intOf (.int .i64 (k : Int))).toNat := by
              intro h
              refine ⟨⟨k + 1, by omega, rfl, Lib.hid fun j hj => ?_⟩, by simp only [intOf]; omega⟩
              by_cases hjk : j = k
              · rw [hjk, ← HC.out]; exact h
              · exact hno.out j (by omega)
            have hB : isNamed c = false → nameOk s.data.toList = false := by
              intro h
              have h1 : k < s.data.toList.length := by rw [hl.out]; exact hlt
              have h2 : s.data.toList.all isNamed = false := by
                rw [List.all_eq_false]
                refine ⟨s.data.toList[k], List.getElem_mem h1, ?_⟩
                have h3 := HC.out
                rw [List.getD, List.getElem?_eq_getElem h1] at h3
                have h4 : c = s.data.toList[k] := h3
                rw [← h4, h]; simp
              unfold nameOk
              rw [h2, Bool.and_false]
            have HN := Lib.hid hN
            have HBB := Lib.hid hB
            clear hN hB
            go_wp2_with (go_at_call 81; refine (col_letter _ _).mono ?_; rintro e w' ⟨rfl, rfl⟩)
            go_goals
            go_ways
            all_goals first
              | (refine HN.out ?_; clear hcc; simp_all [isNamed, isDigit]; done)
              | (refine HN.out ?_; clear hcc; simp_all [isNamed, isDigit]; omega)
              | (go_ret; refine ⟨ret1b (Eq.symm (HBB.out ?_)), rfl⟩; clear hcc; simp_all [isNamed, isDigit]; done)
              | (go_ret; refine ⟨ret1b (Eq.symm (HBB.out ?_)), rfl⟩; clear hcc; simp_all [isNamed, isDigit]; omega)
          · go_wp2
            go_ret
            have e1 : nameOk s.data.toList = true := by
              have h1 : 0 < s.data.toList.length := by rw [hl.out]; exact h0
              have h2 : s.data.toList.getD 0 0 = s[0] := by
                rw [List.getD, List.getElem?_eq_getElem h1]; rfl
              have h3 : s.data.toList.all isNamed = true := by
                rw [List.all_eq_true]
                intro b hb
                obtain ⟨j, hj, rfl⟩ := List.mem_iff_getElem.1 hb
                have h4 := hno.out j (by rw [hl.out] at hj; omega)
                rw [List.getD, List.getElem?_eq_getElem hj] at h4
                exact h4
              unfold nameOk
              rw [h2, h3, hL]
              have h5 : s.data.toList ≠ [] := List.length_pos_iff.1 h1
              have h6 : s.data.toList.length ≤ 32 := by rw [hl.out]; omega
              rw [decide_eq_true h5, decide_eq_true h6]
              rfl
            rw [e1]
            exact ⟨rfl, rfl⟩
  · have e1 : nameOk s.data.toList = false := by
      have : s.data.toList = [] := by rw [← toList_data]; simpa using he
      rw [this]; rfl
    rw [e1]
    go_enter Tryz.func18, Tryz.ntmps18
    go_wp2
    go_ret
    exact ⟨rfl, rfl⟩
end Go.Proofs.YtaeeblceedklnaaGreatDoor
