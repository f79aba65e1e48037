/- Contracts of package token: Number. -/
import Derived.Test.YtcbmaclhocdejaaDoorTokA
import Derived.Test.YtcbmaclhocdejaaDoorTokP2
namespace Go.Proofs.YtcbmaclhocdejaaDoor
open Go.RowKit
set_option maxHeartbeats 1000000 in
theorem tok_Number_bad (s : ByteArray) (w : World) (hs : s.size ≤ 9223372036854775807) (h : s.data.toList = [] ∨ (1 < s.size ∧ s.data.toList.head? = some 48) ∨ allDigits s.data.toList = false) :
    Calls Tryd.prog 10 #[.string s] w fun e w' => e = .returned (.tuple #[.int .i64 0, .bool false]) ∧ w = w' := by
  go_enter Tryd.func10, Tryd.ntmps10
  go_wp2_with (go_at_call 16; refine (tok_run_digit s 0 _ hs (by omega)).mono ?_; rintro e w' ⟨rfl, rfl⟩)
  all_goals first
    | (go_ret2; exact ⟨rfl, rfl⟩)
    | (exfalso
       have h1 := ‹¬ s.toList = []›
       refine num_bad_absurd h h1 ?_ ?_
       · first | exact ‹_ ∧ ¬ runL isDigit s.data.toList 0 < s.size›.2
       · first
           | (exact .inr ⟨_, ‹¬ (_ : Int) = 48›⟩)
           | (left; omega))
set_option maxHeartbeats 1000000 in
theorem tok_Number_ok (s : ByteArray) (w : World) (hs : s.size ≤ 9223372036854775807) (h1 : 0 < s.size) (h2 : 1 < s.size → ((s[0].toNat : Int) == 48) = false) (h3 : allDigits s.data.toList = true)
    (hf : Hid (numForm s.data.toList)) :
    Calls Tryd.prog 10 #[.string s] w fun e w' => e = .returned (.tuple #[.int .i64 (numV s.data.toList), .bool (numOk s.data.toList)]) ∧ w = w' := by
  have hsz := Lib.hid (show s.data.toList.length = s.size by simp)
  have hr : runL isDigit s.data.toList 0 = s.size := by rw [← hsz.out]; exact runL_all.2 h3
  have hne : s.toList.isEmpty = false := by
    rw [toList_data]
    cases hl : s.data.toList with
    | nil => have := hsz.out; rw [hl] at this; simp at this; omega
    | cons c r => rfl
  have H3 := Lib.hid h3
  clear h3
  by_cases hlt : 1 < s.size
  all_goals
    try have h4 := h2 hlt
    try have h5 : (1 : Int) < (s.size : Int) := by omega
    clear h2
    go_enter Tryd.func10, Tryd.ntmps10
    go_wp2_with (go_at_call 16; refine (tok_run_digit s 0 _ hs (by omega)).mono ?_; rintro e w' ⟨rfl, rfl⟩)
    clear hr hne
    go_loop [4, 28] (fun n i => ∃ (k : Nat) (v : Int), k ≤ s.size ∧ i = .int .i64 k ∧ n = .int .i64 v ∧ 0 ≤ v ∧ v ≤ 9223372036854775807 ∧ Hid (numF v (s.data.toList.drop k) = numF 0 s.data.toList)) (fun _ i => s.size - (intOf i).toNat)
    case atStart => exact ⟨0, 0, by omega, rfl, rfl, by omega, by omega, rfl⟩
    case round =>
      obtain ⟨k, v, hk, rfl, rfl, hv0, hv1, hn⟩ := hrel
      by_cases hkl : k < s.size
      · have hkl2 : k < s.data.toList.length := by rw [hsz.out]; exact hkl
        have hd : 48 ≤ s[k].toNat ∧ s[k].toNat ≤ 57 := digits_at H3.out hkl2
        have hd1 : (48 : Int) ≤ (s[k].toNat : Int) := by omega
        have hd2 : (s[k].toNat : Int) ≤ 57 := by omega
        have hst : numF v (s.data.toList.drop k) = numF (v * 10 + ((s[k].toNat : Int) - 48)) (s.data.toList.drop (k + 1)) := by
          rw [List.drop_eq_getElem_cons hkl2]; rfl
        have HST := Lib.hid (hst.symm.trans hn.out)
        have HGE := Lib.hid (numF_ge _ (digits_drop H3.out (k + 1)) (v * 10 + ((s[k].toNat : Int) - 48)) (by omega))
        clear hst hd
        go_wp2
        · go_ret2
          have hx := ‹(9223372036854775807 - ((s[k].toNat : Int) - 48)) / 10 < v›
          have hy : ¬ numF 0 s.data.toList ≤ 9223372036854775807 := by
            have h6 := HGE.out
            rw [HST.out] at h6
            omega
          obtain ⟨e1, e2⟩ := num_no (l := s.data.toList) (fun h => hy h.2)
          exact ⟨ret2b e1.symm e2.symm, rfl⟩
        · go_round
          case rel => exact ⟨k + 1, _, by omega, by go_num, rfl, by omega, by omega, HST.out⟩
          case measure => simp [intOf]; omega
      · go_wp2
        go_ret2
        have e : s.data.toList.drop k = [] := List.drop_eq_nil_of_le (by rw [hsz.out]; omega)
        have hn2 := hn.out
        rw [e] at hn2
        have hn3 : v = numF 0 s.data.toList := hn2
        obtain ⟨e1, e2⟩ := num_yes hf.out (by omega)
        exact ⟨ret2b (by omega) e2.symm, rfl⟩
theorem tok_Number (s : ByteArray) (w : World) (hs : s.size ≤ 9223372036854775807) :
    Calls Tryd.prog 10 #[.string s] w fun e w' => e = .returned (.tuple #[.int .i64 (numV s.data.toList), .bool (numOk s.data.toList)]) ∧ w = w' := by
  have hsz : s.data.toList.length = s.size := by simp
  by_cases hf : numForm s.data.toList
  · obtain ⟨h1, h2, h3⟩ := hf
    have h0 : 0 < s.size := by
      rw [← hsz]; exact List.length_pos_iff.2 h1
    refine tok_Number_ok s w hs h0 (fun h => ?_) h3 ⟨h1, h2, h3⟩
    simp only [beq_eq_false_iff_ne, ne_eq]
    intro h4
    refine h2 ⟨by omega, ?_⟩
    rw [head_get s h0]
    congr 1
    exact UInt8.toNat_inj.1 (by exact_mod_cast h4)
  · obtain ⟨e1, e2⟩ := num_no (l := s.data.toList) (fun h => hf h.1)
    rw [e1, e2]
    refine tok_Number_bad s w hs ?_
    by_cases h1 : s.data.toList = []
    · exact .inl h1
    · by_cases h2 : 1 < s.size ∧ s.data.toList.head? = some 48
      · exact .inr (.inl h2)
      · right; right
        rw [Bool.eq_false_iff]
        exact fun h3 => hf ⟨h1, by rw [hsz]; exact h2, h3⟩
end Go.Proofs.YtcbmaclhocdejaaDoor
