/- Contracts of package token: bytes, runs. -/
import Derived.Test.YtcbmaclhocdejaaDoorRows
import Derived.Test.YtcbmaclhocdejaaDoorSl
import Derived.Test.YtcbmaclhocdejaaDoorTokP
import Derived.WalkKit
import Derived.WalkSpells
import Derived.WalkLawsBesides
import Derived.Deep.QuietTactic
import Derived.BigQuiet
namespace Go.Proofs.YtcbmaclhocdejaaDoor
open Go.RowKit
set_option maxHeartbeats 400000 in
theorem tok_letter (c : UInt8) (w : World) :
    Calls Tryd.prog 23 #[.int .u8 c.toNat] w fun e w' => e = .returned (.bool (isLetter c)) ∧ w = w' := by
  go_enter Tryd.func23, Tryd.ntmps23
  go_wp2
  all_goals
    go_ret
    exact ⟨ret1b (by rw [Bool.eq_iff_iff]; simp_all [isLetter]; try omega), rfl⟩
set_option maxHeartbeats 400000 in
theorem tok_digit (c : UInt8) (w : World) :
    Calls Tryd.prog 17 #[.int .u8 c.toNat] w fun e w' => e = .returned (.bool (isDigit c)) ∧ w = w' := by
  go_enter Tryd.func17, Tryd.ntmps17
  go_wp2
  all_goals
    go_ret
    exact ⟨ret1b (by rw [Bool.eq_iff_iff]; simp_all [isDigit]; try omega), rfl⟩
set_option maxHeartbeats 400000 in
theorem tok_blank (c : UInt8) (w : World) :
    Calls Tryd.prog 21 #[.int .u8 c.toNat] w fun e w' => e = .returned (.bool (isBlank c)) ∧ w = w' := by
  go_enter Tryd.func21, Tryd.ntmps21
  go_wp2
  all_goals
    go_ret
    exact ⟨ret1b (by rw [Bool.eq_iff_iff]; simp_all [isBlank]; try omega), rfl⟩
set_option maxHeartbeats 400000 in
theorem tok_inline (c : UInt8) (w : World) :
    Calls Tryd.prog 22 #[.int .u8 c.toNat] w fun e w' => e = .returned (.bool (isInline c)) ∧ w = w' := by
  go_enter Tryd.func22, Tryd.ntmps22
  go_wp2
  all_goals
    go_ret
    exact ⟨ret1b (by rw [Bool.eq_iff_iff]; simp_all [isInline]; try omega), rfl⟩
set_option maxHeartbeats 400000 in
theorem tok_named (c : UInt8) (w : World) :
    Calls Tryd.prog 24 #[.int .u8 c.toNat] w fun e w' => e = .returned (.bool (isNamed c)) ∧ w = w' := by
  go_enter Tryd.func24, Tryd.ntmps24
  go_wp2_with (first
    | (go_at_call 23; refine (tok_letter _ _).mono ?_; rintro e w' ⟨rfl, rfl⟩)
    | (go_at_call 17; refine (tok_digit _ _).mono ?_; rintro e w' ⟨rfl, rfl⟩))
  all_goals
    go_ret
    exact ⟨ret1b (by rw [Bool.eq_iff_iff]; simp_all [isNamed]; try omega), rfl⟩
set_option maxHeartbeats 400000 in
theorem tok_run_digit (s : ByteArray) (k : Nat) (w : World) (hs : s.size ≤ 9223372036854775807) (hk : k ≤ s.size) :
    Calls Tryd.prog 16 #[.string s, .int .i64 k, .func (.func 17) #[] #[]] w fun e w' => e = .returned (.int .i64 (runL isDigit s.data.toList k)) ∧ w = w' := by
  have hl := Lib.hid (show s.data.toList.length = s.size by simp)
  go_enter Tryd.func16, Tryd.ntmps16
  go_wp2
  go_loop [1] (fun i => ∃ j : Nat, j ≤ s.size ∧ i = .int .i64 j ∧ Hid (runL isDigit s.data.toList j = runL isDigit s.data.toList k)) (fun i => s.size - (intOf i).toNat)
  case atStart => exact ⟨k, hk, rfl, rfl⟩
  case round =>
    obtain ⟨j, hj, rfl, hr⟩ := hrel
    by_cases hlt : j < s.size
    · rcases hb : isDigit s[j] with _ | _
      all_goals
        go_wp2_with (go_at_call 17; refine (tok_digit _ _).mono ?_; rintro e w' ⟨rfl, rfl⟩)
      · go_ret
        refine ⟨ret1 ?_, rfl⟩
        have h := runL_stop (p := isDigit) (l := s.data.toList) (k := j) (by rw [hl.out]; exact hlt) (by exact hb)
        rw [← hr.out, h]
      · go_round
        case rel => exact ⟨j + 1, by omega, by go_num, (runL_step (p := isDigit) (l := s.data.toList) (k := j) (by rw [hl.out]; exact hlt) (by exact hb)).trans hr.out⟩
        case measure => simp [intOf]; omega
    · go_wp2
      go_ret
      refine ⟨ret1 ?_, rfl⟩
      have h := runL_end (p := isDigit) (l := s.data.toList) (k := j) (by rw [hl.out]; omega)
      rw [← hr.out, h]
set_option maxHeartbeats 400000 in
theorem tok_run_blank (s : ByteArray) (k : Nat) (w : World) (hs : s.size ≤ 9223372036854775807) (hk : k ≤ s.size) :
    Calls Tryd.prog 16 #[.string s, .int .i64 k, .func (.func 21) #[] #[]] w fun e w' => e = .returned (.int .i64 (runL isBlank s.data.toList k)) ∧ w = w' := by
  have hl := Lib.hid (show s.data.toList.length = s.size by simp)
  go_enter Tryd.func16, Tryd.ntmps16
  go_wp2
  go_loop [1] (fun i => ∃ j : Nat, j ≤ s.size ∧ i = .int .i64 j ∧ Hid (runL isBlank s.data.toList j = runL isBlank s.data.toList k)) (fun i => s.size - (intOf i).toNat)
  case atStart => exact ⟨k, hk, rfl, rfl⟩
  case round =>
    obtain ⟨j, hj, rfl, hr⟩ := hrel
    by_cases hlt : j < s.size
    · rcases hb : isBlank s[j] with _ | _
      all_goals
        go_wp2_with (go_at_call 21; refine (tok_blank _ _).mono ?_; rintro e w' ⟨rfl, rfl⟩)
      · go_ret
        refine ⟨ret1 ?_, rfl⟩
        have h := runL_stop (p := isBlank) (l := s.data.toList) (k := j) (by rw [hl.out]; exact hlt) (by exact hb)
        rw [← hr.out, h]
      · go_round
        case rel => exact ⟨j + 1, by omega, by go_num, (runL_step (p := isBlank) (l := s.data.toList) (k := j) (by rw [hl.out]; exact hlt) (by exact hb)).trans hr.out⟩
        case measure => simp [intOf]; omega
    · go_wp2
      go_ret
      refine ⟨ret1 ?_, rfl⟩
      have h := runL_end (p := isBlank) (l := s.data.toList) (k := j) (by rw [hl.out]; omega)
      rw [← hr.out, h]
set_option maxHeartbeats 400000 in
theorem tok_run_inline (s : ByteArray) (k : Nat) (w : World) (hs : s.size ≤ 9223372036854775807) (hk : k ≤ s.size) :
    Calls Tryd.prog 16 #[.string s, .int .i64 k, .func (.func 22) #[] #[]] w fun e w' => e = .returned (.int .i64 (runL isInline s.data.toList k)) ∧ w = w' := by
  have hl := Lib.hid (show s.data.toList.length = s.size by simp)
  go_enter Tryd.func16, Tryd.ntmps16
  go_wp2
  go_loop [1] (fun i => ∃ j : Nat, j ≤ s.size ∧ i = .int .i64 j ∧ Hid (runL isInline s.data.toList j = runL isInline s.data.toList k)) (fun i => s.size - (intOf i).toNat)
  case atStart => exact ⟨k, hk, rfl, rfl⟩
  case round =>
    obtain ⟨j, hj, rfl, hr⟩ := hrel
    by_cases hlt : j < s.size
    · rcases hb : isInline s[j] with _ | _
      all_goals
        go_wp2_with (go_at_call 22; refine (tok_inline _ _).mono ?_; rintro e w' ⟨rfl, rfl⟩)
      · go_ret
        refine ⟨ret1 ?_, rfl⟩
        have h := runL_stop (p := isInline) (l := s.data.toList) (k := j) (by rw [hl.out]; exact hlt) (by exact hb)
        rw [← hr.out, h]
      · go_round
        case rel => exact ⟨j + 1, by omega, by go_num, (runL_step (p := isInline) (l := s.data.toList) (k := j) (by rw [hl.out]; exact hlt) (by exact hb)).trans hr.out⟩
        case measure => simp [intOf]; omega
    · go_wp2
      go_ret
      refine ⟨ret1 ?_, rfl⟩
      have h := runL_end (p := isInline) (l := s.data.toList) (k := j) (by rw [hl.out]; omega)
      rw [← hr.out, h]
set_option maxHeartbeats 400000 in
theorem tok_run_named (s : ByteArray) (k : Nat) (w : World) (hs : s.size ≤ 9223372036854775807) (hk : k ≤ s.size) :
    Calls Tryd.prog 16 #[.string s, .int .i64 k, .func (.func 24) #[] #[]] w fun e w' => e = .returned (.int .i64 (runL isNamed s.data.toList k)) ∧ w = w' := by
  have hl := Lib.hid (show s.data.toList.length = s.size by simp)
  go_enter Tryd.func16, Tryd.ntmps16
  go_wp2
  go_loop [1] (fun i => ∃ j : Nat, j ≤ s.size ∧ i = .int .i64 j ∧ Hid (runL isNamed s.data.toList j = runL isNamed s.data.toList k)) (fun i => s.size - (intOf i).toNat)
  case atStart => exact ⟨k, hk, rfl, rfl⟩
  case round =>
    obtain ⟨j, hj, rfl, hr⟩ := hrel
    by_cases hlt : j < s.size
    · rcases hb : isNamed s[j] with _ | _
      all_goals
        go_wp2_with (go_at_call 24; refine (tok_named _ _).mono ?_; rintro e w' ⟨rfl, rfl⟩)
      · go_ret
        refine ⟨ret1 ?_, rfl⟩
        have h := runL_stop (p := isNamed) (l := s.data.toList) (k := j) (by rw [hl.out]; exact hlt) (by exact hb)
        rw [← hr.out, h]
      · go_round
        case rel => exact ⟨j + 1, by omega, by go_num, (runL_step (p := isNamed) (l := s.data.toList) (k := j) (by rw [hl.out]; exact hlt) (by exact hb)).trans hr.out⟩
        case measure => simp [intOf]; omega
    · go_wp2
      go_ret
      refine ⟨ret1 ?_, rfl⟩
      have h := runL_end (p := isNamed) (l := s.data.toList) (k := j) (by rw [hl.out]; omega)
      rw [← hr.out, h]
end Go.Proofs.YtcbmaclhocdejaaDoor
