/- Joined: Contracts of package token: bytes, runs. Contracts of package token: the lexer's skip. Contracts of package token: Number. Contracts of package token: the lexer's number, sign, next. Contracts of package token: the signs. -/
import Derived.Test.YtkpjhjoopdbkaaaGreatDoorRows
import Derived.Test.YtkpjhjoopdbkaaaGreatDoorG01
import Derived.WalkKit
import Derived.WalkSpells
import Derived.WalkLawsBesides
import Derived.Deep.QuietTactic
import Derived.BigQuiet
import Derived.StillTailTactics
import Derived.Deep.RegionHeld3
import Derived.Deep.RegionWith
import Derived.Deep.DeepCutAuto
import Derived.Deep.LoopGhost
import Derived.Lib.Strings
import Derived.Test.YtkpjhjoopdbkaaaGreatDoorG41
import Derived.Deep.DeepMust
namespace Go.Proofs.YtkpjhjoopdbkaaaGreatDoor
open Go.RowKit
set_option maxHeartbeats 400000 in
theorem tok_letter (c : UInt8) (w : World) :
    Calls Tryz.prog 58 #[.int .u8 c.toNat] w fun e w' => e = .returned (.bool (isLetter c)) ∧ w = w' := by
  go_enter Tryz.func58, Tryz.ntmps58
  go_wp2
  all_goals
    go_ret
    exact ⟨ret1b (by rw [Bool.eq_iff_iff]; simp_all [isLetter]; try omega), rfl⟩
set_option maxHeartbeats 400000 in
theorem tok_digit (c : UInt8) (w : World) :
    Calls Tryz.prog 60 #[.int .u8 c.toNat] w fun e w' => e = .returned (.bool (isDigit c)) ∧ w = w' := by
  go_enter Tryz.func60, Tryz.ntmps60
  go_wp2
  all_goals
    go_ret
    exact ⟨ret1b (by rw [Bool.eq_iff_iff]; simp_all [isDigit]; try omega), rfl⟩
set_option maxHeartbeats 400000 in
theorem tok_blank (c : UInt8) (w : World) :
    Calls Tryz.prog 56 #[.int .u8 c.toNat] w fun e w' => e = .returned (.bool (isBlank c)) ∧ w = w' := by
  go_enter Tryz.func56, Tryz.ntmps56
  go_wp2
  all_goals
    go_ret
    exact ⟨ret1b (by rw [Bool.eq_iff_iff]; simp_all [isBlank]; try omega), rfl⟩
set_option maxHeartbeats 400000 in
theorem tok_inline (c : UInt8) (w : World) :
    Calls Tryz.prog 57 #[.int .u8 c.toNat] w fun e w' => e = .returned (.bool (isInline c)) ∧ w = w' := by
  go_enter Tryz.func57, Tryz.ntmps57
  go_wp2
  all_goals
    go_ret
    exact ⟨ret1b (by rw [Bool.eq_iff_iff]; simp_all [isInline]; try omega), rfl⟩
set_option maxHeartbeats 400000 in
theorem tok_named (c : UInt8) (w : World) :
    Calls Tryz.prog 59 #[.int .u8 c.toNat] w fun e w' => e = .returned (.bool (isNamed c)) ∧ w = w' := by
  go_enter Tryz.func59, Tryz.ntmps59
  go_wp2_with (first
    | (go_at_call 58; refine (tok_letter _ _).mono ?_; rintro e w' ⟨rfl, rfl⟩)
    | (go_at_call 60; refine (tok_digit _ _).mono ?_; rintro e w' ⟨rfl, rfl⟩))
  all_goals
    go_ret
    exact ⟨ret1b (by rw [Bool.eq_iff_iff]; simp_all [isNamed]; try omega), rfl⟩
set_option maxHeartbeats 400000 in
theorem tok_run_digit (s : ByteArray) (k : Nat) (w : World) (hs : s.size ≤ 9223372036854775807) (hk : k ≤ s.size) :
    Calls Tryz.prog 55 #[.string s, .int .i64 k, .func (.func 60) #[] #[]] w fun e w' => e = .returned (.int .i64 (runL isDigit s.data.toList k)) ∧ w = w' := by
  have hl := Lib.hid (show s.data.toList.length = s.size by simp)
  go_enter Tryz.func55, Tryz.ntmps55
  go_wp2
  go_loop [1] (fun i => ∃ j : Nat, j ≤ s.size ∧ i = .int .i64 j ∧ Hid (runL isDigit s.data.toList j = runL isDigit s.data.toList k)) (fun i => s.size - (intOf i).toNat)
  case atStart => exact ⟨k, hk, rfl, rfl⟩
  case round =>
    obtain ⟨j, hj, rfl, hr⟩ := hrel
    by_cases hlt : j < s.size
    · rcases hb : isDigit s[j] with _ | _
      all_goals
        go_wp2_with (go_at_call 60; refine (tok_digit _ _).mono ?_; rintro e w' ⟨rfl, rfl⟩)
      · go_ret
        refine ⟨ret1 ?_, rfl⟩
        have h := runL_stop (p := isDigit) (l := s.data.toList) (k := j) (by rw [hl.out]; exact hlt) (by exact hb)
        rw [← hr.out, h]
      · go_round
        case rel => exact ⟨j + 1, by omega, by go_num, (runL_step (p := isDigit) (l := s.data.toList) (k := j) (by rw [hl.out]; exact hlt) (by exact hb)).trans hr.out⟩
        case measure => simp [intOf]; omega
    · go_wp2
      go_ret
      refine ⟨ret1 ?_, rfl⟩
      have h := runL_end (p := isDigit) (l := s.data.toList) (k := j) (by rw [hl.out]; omega)
      rw [← hr.out, h]
set_option maxHeartbeats 400000 in
theorem tok_run_blank (s : ByteArray) (k : Nat) (w : World) (hs : s.size ≤ 9223372036854775807) (hk : k ≤ s.size) :
    Calls Tryz.prog 55 #[.string s, .int .i64 k, .func (.func 56) #[] #[]] w fun e w' => e = .returned (.int .i64 (runL isBlank s.data.toList k)) ∧ w = w' := by
  have hl := Lib.hid (show s.data.toList.length = s.size by simp)
  go_enter Tryz.func55, Tryz.ntmps55
  go_wp2
  go_loop [1] (fun i => ∃ j : Nat, j ≤ s.size ∧ i = .int .i64 j ∧ Hid (runL isBlank s.data.toList j = runL isBlank s.data.toList k)) (fun i => s.size - (intOf i).toNat)
  case atStart => exact ⟨k, hk, rfl, rfl⟩
  case round =>
    obtain ⟨j, hj, rfl, hr⟩ := hrel
    by_cases hlt : j < s.size
    · rcases hb : isBlank s[j] with _ | _
      all_goals
        go_wp2_with (go_at_call 56; refine (tok_blank _ _).mono ?_; rintro e w' ⟨rfl, rfl⟩)
      · go_ret
        refine ⟨ret1 ?_, rfl⟩
        have h := runL_stop (p := isBlank) (l := s.data.toList) (k := j) (by rw [hl.out]; exact hlt) (by exact hb)
        rw [← hr.out, h]
      · go_round
        case rel => exact ⟨j + 1, by omega, by go_num, (runL_step (p := isBlank) (l := s.data.toList) (k := j) (by rw [hl.out]; exact hlt) (by exact hb)).trans hr.out⟩
        case measure => simp [intOf]; omega
    · go_wp2
      go_ret
      refine ⟨ret1 ?_, rfl⟩
      have h := runL_end (p := isBlank) (l := s.data.toList) (k := j) (by rw [hl.out]; omega)
      rw [← hr.out, h]
set_option maxHeartbeats 400000 in
theorem tok_run_inline (s : ByteArray) (k : Nat) (w : World) (hs : s.size ≤ 9223372036854775807) (hk : k ≤ s.size) :
    Calls Tryz.prog 55 #[.string s, .int .i64 k, .func (.func 57) #[] #[]] w fun e w' => e = .returned (.int .i64 (runL isInline s.data.toList k)) ∧ w = w' := by
  have hl := Lib.hid (show s.data.toList.length = s.size by simp)
  go_enter Tryz.func55, Tryz.ntmps55
  go_wp2
  go_loop [1] (fun i => ∃ j : Nat, j ≤ s.size ∧ i = .int .i64 j ∧ Hid (runL isInline s.data.toList j = runL isInline s.data.toList k)) (fun i => s.size - (intOf i).toNat)
  case atStart => exact ⟨k, hk, rfl, rfl⟩
  case round =>
    obtain ⟨j, hj, rfl, hr⟩ := hrel
    by_cases hlt : j < s.size
    · rcases hb : isInline s[j] with _ | _
      all_goals
        go_wp2_with (go_at_call 57; refine (tok_inline _ _).mono ?_; rintro e w' ⟨rfl, rfl⟩)
      · go_ret
        refine ⟨ret1 ?_, rfl⟩
        have h := runL_stop (p := isInline) (l := s.data.toList) (k := j) (by rw [hl.out]; exact hlt) (by exact hb)
        rw [← hr.out, h]
      · go_round
        case rel => exact ⟨j + 1, by omega, by go_num, (runL_step (p := isInline) (l := s.data.toList) (k := j) (by rw [hl.out]; exact hlt) (by exact hb)).trans hr.out⟩
        case measure => simp [intOf]; omega
    · go_wp2
      go_ret
      refine ⟨ret1 ?_, rfl⟩
      have h := runL_end (p := isInline) (l := s.data.toList) (k := j) (by rw [hl.out]; omega)
      rw [← hr.out, h]
set_option maxHeartbeats 400000 in
theorem tok_run_named (s : ByteArray) (k : Nat) (w : World) (hs : s.size ≤ 9223372036854775807) (hk : k ≤ s.size) :
    Calls Tryz.prog 55 #[.string s, .int .i64 k, .func (.func 59) #[] #[]] w fun e w' => e = .returned (.int .i64 (runL isNamed s.data.toList k)) ∧ w = w' := by
  have hl := Lib.hid (show s.data.toList.length = s.size by simp)
  go_enter Tryz.func55, Tryz.ntmps55
  go_wp2
  go_loop [1] (fun i => ∃ j : Nat, j ≤ s.size ∧ i = .int .i64 j ∧ Hid (runL isNamed s.data.toList j = runL isNamed s.data.toList k)) (fun i => s.size - (intOf i).toNat)
  case atStart => exact ⟨k, hk, rfl, rfl⟩
  case round =>
    obtain ⟨j, hj, rfl, hr⟩ := hrel
    by_cases hlt : j < s.size
    · rcases hb : isNamed s[j] with _ | _
      all_goals
        go_wp2_with (go_at_call 59; refine (tok_named _ _).mono ?_; rintro e w' ⟨rfl, rfl⟩)
      · go_ret
        refine ⟨ret1 ?_, rfl⟩
        have h := runL_stop (p := isNamed) (l := s.data.toList) (k := j) (by rw [hl.out]; exact hlt) (by exact hb)
        rw [← hr.out, h]
      · go_round
        case rel => exact ⟨j + 1, by omega, by go_num, (runL_step (p := isNamed) (l := s.data.toList) (k := j) (by rw [hl.out]; exact hlt) (by exact hb)).trans hr.out⟩
        case measure => simp [intOf]; omega
    · go_wp2
      go_ret
      refine ⟨ret1 ?_, rfl⟩
      have h := runL_end (p := isNamed) (l := s.data.toList) (k := j) (by rw [hl.out]; omega)
      rw [← hr.out, h]
end Go.Proofs.YtkpjhjoopdbkaaaGreatDoor
namespace Go.Proofs.YtkpjhjoopdbkaaaGreatDoor
open Go.RowKit
/-- The lexer in memory: block g. -/
def LexAt (w : World) (g : Nat) (s : ByteArray) (k : Nat) : Prop := w.heap[g]? = some (.cells #[.string s, .int .i64 k] 70 (0, 0))
theorem LexAt.c0 {w : World} {g k : Nat} {s : ByteArray} (h : LexAt w g s k) : w.cell? ⟨g, 0, none⟩ = some (.string s) := by rw [cell_of_row _ _ _ _ _ _ h]; rfl
theorem LexAt.c1 {w : World} {g k : Nat} {s : ByteArray} (h : LexAt w g s k) : w.cell? ⟨g, 1, none⟩ = some (.int .i64 k) := by rw [cell_of_row _ _ _ _ _ _ h]; rfl
theorem LexAt.f1 {w : World} {g k : Nat} {s : ByteArray} (h : LexAt w g s k) : w.frozen? ⟨g, 1, none⟩ = false := by unfold LexAt at h; simp [World.frozen?, h]
theorem LexAt.store {w : World} {g k : Nat} {s : ByteArray} (h : LexAt w g s k) (j : Nat) : LexAt (w.setCell ⟨g, 1, none⟩ (.int .i64 j)) g s j := by
  unfold LexAt at h ⊢
  simp [World.setCell, Array.getElem?_modify, h]
theorem LexAt.drew {w : World} {g k : Nat} {s : ByteArray} (h : LexAt w g s k) : LexAt w.drew g s k := h
theorem LexAt.drewN {w : World} {g k : Nat} {s : ByteArray} (h : LexAt w g s k) (n : Nat) : LexAt (w.drewN n) g s k := h
theorem LexAt.lt {w : World} {g k : Nat} {s : ByteArray} (h : LexAt w g s k) : g < w.heap.size := World.block_lt_of_cell? w _ h.c0
/-- Only block g has turned, and what is new. -/
theorem only_drew {a w : World} {row : Option Nat} (h : a.grownBy w row) : a.grownBy w.drew row := ⟨h.os, h.tape, h.output, h.size, h.block⟩
theorem only_drewN {a w : World} {row : Option Nat} (h : a.grownBy w row) (n : Nat) : a.grownBy (w.drewN n) row := ⟨h.os, h.tape, h.output, h.size, h.block⟩
theorem only_set {a w : World} {g : Nat} (h : a.grownBy w (some g)) (o : Nat) (u : Value) : a.grownBy (w.setCell ⟨g, o, none⟩ u) (some g) :=
  ⟨h.os, h.tape, h.output, by simpa [World.setCell] using h.size, fun i hi hne => (Below.heap_setCell w ⟨g, o, none⟩ u i (by rintro rfl; exact hne rfl)).trans (h.block i hi hne)⟩
set_option maxHeartbeats 1000000 in
theorem tok_skip (s : ByteArray) (k g : Nat) (w : World) (hs : s.size ≤ 9223372036854775807) (hk : k ≤ s.size) (hg : Hid (LexAt w g s k)) :
    Calls Tryz.prog 26 #[.pointer (some ⟨g, 0, none⟩)] w fun e w' => e = .returned (.tuple #[]) ∧ LexAt w' g s (skipTo s.data.toList k) ∧ w.grownBy w' (some g) := by
  have hl := Lib.hid (show s.data.toList.length = s.size by simp)
  go_enter Tryz.func26, Tryz.ntmps26
  go_wp2
  go_loopg [] (s.size - k) (fun n wr => ∃ j : Nat, j ≤ s.size ∧ n = s.size - j ∧ LexAt wr g s j ∧ w.grownBy wr (some g) ∧ skipTo s.data.toList j = skipTo s.data.toList k)
  case atStart => exact ⟨k, hk, rfl, hg.out, World.grownBy.refl _ _, rfl⟩
  case round =>
    obtain ⟨j, hj, rfl, hL, hgr, hsk⟩ := hrel
    have HL := Lib.hid hL
    have HG := Lib.hid hgr
    have HSK := Lib.hid (hsk.symm.trans (skipTo_blank _ j))
    have h0 := hL.c0
    have h1 := hL.c1
    have h2 := hL.f1
    clear hL hgr hsk
    have hj1 : runL isBlank s.data.toList j ≤ s.size := by rw [← hl.out]; exact runL_le _ _ _ (by rw [hl.out]; exact hj)
    have hj0 : j ≤ runL isBlank s.data.toList j := runL_ge _ _ _
    have HN := Lib.hid (runL_blank_not (l := s.data.toList) (k := j))
    obtain ⟨q, hq⟩ : ∃ q, q = runL isBlank s.data.toList j := ⟨_, rfl⟩
    go_wp2
    go_cut [] (fun wx => wx = (wr.setCell ⟨g, 1, none⟩ (.int .i64 (runL isBlank s.data.toList j))).drew)
    case first =>
      clear hq
      go_region_with (go_at_call 55; refine (tok_run_blank s j _ hs hj).mono ?_; rintro e w' ⟨rfl, rfl⟩)
      all_goals (go_wp2_with fail; go_meet; rfl)
    case rest =>
      rw [← hq] at hcut HSK HN hj1 hj0
      have H1 : LexAt wc g s q := by rw [hcut]; exact (HL.out.store q).drew
      have H2 : w.grownBy wc (some g) := by rw [hcut]; exact only_drew (only_set HG.out _ _)
      have HL1 := Lib.hid H1
      have HG1 := Lib.hid H2
      clear hcut HL HG h0 h1 h2 hq
      have h0 := H1.c0
      have h1 := H1.c1
      have h2 := H1.f1
      clear H1 H2
      by_cases hend : q = s.size
      · have hb : ((q : Int) == (s.size : Int)) = true := by simp [hend]
        have HE := Lib.hid hend
        clear hend
        go_wp2
        go_quiet (fail)
        go_wp2
        refine bodyPost_ret (results_none rfl _ _ _) rfl ⟨rfl, ?_, only_drewN HG1.out _⟩
        have e : skipTo s.data.toList k = q := by rw [HSK.out, HE.out, ← hl.out, skipTo_end]
        rw [e]
        exact HL1.out.drewN _
      · have hb : ((q : Int) == (s.size : Int)) = false := by simp; omega
        have hlt : q < s.size := by omega
        have hlt2 : (q : Int) < (s.size : Int) := by omega
        rcases hc : (s[q].toNat : Int) == 35 with _ | _
        · have hc2 : ((s[q].toNat : Int) != 35) = true := by simp [bne, hc]
          have e : skipTo s.data.toList k = q := by
            rw [HSK.out]
            exact skipTo_stop (by rw [hl.out]; exact hlt) (HN.out _) (by have := hc; simp at this ⊢; exact fun h => this (by exact_mod_cast h))
          have HEE := Lib.hid e
          clear e
          go_wp2
          go_quiet (fail)
          go_wp2
          refine bodyPost_ret (results_none rfl _ _ _) rfl ⟨rfl, ?_, only_drewN HG1.out _⟩
          rw [HEE.out]
          exact HL1.out.drewN _
        · have hc2 : ((s[q].toNat : Int) != 35) = false := by simp [bne, hc]
          obtain ⟨e1, e2⟩ := skipTo_hash (l := s.data.toList) (k := q) (by rw [hl.out]; exact hlt) (by have := hc; simp at this ⊢; exact_mod_cast this)
          have HEE := Lib.hid e1
          have hle : runL isInline s.data.toList q ≤ s.size := by rw [← hl.out]; exact runL_le _ _ _ (by rw [hl.out]; omega)
          have HLE := Lib.hid hle
          have HLT := Lib.hid e2
          clear e1 e2 hle
          go_wp2
          go_quiet (fail)
          go_wp2
          go_region_with (go_at_call 55; refine (tok_run_inline s q _ hs (by omega)).mono ?_; rintro e w' ⟨rfl, rfl⟩)
          all_goals
            go_wp2_with fail
            go_roundg (s.size - runL isInline s.data.toList q)
            case measure => have := HLE.out; have := HLT.out; omega
            case rel => exact ⟨_, HLE.out, rfl, (HL1.out.store _).drewN _, only_drewN (only_set HG1.out _ _) _, (HSK.out.trans HEE.out).symm⟩
end Go.Proofs.YtkpjhjoopdbkaaaGreatDoor
namespace Go.Proofs.YtkpjhjoopdbkaaaGreatDoor
open Go.RowKit
set_option maxHeartbeats 1000000 in
theorem tok_Number_bad (s : ByteArray) (w : World) (hs : s.size ≤ 9223372036854775807) (h : s.data.toList = [] ∨ (1 < s.size ∧ s.data.toList.head? = some 48) ∨ allDigits s.data.toList = false) :
    Calls Tryz.prog 110 #[.string s] w fun e w' => e = .returned (.tuple #[.int .i64 0, .bool false]) ∧ w = w' := by
  go_enter Tryz.func110, Tryz.ntmps110
  go_wp2_with (go_at_call 55; refine (tok_run_digit s 0 _ hs (by omega)).mono ?_; rintro e w' ⟨rfl, rfl⟩)
  all_goals first
    | (go_ret2; exact ⟨rfl, rfl⟩)
    | (exfalso
       have h1 := ‹¬ s.toList = []›
       refine num_bad_absurd h h1 ?_ ?_
       · first | exact ‹_ ∧ ¬ runL isDigit s.data.toList 0 < s.size›.2
       · first
           | (exact .inr ⟨_, ‹¬ (_ : Int) = 48›⟩)
           | (left; omega))
set_option maxHeartbeats 1000000 in
theorem tok_Number_ok (s : ByteArray) (w : World) (hs : s.size ≤ 9223372036854775807) (h1 : 0 < s.size) (h2 : 1 < s.size → ((s[0].toNat : Int) == 48) = false) (h3 : allDigits s.data.toList = true)
    (hf : Hid (numForm s.data.toList)) :
    Calls Tryz.prog 110 #[.string s] w fun e w' => e = .returned (.tuple #[.int .i64 (numV s.data.toList), .bool (numOk s.data.toList)]) ∧ w = w' := by
  have hsz := Lib.hid (show s.data.toList.length = s.size by simp)
  have hr : runL isDigit s.data.toList 0 = s.size := by rw [← hsz.out]; exact runL_all.2 h3
  have hne : s.toList.isEmpty = false := by
    rw [toList_data]
    cases hl : s.data.toList with
    | nil => have := hsz.out; rw [hl] at this; simp at this; omega
    | cons c r => rfl
  have H3 := Lib.hid h3
  clear h3
  by_cases hlt : 1 < s.size
  all_goals
    try have h4 := h2 hlt
    try have h5 : (1 : Int) < (s.size : Int) := by omega
    clear h2
    go_enter Tryz.func110, Tryz.ntmps110
    go_wp2_with (go_at_call 55; refine (tok_run_digit s 0 _ hs (by omega)).mono ?_; rintro e w' ⟨rfl, rfl⟩)
    clear hr hne
    go_loop [4, 28] (fun n i => ∃ (k : Nat) (v : Int), k ≤ s.size ∧ i = .int .i64 k ∧ n = .int .i64 v ∧ 0 ≤ v ∧ v ≤ 9223372036854775807 ∧ Hid (numF v (s.data.toList.drop k) = numF 0 s.data.toList)) (fun _ i => s.size - (intOf i).toNat)
    case atStart => exact ⟨0, 0, by omega, rfl, rfl, by omega, by omega, rfl⟩
    case round =>
      obtain ⟨k, v, hk, rfl, rfl, hv0, hv1, hn⟩ := hrel
      by_cases hkl : k < s.size
      · have hkl2 : k < s.data.toList.length := by rw [hsz.out]; exact hkl
        have hd : 48 ≤ s[k].toNat ∧ s[k].toNat ≤ 57 := digits_at H3.out hkl2
        have hd1 : (48 : Int) ≤ (s[k].toNat : Int) := by omega
        have hd2 : (s[k].toNat : Int) ≤ 57 := by omega
        have hst : numF v (s.data.toList.drop k) = numF (v * 10 + ((s[k].toNat : Int) - 48)) (s.data.toList.drop (k + 1)) := by
          rw [List.drop_eq_getElem_cons hkl2]; rfl
        have HST := Lib.hid (hst.symm.trans hn.out)
        have HGE := Lib.hid (numF_ge _ (digits_drop H3.out (k + 1)) (v * 10 + ((s[k].toNat : Int) - 48)) (by omega))
        clear hst hd
        go_wp2
        · go_ret2
          have hx := ‹(9223372036854775807 - ((s[k].toNat : Int) - 48)) / 10 < v›
          have hy : ¬ numF 0 s.data.toList ≤ 9223372036854775807 := by
            have h6 := HGE.out
            rw [HST.out] at h6
            omega
          obtain ⟨e1, e2⟩ := num_no (l := s.data.toList) (fun h => hy h.2)
          exact ⟨ret2b e1.symm e2.symm, rfl⟩
        · go_round
          case rel => exact ⟨k + 1, _, by omega, by go_num, rfl, by omega, by omega, HST.out⟩
          case measure => simp [intOf]; omega
      · go_wp2
        go_ret2
        have e : s.data.toList.drop k = [] := List.drop_eq_nil_of_le (by rw [hsz.out]; omega)
        have hn2 := hn.out
        rw [e] at hn2
        have hn3 : v = numF 0 s.data.toList := hn2
        obtain ⟨e1, e2⟩ := num_yes hf.out (by omega)
        exact ⟨ret2b (by omega) e2.symm, rfl⟩
theorem tok_Number (s : ByteArray) (w : World) (hs : s.size ≤ 9223372036854775807) :
    Calls Tryz.prog 110 #[.string s] w fun e w' => e = .returned (.tuple #[.int .i64 (numV s.data.toList), .bool (numOk s.data.toList)]) ∧ w = w' := by
  have hsz : s.data.toList.length = s.size := by simp
  by_cases hf : numForm s.data.toList
  · obtain ⟨h1, h2, h3⟩ := hf
    have h0 : 0 < s.size := by
      rw [← hsz]; exact List.length_pos_iff.2 h1
    refine tok_Number_ok s w hs h0 (fun h => ?_) h3 ⟨h1, h2, h3⟩
    simp only [beq_eq_false_iff_ne, ne_eq]
    intro h4
    refine h2 ⟨by omega, ?_⟩
    rw [head_get s h0]
    congr 1
    exact UInt8.toNat_inj.1 (by exact_mod_cast h4)
  · obtain ⟨e1, e2⟩ := num_no (l := s.data.toList) (fun h => hf h.1)
    rw [e1, e2]
    refine tok_Number_bad s w hs ?_
    by_cases h1 : s.data.toList = []
    · exact .inl h1
    · by_cases h2 : 1 < s.size ∧ s.data.toList.head? = some 48
      · exact .inr (.inl h2)
      · right; right
        rw [Bool.eq_false_iff]
        exact fun h3 => hf ⟨h1, by rw [hsz]; exact h2, h3⟩
end Go.Proofs.YtkpjhjoopdbkaaaGreatDoor
namespace Go.Proofs.YtkpjhjoopdbkaaaGreatDoor
open Go.RowKit
theorem quiet_pure {P : Program} {f : FuncId} {args : Array Value} {W : World} {v : Value} {F : Nat → World}
    (h : Calls P f args W fun e w' => e = .returned v ∧ W = w') (hW : ∃ m, W = F m) : Calls P f args W fun e w'' => e = .returned v ∧ ∃ m, w'' = F m :=
  h.mono fun _ _ ⟨he, hm⟩ => ⟨he, by obtain ⟨m, hm2⟩ := hW; exact ⟨m, hm.symm.trans hm2⟩⟩
/-- Where the number that begins at k ends; the error. -/
def numberE (l : List UInt8) (k : Nat) : Int :=
  if runL isDigit l k < runL isNamed l (runL isDigit l k) then 4
  else if k + 1 < runL isDigit l k ∧ l[k]? = some 48 then 4
  else if numOk ((l.drop k).take (runL isDigit l k - k)) then 0 else 6
def numberV (l : List UInt8) (k : Nat) : Int := if numberE l k = 0 then runL isDigit l k else 0
theorem drew_all (w : World) (a b c : Nat) : (∃ n, w.drewN a = w.drewN n) ∧ (∃ n, (w.drewN a).drewN b = w.drewN n) ∧ ∃ n, ((w.drewN a).drewN b).drewN c = w.drewN n :=
  ⟨⟨a, rfl⟩, ⟨a + b, by rw [World.drewN_drewN]⟩, ⟨a + b + c, by rw [World.drewN_drewN, World.drewN_drewN, Nat.add_assoc]⟩⟩
set_option maxHeartbeats 2000000 in
theorem tok_number (s : ByteArray) (k g : Nat) (w : World) (hs : s.size ≤ 9223372036854775806) (hk : k < s.size) (hg : Hid (LexAt w g s k)) :
    Calls Tryz.prog 61 #[.pointer (some ⟨g, 0, none⟩)] w fun e w' => e = .returned (.tuple #[.int .i64 (numberV s.data.toList k), .int .i64 (numberE s.data.toList k)]) ∧ ∃ n, w' = w.drewN n := by
  have hl := Lib.hid (show s.data.toList.length = s.size by simp)
  have h0 := hg.out.c0
  have h1 := hg.out.c1
  obtain ⟨e, he⟩ : ∃ e, e = runL isDigit s.data.toList k := ⟨_, rfl⟩
  have he1 : k ≤ e := by rw [he]; exact runL_ge _ _ _
  have he2 : e ≤ s.size := by rw [he, ← hl.out]; exact runL_le _ _ _ (by rw [hl.out]; omega)
  obtain ⟨m, hm⟩ : ∃ m, m = runL isNamed s.data.toList e := ⟨_, rfl⟩
  have hm1 : e ≤ m := by rw [hm]; exact runL_ge _ _ _
  have hm2 : m ≤ s.size := by rw [hm, ← hl.out]; exact runL_le _ _ _ (by rw [hl.out]; omega)
  have cd := fun W => Lib.hid (tok_run_digit s k W (by omega) (by omega))
  have cn := fun W => Lib.hid (tok_run_named s e W (by omega) he2)
  rw [← he] at cd
  rw [← hm] at cn
  have HE := Lib.hid he
  have HM := Lib.hid hm
  clear he hm
  have hkl : k < s.data.toList.length := by rw [hl.out]; exact hk
  have hk2 : (k : Int) < (s.size : Int) := by omega
  have hex : (s.extract k e).data.toList = (s.data.toList.drop k).take (e - k) := Lib.extract_data s k e
  have hxs : (s.extract k e).size ≤ 9223372036854775807 := by
    rw [Lib.size_eq, hex, List.length_take]
    omega
  have cq := fun W => Lib.hid (tok_Number (s.extract k e) W hxs)
  have HX := Lib.hid hex
  have HK := Lib.hid hkl
  clear hex hxs hkl
  by_cases hA : e < m
  · have eE : numberE s.data.toList k = 4 := by unfold numberE; rw [if_pos (by rw [← HE.out, ← HM.out]; exact hA)]
    have eV : numberV s.data.toList k = 0 := by simp [numberV, eE]
    have EE := Lib.hid eE
    have EV := Lib.hid eV
    clear eE eV
    have hA2 : (e : Int) < (m : Int) := by omega
    go_enter Tryz.func61, Tryz.ntmps61
    go_wp2
    go_quiet ((go_at_call 55; exact quiet_pure (cd _).out ⟨_, rfl⟩))
    go_wp2
    go_quiet ((go_at_call 55; exact quiet_pure (cn _).out ⟨_, rfl⟩))
    go_wp2
    go_ret2
    exact ⟨ret2 EV.out.symm EE.out.symm, (drew_all _ _ _ 0).2.1⟩
  have hA2 : decide ((e : Int) < (m : Int)) = false := by simp; omega
  have hA3 : decide (e < m) = false := by simp; omega
  have HA := Lib.hid hA
  clear hA
  by_cases hBC : k + 1 < e ∧ s.data.toList[k]? = some 48
  · have eE : numberE s.data.toList k = 4 := by unfold numberE; rw [if_neg (by rw [← HE.out, ← HM.out]; exact HA.out), if_pos (by rw [← HE.out]; exact hBC)]
    have eV : numberV s.data.toList k = 0 := by simp [numberV, eE]
    have EE := Lib.hid eE
    have EV := Lib.hid eV
    have hB2 : (k : Int) + 1 < (e : Int) := by omega
    have hC : ((s[k].toNat : Int) == 48) = true := by
      have h := hBC.2
      rw [List.getElem?_eq_getElem HK.out] at h
      injection h with h
      have h3 : s[k] = 48 := h
      rw [h3]; rfl
    clear eE eV hBC
    go_enter Tryz.func61, Tryz.ntmps61
    go_wp2
    go_quiet ((go_at_call 55; exact quiet_pure (cd _).out ⟨_, rfl⟩))
    go_wp2
    go_quiet ((go_at_call 55; exact quiet_pure (cn _).out ⟨_, rfl⟩))
    go_wp2
    go_ret2
    exact ⟨ret2 EV.out.symm EE.out.symm, (drew_all _ _ _ 0).2.1⟩
  · have eE : numberE s.data.toList k = if numOk (s.extract k e).data.toList then 0 else 6 := by
      unfold numberE
      rw [if_neg (by rw [← HE.out, ← HM.out]; exact HA.out), if_neg (by rw [← HE.out]; exact hBC), ← HE.out, HX.out]
    have hq : (numOk (s.extract k e).data.toList = true ∧ numberE s.data.toList k = 0 ∧ numberV s.data.toList k = e) ∨ (numOk (s.extract k e).data.toList = false ∧ numberE s.data.toList k = 6 ∧ numberV s.data.toList k = 0) := by
      rcases hN : numOk (s.extract k e).data.toList with _ | _
      · rw [hN] at eE
        exact .inr ⟨rfl, eE, by simp [numberV, eE]⟩
      · rw [hN] at eE
        exact .inl ⟨rfl, eE, by simp [numberV, eE, HE.out]⟩
    clear eE
    rcases hq with ⟨q1, q2, q3⟩ | ⟨q1, q2, q3⟩
    all_goals
      rw [q1] at cq
      have EE := Lib.hid q2
      have EV := Lib.hid q3
      clear q1 q2 q3
      by_cases hB : k + 1 < e
    all_goals
      first
        | (have hB2 : (k : Int) + 1 < (e : Int) := by omega
           have hC : ((s[k].toNat : Int) == 48) = false := by
             rw [beq_eq_false_iff_ne]
             intro h
             apply hBC
             refine ⟨hB, ?_⟩
             rw [List.getElem?_eq_getElem HK.out]
             congr 1
             exact UInt8.toNat_inj.1 (by exact_mod_cast h))
        | have hB2 : decide ((k : Int) + 1 < (e : Int)) = false := by (simp; omega)
      clear hBC hB
      go_enter Tryz.func61, Tryz.ntmps61
      go_wp2
      go_quiet ((go_at_call 55; exact quiet_pure (cd _).out ⟨_, rfl⟩))
      go_wp2
      go_quiet ((go_at_call 55; exact quiet_pure (cn _).out ⟨_, rfl⟩))
      go_wp2
      go_quiet ((go_at_call 110; exact quiet_pure (cq _).out ⟨_, rfl⟩))
      go_wp2
      go_ret2
      exact ⟨ret2 EV.out.symm EE.out.symm, by first | exact (drew_all _ _ _ _).2.2 | exact ⟨_, rfl⟩ | (simp only [World.drewN_drewN]; exact ⟨_, rfl⟩)⟩
end Go.Proofs.YtkpjhjoopdbkaaaGreatDoor
namespace Go.Proofs.YtkpjhjoopdbkaaaGreatDoor
open Go.RowKit
/-- The signs of two bytes. -/
def twoSigns : List (List UInt8) := [[46, 46], [61, 61], [33, 61], [60, 61], [38, 38], [124, 124]]
def twoStrs : List ByteArray := twoSigns.map fun l => ⟨l.toArray⟩
def twoCells : Array Value := (twoStrs.map Value.string).toArray
def oneSigns : List UInt8 := [59, 58, 61, 44, 40, 41, 123, 125, 42, 43, 45, 47, 37, 60, 33]
set_option maxHeartbeats 400000 in
theorem tok_twos (w : World) :
    Calls Tryz.prog 114 #[] w fun e w' => e = .returned (.slice (some ⟨w.heap.size, 0, none⟩) 6 6) ∧ w.alloc (.cells twoCells 9) = w' := by
  go_enter Tryz.func114, Tryz.ntmps114
  go_wp2
  go_ret
  exact ⟨rfl, rfl⟩
set_option maxHeartbeats 400000 in
theorem tok_two (r t : ByteArray) (b : Nat) (w : World) (hc : w.cell? ⟨b, 0, none⟩ = some (.string r)) :
    Calls Tryz.prog 111 #[.string t, .pointer (some ⟨b, 0, none⟩)] w fun e w' => e = .returned (.bool (Lib.hasPrefix r.data.toList t.data.toList)) ∧ w = w' := by
  go_enter Tryz.func111, Tryz.ntmps111
  go_wp2_with (go_at_call 112; refine (Tryz.strings_HasPrefix _ _ _).mono ?_; rintro e w' ⟨rfl, hw⟩; have hw2 := hw.symm; subst hw2; clear hw)
  go_ret
  exact ⟨rfl, rfl⟩
def anyTwo (l : List UInt8) : Bool := twoSigns.any fun t => Lib.hasPrefix l t
theorem two_at {k : Nat} (h : k < 6) : twoCells[k]? = some (.string (twoStrs.getD k ByteArray.empty)) := by
  have : k = 0 ∨ k = 1 ∨ k = 2 ∨ k = 3 ∨ k = 4 ∨ k = 5 := by omega
  rcases this with h | h | h | h | h | h <;> subst h <;> rfl
theorem two_data {k : Nat} (h : k < 6) : (twoStrs.getD k ByteArray.empty).data.toList = twoSigns.getD k [] := by
  have : k = 0 ∨ k = 1 ∨ k = 2 ∨ k = 3 ∨ k = 4 ∨ k = 5 := by omega
  rcases this with h | h | h | h | h | h <;> subst h <;> rfl
/-- An index that tells whether there is one. -/
def IdxAns (b : Bool) (w : World) (e : Ending) (w' : World) : Prop := ∃ i : Int, e = .returned (.int .i64 i) ∧ decide (0 ≤ i) = b ∧ w = w'
theorem any_hit {α : Type} {l : List α} {f : α → Bool} {k : Nat} (h : k < l.length) (hf : f l[k] = true) : l.any f = true := List.any_eq_true.2 ⟨_, List.getElem_mem h, hf⟩
theorem any_miss {α : Type} {l : List α} {f : α → Bool} (d : α) (h : ∀ k, k < l.length → f (l.getD k d) = false) : l.any f = false := by
  rw [Bool.eq_false_iff]
  intro ha
  obtain ⟨x, hx, hf⟩ := List.any_eq_true.1 ha
  obtain ⟨k, hk, rfl⟩ := List.getElem_of_mem hx
  have := h k hk
  rw [List.getD, List.getElem?_eq_getElem hk] at this
  rw [Option.getD_some, hf] at this
  cases this
set_option maxHeartbeats 1000000 in
theorem tok_IndexFunc (r : ByteArray) (b c : Nat) (w : World) (hc : w.cell? ⟨b, 0, none⟩ = some (.string r)) (hcc : Hid (∀ k, k < 6 → w.cell? ⟨c, k, none⟩ = some (.string (twoStrs.getD k ByteArray.empty)))) :
    Calls Tryz.prog 157 #[.slice (some ⟨c, 0, none⟩) 6 6, .func (.func 111) #[] #[.pointer (some ⟨b, 0, none⟩)]] w (IdxAns (anyTwo r.data.toList) w) := by
  go_enter Tryz.func157, Tryz.ntmps157
  go_wp2
  go_loop [8] (fun i => ∃ k : Nat, k ≤ 6 ∧ i = .int .i64 k ∧ Hid (∀ j, j < k → Lib.hasPrefix r.data.toList (twoSigns.getD j []) = false)) (fun i => 6 - (intOf i).toNat)
  case atStart => exact ⟨0, by omega, rfl, fun j hj => by omega⟩
  case round =>
    obtain ⟨k, hk, rfl, hno⟩ := hrel
    by_cases hlt : k < 6
    · have hcell := hcc.out k hlt
      have hd := two_data hlt
      obtain ⟨z, hz⟩ : ∃ z, z = twoStrs.getD k ByteArray.empty := ⟨_, rfl⟩
      rw [← hz] at hcell hd
      have HD := Lib.hid hd
      clear hd hz
      go_wp2_with (go_at_call 111; refine (tok_two _ _ _ _ hc).mono ?_; rintro e w' ⟨rfl, rfl⟩)
      · go_ret
        have hh := ‹Lib.hasPrefix r.data.toList z.data.toList = true›
        rw [HD.out] at hh
        refine ⟨k, rfl, ?_, rfl⟩
        have h2 : anyTwo r.data.toList = true := any_hit (l := twoSigns) (k := k) (f := fun t => Lib.hasPrefix r.data.toList t) (by exact hlt) (by rw [List.getD, List.getElem?_eq_getElem (by exact hlt)] at hh; exact hh)
        rw [h2]; simp
      · have hh := ‹Lib.hasPrefix r.data.toList z.data.toList = false›
        rw [HD.out] at hh
        have HH := Lib.hid hh
        clear hh
        go_round
        case rel =>
          refine ⟨k + 1, by omega, by go_num, fun j hj => ?_⟩
          by_cases h : j < k
          · exact hno.out j h
          · have : j = k := by omega
            subst this; exact HH.out
        case measure => simp [intOf]; omega
    · go_wp2
      go_ret
      refine ⟨-1, rfl, ?_, rfl⟩
      have h2 : anyTwo r.data.toList = false := any_miss (l := twoSigns) (f := fun t => Lib.hasPrefix r.data.toList t) [] (fun j hj => hno.out j (by have : twoSigns.length = 6 := rfl; omega))
      rw [h2]; rfl
set_option maxHeartbeats 1000000 in
theorem tok_ContainsFunc (r : ByteArray) (b c : Nat) (w : World) (hc : w.cell? ⟨b, 0, none⟩ = some (.string r)) (hcc : Hid (∀ k, k < 6 → w.cell? ⟨c, k, none⟩ = some (.string (twoStrs.getD k ByteArray.empty)))) :
    Calls Tryz.prog 113 #[.slice (some ⟨c, 0, none⟩) 6 6, .func (.func 111) #[] #[.pointer (some ⟨b, 0, none⟩)]] w fun e w' => e = .returned (.bool (anyTwo r.data.toList)) ∧ w = w' := by
  go_enter Tryz.func113, Tryz.ntmps113
  go_wp2_with (go_at_call 157; refine (tok_IndexFunc r b c _ hc hcc).mono ?_; rintro e w' ⟨i, rfl, hi, rfl⟩)
  go_ret
  exact ⟨rfl, rfl⟩
theorem indexByte_has (l : List UInt8) (c : UInt8) : -1 ≤ Lib.indexByte l c ∧ decide (0 ≤ Lib.indexByte l c) = l.contains c := by
  induction l with
  | nil => simp [Lib.indexByte]
  | cons b l ih =>
    obtain ⟨h1, h2⟩ := ih
    by_cases hb : b = c
    · subst hb; simp [Lib.indexByte]
    · have hcb : ¬ c = b := fun h => hb h.symm
      have hb2 : (b == c) = false := by simpa using hb
      have hcb2 : (c == b) = false := by simpa using hcb
      simp only [Lib.indexByte, hb2, Bool.false_eq_true, if_false, List.contains_cons, hcb2, Bool.false_or]
      rw [← h2]
      by_cases hm : Lib.indexByte l c = -1
      · simp [hm]
      · have hm2 : (Lib.indexByte l c == -1) = false := by simpa using hm
        rw [hm2]
        simp only [Bool.false_eq_true, if_false]
        refine ⟨by omega, ?_⟩
        rw [Bool.eq_iff_iff]; simp only [decide_eq_true_eq]; omega
theorem tok_ones (c : UInt8) (w : World) :
    Calls Tryz.prog 115 #[.string ⟨#[59, 58, 61, 44, 40, 41, 123, 125, 42, 43, 45, 47, 37, 60, 33]⟩, .int .u8 c.toNat] w (IdxAns (oneSigns.contains c) w) :=
  (Tryz.strings_IndexByte _ _ _).mono fun e w' ⟨he, hw⟩ => ⟨_, he, by
    have h := (indexByte_has oneSigns c).2
    have hc : ((c.toNat : Int).toNat).toUInt8 = c := by simp
    rw [hc]
    exact h, hw.symm⟩
/-- Where the sign that begins at k ends; the error. -/
def signE (l : List UInt8) (k : Nat) : Int := if anyTwo (l.drop k) then 0 else if oneSigns.contains (l.getD k 0) then 0 else 4
def signV (l : List UInt8) (k : Nat) : Int := if anyTwo (l.drop k) then k + 2 else if oneSigns.contains (l.getD k 0) then k + 1 else 0
set_option maxHeartbeats 1000000 in
theorem tok_sign (s : ByteArray) (k g : Nat) (w : World) (hs : s.size ≤ 9223372036854775805) (hk : k < s.size) (hg : Hid (LexAt w g s k)) :
    Calls Tryz.prog 62 #[.pointer (some ⟨g, 0, none⟩)] w fun e w' => e = .returned (.tuple #[.int .i64 (signV s.data.toList k), .int .i64 (signE s.data.toList k)]) ∧ Below w.heap.size w w' := by
  have h0 := hg.out.c0
  have h1 := hg.out.c1
  have hlt := hg.out.lt
  have hkle : k ≤ s.size := by omega
  have n0 := World.new_ne w _ h0
  have n1 := World.new_ne w _ h1
  have a0 : ∀ o, (w.alloc o).cell? ⟨g, 0, none⟩ = some (.string s) := fun o => by rw [World.cell?_alloc_lt w o _ hlt]; exact h0
  have a1 : ∀ o, (w.alloc o).cell? ⟨g, 1, none⟩ = some (.int .i64 k) := fun o => by rw [World.cell?_alloc_lt w o _ hlt]; exact h1
  obtain ⟨r, hr⟩ : ∃ r, s.extract k s.size = r := ⟨_, rfl⟩
  have hrd : r.data.toList = s.data.toList.drop k := by rw [← hr, Lib.extract_to_end]
  have hl : s.data.toList.length = s.size := by simp
  have hrs : r.size = s.size - k := by rw [Lib.size_eq, hrd, List.length_drop, hl]
  have hr0 : 0 < r.size := by omega
  have hrl : 0 < r.data.toList.length := by rw [← Lib.size_eq]; exact hr0
  have hr1 : r[0] = s.data.toList.getD k 0 := by
    have h : r.data.toList[0] = s.data.toList.getD k 0 := by
      have h2 : r.data.toList[0]? = s.data.toList[k]? := by rw [hrd, List.getElem?_drop]; rfl
      rw [List.getElem?_eq_getElem hrl] at h2
      rw [List.getD, ← h2]; rfl
    exact h
  have HRD := Lib.hid hrd
  have HR1 := Lib.hid hr1
  have hr2 : (0 : Int) < (r.size : Int) := by omega
  have nn : w.heap.size + 1 ≠ g := by omega
  clear hrd hr1 hrs hl
  go_enter Tryz.func62, Tryz.ntmps62
  go_wp2
  go_cut [4] (fun v wx => v = .pointer (some ⟨w.heap.size, 0, none⟩) ∧ wx = (w.alloc (.cells #[.string r] 9)).drew)
  case first =>
    go_region
    all_goals (go_wp2_with fail; go_meet; exact ⟨rfl, by first | rfl | rw [hr]⟩)
  case rest =>
    obtain ⟨rfl, rfl⟩ := hcut
    clear hr
    have hcr : (((w.alloc (.cells #[.string r] 9)).alloc (.cells twoCells 9)).drew).cell? ⟨w.heap.size, 0, none⟩ = some (.string r) := by
      show ((w.alloc (.cells #[.string r] 9)).alloc (.cells twoCells 9)).cell? _ = _
      rw [World.cell?_alloc_lt _ _ _ (by simp), cell_of_row _ _ _ _ _ _ (heap_alloc_new w _)]
      rfl
    have hct : Hid (∀ k, k < 6 → (((w.alloc (.cells #[.string r] 9)).alloc (.cells twoCells 9)).drew).cell? ⟨w.heap.size + 1, k, none⟩ = some (.string (twoStrs.getD k ByteArray.empty))) := by
      intro j hj
      show ((w.alloc (.cells #[.string r] 9)).alloc (.cells twoCells 9)).cell? _ = _
      have hn := heap_alloc_new (w.alloc (.cells #[.string r] 9)) (.cells twoCells 9)
      rw [show (w.alloc (.cells #[.string r] 9)).heap.size = w.heap.size + 1 by simp] at hn
      rw [cell_of_row _ _ _ _ _ _ hn]
      exact two_at hj
    have HCR := Lib.hid hcr
    clear hcr
    go_wp2_with fail
    refine (tok_twos _).mono ?_
    rintro e w2 ⟨rfl, rfl⟩
    go_wp2_with fail
    refine (tok_ContainsFunc r _ _ _ HCR.out hct).mono ?_
    rintro e w2 ⟨rfl, rfl⟩
    have hbw : Below w.heap.size w ((w.alloc (.cells #[.string r] 9)).alloc (.cells twoCells 9)).drew :=
      (((Below.refl _ _).alloc (Nat.le_refl _) _).alloc (by simp) _).drew
    have HB := Lib.hid hbw
    clear hbw
    rcases hb : anyTwo r.data.toList with _ | _
    · go_wp2_with fail
      refine (tok_ones _ _).mono ?_
      rintro e w2 ⟨i, rfl, hi, rfl⟩
      rcases ho : oneSigns.contains r[0] with _ | _
      all_goals
        rw [ho] at hi
        have e1 : anyTwo (s.data.toList.drop k) = false := by rw [← HRD.out]; exact hb
        have HE1 := Lib.hid e1
        have HO := Lib.hid ho
        clear ho e1
        go_wp2
        go_ret2
        have e2 : oneSigns.contains (s.data.toList.getD k 0) = oneSigns.contains r[0] := by rw [HR1.out]
        have e3 := e2.trans HO.out
        exact ⟨ret2 (by simp only [signV, HE1.out, e3]; rfl) (by simp only [signE, HE1.out, e3]; rfl), HB.out⟩
    · have e1 : anyTwo (s.data.toList.drop k) = true := by rw [← HRD.out]; exact hb
      have HE1 := Lib.hid e1
      clear e1
      go_wp2
      go_ret2
      exact ⟨ret2 (by simp only [signV, HE1.out]; rfl) (by simp only [signE, HE1.out]; rfl), HB.out⟩
end Go.Proofs.YtkpjhjoopdbkaaaGreatDoor
