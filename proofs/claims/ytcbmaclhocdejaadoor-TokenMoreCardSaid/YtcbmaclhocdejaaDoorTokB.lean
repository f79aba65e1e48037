/- Contracts of package token: the lexer's skip. -/
import Derived.Test.YtcbmaclhocdejaaDoorTokA
import Derived.StillTailTactics
import Derived.Deep.RegionHeld3
import Derived.Deep.RegionWith
import Derived.Deep.DeepCutAuto
import Derived.Deep.LoopGhost
namespace Go.Proofs.YtcbmaclhocdejaaDoor
open Go.RowKit
/-- The lexer in memory: block g. -/
def LexAt (w : World) (g : Nat) (s : ByteArray) (k : Nat) : Prop := w.heap[g]? = some (.cells #[.string s, .int .i64 k] 36 (0, 0))
theorem LexAt.c0 {w : World} {g k : Nat} {s : ByteArray} (h : LexAt w g s k) : w.cell? ⟨g, 0, none⟩ = some (.string s) := by rw [cell_of_row _ _ _ _ _ _ h]; rfl
theorem LexAt.c1 {w : World} {g k : Nat} {s : ByteArray} (h : LexAt w g s k) : w.cell? ⟨g, 1, none⟩ = some (.int .i64 k) := by rw [cell_of_row _ _ _ _ _ _ h]; rfl
theorem LexAt.f1 {w : World} {g k : Nat} {s : ByteArray} (h : LexAt w g s k) : w.frozen? ⟨g, 1, none⟩ = false := by unfold LexAt at h; simp [World.frozen?, h]
theorem LexAt.store {w : World} {g k : Nat} {s : ByteArray} (h : LexAt w g s k) (j : Nat) : LexAt (w.setCell ⟨g, 1, none⟩ (.int .i64 j)) g s j := by
  unfold LexAt at h ⊢
  simp [World.setCell, Array.getElem?_modify, h]
theorem LexAt.drew {w : World} {g k : Nat} {s : ByteArray} (h : LexAt w g s k) : LexAt w.drew g s k := h
theorem LexAt.drewN {w : World} {g k : Nat} {s : ByteArray} (h : LexAt w g s k) (n : Nat) : LexAt (w.drewN n) g s k := h
theorem LexAt.lt {w : World} {g k : Nat} {s : ByteArray} (h : LexAt w g s k) : g < w.heap.size := World.block_lt_of_cell? w _ h.c0
/-- Only block g has turned, and what is new. -/
theorem only_drew {a w : World} {row : Option Nat} (h : a.grownBy w row) : a.grownBy w.drew row := ⟨h.os, h.tape, h.output, h.size, h.block⟩
theorem only_drewN {a w : World} {row : Option Nat} (h : a.grownBy w row) (n : Nat) : a.grownBy (w.drewN n) row := ⟨h.os, h.tape, h.output, h.size, h.block⟩
theorem only_set {a w : World} {g : Nat} (h : a.grownBy w (some g)) (o : Nat) (u : Value) : a.grownBy (w.setCell ⟨g, o, none⟩ u) (some g) :=
  ⟨h.os, h.tape, h.output, by simpa [World.setCell] using h.size, fun i hi hne => (Below.heap_setCell w ⟨g, o, none⟩ u i (by rintro rfl; exact hne rfl)).trans (h.block i hi hne)⟩
set_option maxHeartbeats 1000000 in
theorem tok_skip (s : ByteArray) (k g : Nat) (w : World) (hs : s.size ≤ 9223372036854775807) (hk : k ≤ s.size) (hg : Hid (LexAt w g s k)) :
    Calls Tryd.prog 13 #[.pointer (some ⟨g, 0, none⟩)] w fun e w' => e = .returned (.tuple #[]) ∧ LexAt w' g s (skipTo s.data.toList k) ∧ w.grownBy w' (some g) := by
  have hl := Lib.hid (show s.data.toList.length = s.size by simp)
  go_enter Tryd.func13, Tryd.ntmps13
  go_wp2
  go_loopg [] (s.size - k) (fun n wr => ∃ j : Nat, j ≤ s.size ∧ n = s.size - j ∧ LexAt wr g s j ∧ w.grownBy wr (some g) ∧ skipTo s.data.toList j = skipTo s.data.toList k)
  case atStart => exact ⟨k, hk, rfl, hg.out, World.grownBy.refl _ _, rfl⟩
  case round =>
    obtain ⟨j, hj, rfl, hL, hgr, hsk⟩ := hrel
    have HL := Lib.hid hL
    have HG := Lib.hid hgr
    have HSK := Lib.hid (hsk.symm.trans (skipTo_blank _ j))
    have h0 := hL.c0
    have h1 := hL.c1
    have h2 := hL.f1
    clear hL hgr hsk
    have hj1 : runL isBlank s.data.toList j ≤ s.size := by rw [← hl.out]; exact runL_le _ _ _ (by rw [hl.out]; exact hj)
    have hj0 : j ≤ runL isBlank s.data.toList j := runL_ge _ _ _
    have HN := Lib.hid (runL_blank_not (l := s.data.toList) (k := j))
    obtain ⟨q, hq⟩ : ∃ q, q = runL isBlank s.data.toList j := ⟨_, rfl⟩
    go_wp2
    go_cut [] (fun wx => wx = (wr.setCell ⟨g, 1, none⟩ (.int .i64 (runL isBlank s.data.toList j))).drew)
    case first =>
      clear hq
      go_region_with (go_at_call 16; refine (tok_run_blank s j _ hs hj).mono ?_; rintro e w' ⟨rfl, rfl⟩)
      all_goals (go_wp2_with fail; go_meet; rfl)
    case rest =>
      rw [← hq] at hcut HSK HN hj1 hj0
      have H1 : LexAt wc g s q := by rw [hcut]; exact (HL.out.store q).drew
      have H2 : w.grownBy wc (some g) := by rw [hcut]; exact only_drew (only_set HG.out _ _)
      have HL1 := Lib.hid H1
      have HG1 := Lib.hid H2
      clear hcut HL HG h0 h1 h2 hq
      have h0 := H1.c0
      have h1 := H1.c1
      have h2 := H1.f1
      clear H1 H2
      by_cases hend : q = s.size
      · have hb : ((q : Int) == (s.size : Int)) = true := by simp [hend]
        have HE := Lib.hid hend
        clear hend
        go_wp2
        go_quiet (fail)
        go_wp2
        refine bodyPost_ret (results_none rfl _ _ _) rfl ⟨rfl, ?_, only_drewN HG1.out _⟩
        have e : skipTo s.data.toList k = q := by rw [HSK.out, HE.out, ← hl.out, skipTo_end]
        rw [e]
        exact HL1.out.drewN _
      · have hb : ((q : Int) == (s.size : Int)) = false := by simp; omega
        have hlt : q < s.size := by omega
        have hlt2 : (q : Int) < (s.size : Int) := by omega
        rcases hc : (s[q].toNat : Int) == 35 with _ | _
        · have hc2 : ((s[q].toNat : Int) != 35) = true := by simp [bne, hc]
          have e : skipTo s.data.toList k = q := by
            rw [HSK.out]
            exact skipTo_stop (by rw [hl.out]; exact hlt) (HN.out _) (by have := hc; simp at this ⊢; exact fun h => this (by exact_mod_cast h))
          have HEE := Lib.hid e
          clear e
          go_wp2
          go_quiet (fail)
          go_wp2
          refine bodyPost_ret (results_none rfl _ _ _) rfl ⟨rfl, ?_, only_drewN HG1.out _⟩
          rw [HEE.out]
          exact HL1.out.drewN _
        · have hc2 : ((s[q].toNat : Int) != 35) = false := by simp [bne, hc]
          obtain ⟨e1, e2⟩ := skipTo_hash (l := s.data.toList) (k := q) (by rw [hl.out]; exact hlt) (by have := hc; simp at this ⊢; exact_mod_cast this)
          have HEE := Lib.hid e1
          have hle : runL isInline s.data.toList q ≤ s.size := by rw [← hl.out]; exact runL_le _ _ _ (by rw [hl.out]; omega)
          have HLE := Lib.hid hle
          have HLT := Lib.hid e2
          clear e1 e2 hle
          go_wp2
          go_quiet (fail)
          go_wp2
          go_region_with (go_at_call 16; refine (tok_run_inline s q _ hs (by omega)).mono ?_; rintro e w' ⟨rfl, rfl⟩)
          all_goals
            go_wp2_with fail
            go_roundg (s.size - runL isInline s.data.toList q)
            case measure => have := HLE.out; have := HLT.out; omega
            case rel => exact ⟨_, HLE.out, rfl, (HL1.out.store _).drewN _, only_drewN (only_set HG1.out _ _) _, (HSK.out.trans HEE.out).symm⟩
end Go.Proofs.YtcbmaclhocdejaaDoor
