/- The document's answer of layer 03: with, the walk. -/
import Derived.Test.YtajcleobmgjhoaaGreatDoorBagY
namespace Go.Proofs.YtajcleobmgjhoaaGreatDoor
open Go.RowKit
def WithP (b : Row) (m n : Int) (w : World) (e : Ending) (w' : World) : Prop :=
  ∃ A c j, e = .returned (.slice A j c) ∧ j = (withL b m n).length ∧ w'.ownsRow w.heap.size 45 2 (.slice A j c) j (pairCells (withL b m n)) ∧ Below w.heap.size w w'
theorem pair_one2 (x y : Int) : ∀ u ∈ [Value.int .i64 x, .int .i64 y], u.oneCell' = true := by
  intro u hu
  simp only [List.mem_cons, List.not_mem_nil, or_false] at hu
  rcases hu with rfl | rfl <;> rfl
theorem pairCells_one (O : Row) (x y : Int) : pairCells (O ++ [(x, y)]) = pairCells O ++ [Value.int .i64 x, .int .i64 y] := by rw [pairCells_app]; rfl
set_option maxRecDepth 100000 in
set_option maxHeartbeats 2000000 in
theorem ref_with (A : Option Addr) (n0 c : Nat) (b : Row) (m n : Int) (w : World) (hA : Hid (Sl w (.slice A n0 c) n0 2 (pairCells b))) (hs : Hid (Srt b)) (hmax : n0 < 1000000000) :
    Calls Tryz.prog 64 #[.slice A n0 c, .int .i64 m, .int .i64 n] w (WithP b m n w) := by
  have hl := Lib.hid (show b.length = n0 by have := hA.out.len; rw [pairCells_len] at this; omega)
  go_enter Tryz.func64, Tryz.ntmps64
  go_wp2
  go_loopw [7, 8, 9] (fun o d v wr => ∃ (k j : Nat) (A' : Option Addr) (c' : Nat) (dn : Bool) (O : Row), k ≤ n0 ∧ v = .int .i64 (k : Int) ∧ o = .slice A' j c' ∧ d = .bool dn ∧ j ≤ k + 1 ∧ Hid (j = O.length) ∧ Hid (wr.ownsRow w.heap.size 45 2 (.slice A' j c') j (pairCells O)) ∧ Hid (Below w.heap.size w wr) ∧ Hid (WInv b m n k dn O)) (fun _ _ v _ => n0 - (RowKit.intOf v).toNat)
  case atStart => exact ⟨0, 0, none, 0, false, [], by omega, rfl, rfl, rfl, by omega, rfl, World.ownsRow_nil _ _ _ _, Below.refl _ _, WInv.nil b m n⟩
  case round =>
    obtain ⟨k, j, A', c', dn, O, hk, rfl, rfl, rfl, hjk, hj, hO, hB, hW⟩ := hrel
    by_cases hlt : k < n0
    · obtain ⟨b1, o1, rfl, d1, d2⟩ := hA.out.pair_at hlt
      obtain ⟨p, hp⟩ : ∃ p, p = b.getD k (0, 0) := ⟨_, rfl⟩
      rw [← hp] at d1 d2
      have HP := Lib.hid hp
      have hkb := Lib.hid (show k < b.length by rw [hl.out]; exact hlt)
      clear hp
      obtain ⟨x, y⟩ := p
      simp only at d1 d2
      have C1 := Lib.hid d1
      have C2 := Lib.hid d2
      have c1 := cell_kept hB.out d1
      have c2 := cell_kept hB.out d2
      have hone := Lib.hid (pair_one2 x y)
      have hlt2 : (k : Int) < (n0 : Int) := by omega
      have hk0 : (0 : Int) ≤ (k : Int) := by omega
      clear d1 d2
      cases dn with
      | true =>
        obtain ⟨h1, hW2⟩ := hW.out.more hkb.out HP.out
        simp only at h1
        have HW2 := Lib.hid hW2
        have e1 : (x != m) = true := by simp; omega
        clear hW2
        go_wp2_with (at_builtin; refine wpList_append_sl pairs_ty rfl (.tmp 42) (.tmp 47) rfl w.heap.size rfl (by exact (World.ownsRow.alloc hO.out _)) rfl (by exact Sl.new _ _ [Value.int .i64 x, .int .i64 y] 1 2 rfl (by omega)) hone.out (by omega) (by omega) (by simp; have := hB.out.size; omega) ?_; intro v4 w4 hown4 hg4 hat4; obtain ⟨A4, c4, rfl, _, _⟩ := own_form hown4; have HO4 := Lib.hid hown4; have HB4 := Lib.hid ((hB.out.alloc hB.out.size (.cells #[.int .i64 x, .int .i64 y] 45)).grown hg4 (by simp; have := hB.out.size; omega) (fun q hq => (hO.out.lt q hq).1)); clear hown4 hg4 hat4)
        go_roundw
        case rel => exact ⟨k + 1, j + 1, A4, c4, true, _, by omega, by go_num, rfl, rfl, by omega, (by show j + 1 = _; rw [List.length_append, ← hj.out]; rfl), by rw [pairCells_one]; exact HO4.out, HB4.out, HW2.out⟩
        case measure => simp [RowKit.intOf]; omega
      | false =>
        have hls : j ≤ k := by have := hW.out.ls rfl; rw [← hj.out] at this; exact this
        by_cases h1 : x < m
        · have HW2 := Lib.hid (hW.out.lt hkb.out HP.out h1)
          have e1 : (x != m) = true := by simp; omega
          go_wp2_with (at_builtin; refine wpList_append_sl pairs_ty rfl (.tmp 42) (.tmp 47) rfl w.heap.size rfl (by exact (World.ownsRow.alloc hO.out _)) rfl (by exact Sl.new _ _ [Value.int .i64 x, .int .i64 y] 1 2 rfl (by omega)) hone.out (by omega) (by omega) (by simp; have := hB.out.size; omega) ?_; intro v4 w4 hown4 hg4 hat4; obtain ⟨A4, c4, rfl, _, _⟩ := own_form hown4; have HO4 := Lib.hid hown4; have HB4 := Lib.hid ((hB.out.alloc hB.out.size (.cells #[.int .i64 x, .int .i64 y] 45)).grown hg4 (by simp; have := hB.out.size; omega) (fun q hq => (hO.out.lt q hq).1)); clear hown4 hg4 hat4)
          go_roundw
          case rel => exact ⟨k + 1, j + 1, A4, c4, false, _, by omega, by go_num, rfl, rfl, by omega, (by show j + 1 = _; rw [List.length_append, ← hj.out]; rfl), by rw [pairCells_one]; exact HO4.out, HB4.out, HW2.out⟩
          case measure => simp [RowKit.intOf]; omega
        · have hge : m ≤ x := by omega
          have hW2 := hW.out.ge hs.out hkb.out HP.out hge
          simp only at hW2
          by_cases hn : 0 < n
          · have hin : insM m n = [(m, n)] := by unfold insM; rw [if_pos hn]
            rw [hin] at hW2
            clear hin
            by_cases hm : x = m
            · rw [if_pos hm, List.append_nil] at hW2
              have HW2 := Lib.hid hW2
              have e1 : (x != m) = false := by simp [hm]
              have HM := Lib.hid hm
              clear hW2 hm
              replace hone := Lib.hid (pair_one2 m n)
              go_wp2_with (at_builtin; refine wpList_append_sl pairs_ty rfl (.tmp 29) (.tmp 33) rfl w.heap.size rfl (by exact (World.ownsRow.alloc hO.out _)) rfl (by exact Sl.new _ _ [Value.int .i64 m, .int .i64 n] 1 2 rfl (by omega)) hone.out (by omega) (by omega) (by simp; have := hB.out.size; omega) ?_; intro v4 w4 hown4 hg4 hat4; obtain ⟨A4, c4, rfl, _, _⟩ := own_form hown4; have HO4 := Lib.hid hown4; have HB4 := Lib.hid ((hB.out.alloc hB.out.size (.cells #[.int .i64 m, .int .i64 n] 45)).grown hg4 (by simp; have := hB.out.size; omega) (fun q hq => (hO.out.lt q hq).1)); have q1 := cell_kept HB4.out C1.out; have q2 := cell_kept HB4.out C2.out; clear c1 c2; clear hown4 hg4 hat4)
              go_roundw
              case rel => exact ⟨k + 1, j + 1, A4, c4, true, _, by omega, by go_num, rfl, rfl, by omega, (by show j + 1 = _; rw [List.length_append, ← hj.out]; rfl), by rw [pairCells_one]; exact HO4.out, HB4.out, HW2.out⟩
              case measure => simp [RowKit.intOf]; omega
            · rw [if_neg hm] at hW2
              have HW2 := Lib.hid hW2
              have e1 : (x != m) = true := by simpa using hm
              have HM := Lib.hid hm
              clear hW2 hm
              have hone2 := Lib.hid (pair_one2 m n)
              go_wp2_with (first | (at_builtin; refine wpList_append_sl pairs_ty rfl (.tmp 29) (.tmp 33) rfl w.heap.size rfl (by exact (World.ownsRow.alloc hO.out _)) rfl (by exact Sl.new _ _ [Value.int .i64 m, .int .i64 n] 1 2 rfl (by omega)) hone2.out (by omega) (by omega) (by simp; have := hB.out.size; omega) ?_; intro v5 w5 hown4 hg4 hat4; obtain ⟨A5, c5, rfl, _, _⟩ := own_form hown4; have HO5 := Lib.hid hown4; have HB5 := Lib.hid ((hB.out.alloc hB.out.size (.cells #[.int .i64 m, .int .i64 n] 45)).grown hg4 (by simp; have := hB.out.size; omega) (fun q hq => (hO.out.lt q hq).1)); have q1 := cell_kept HB5.out C1.out; have q2 := cell_kept HB5.out C2.out; clear c1 c2; clear hown4 hg4 hat4) | (at_builtin; refine wpList_append_sl pairs_ty rfl (.tmp 42) (.tmp 47) rfl w.heap.size rfl (by exact (World.ownsRow.alloc HO5.out _)) rfl (by exact Sl.new _ _ [Value.int .i64 x, .int .i64 y] 1 2 rfl (by omega)) hone.out (by omega) (by omega) (by simp; have := HB5.out.size; omega) ?_; intro v4 w4 hown4 hg4 hat4; obtain ⟨A4, c4, rfl, _, _⟩ := own_form hown4; have HO4 := Lib.hid hown4; have HB4 := Lib.hid ((HB5.out.alloc HB5.out.size (.cells #[.int .i64 x, .int .i64 y] 45)).grown hg4 (by simp; have := HB5.out.size; omega) (fun q hq => (HO5.out.lt q hq).1)); clear hown4 hg4 hat4))
              go_roundw
              case rel => exact ⟨k + 1, j + 1 + 1, A4, c4, true, _, by omega, by go_num, rfl, rfl, by omega, (by show j + 1 + 1 = _; rw [List.length_append, List.length_append, ← hj.out]; rfl), by rw [pairCells_one, pairCells_one]; exact HO4.out, HB4.out, HW2.out⟩
              case measure => simp [RowKit.intOf]; omega
          · have hin : insM m n = [] := by unfold insM; rw [if_neg hn]
            rw [hin, List.append_nil] at hW2
            clear hin
            by_cases hm : x = m
            · rw [if_pos hm, List.append_nil] at hW2
              have HW2 := Lib.hid hW2
              have e1 : (x != m) = false := by simp [hm]
              have HM := Lib.hid hm
              clear hW2 hm
              go_wp2
              go_roundw
              case rel => exact ⟨k + 1, j, A', c', true, O, by omega, by go_num, rfl, rfl, by omega, hj.out, hO.out, hB.out, HW2.out⟩
              case measure => simp [RowKit.intOf]; omega
            · rw [if_neg hm] at hW2
              have HW2 := Lib.hid hW2
              have e1 : (x != m) = true := by simpa using hm
              have HM := Lib.hid hm
              clear hW2 hm
              go_wp2_with (at_builtin; refine wpList_append_sl pairs_ty rfl (.tmp 42) (.tmp 47) rfl w.heap.size rfl (by exact (World.ownsRow.alloc hO.out _)) rfl (by exact Sl.new _ _ [Value.int .i64 x, .int .i64 y] 1 2 rfl (by omega)) hone.out (by omega) (by omega) (by simp; have := hB.out.size; omega) ?_; intro v4 w4 hown4 hg4 hat4; obtain ⟨A4, c4, rfl, _, _⟩ := own_form hown4; have HO4 := Lib.hid hown4; have HB4 := Lib.hid ((hB.out.alloc hB.out.size (.cells #[.int .i64 x, .int .i64 y] 45)).grown hg4 (by simp; have := hB.out.size; omega) (fun q hq => (hO.out.lt q hq).1)); clear hown4 hg4 hat4)
              go_roundw
              case rel => exact ⟨k + 1, j + 1, A4, c4, true, _, by omega, by go_num, rfl, rfl, by omega, (by show j + 1 = _; rw [List.length_append, ← hj.out]; rfl), by rw [pairCells_one]; exact HO4.out, HB4.out, HW2.out⟩
              case measure => simp [RowKit.intOf]; omega
    · have hbk := Lib.hid (show b.length ≤ k by rw [hl.out]; omega)
      cases dn with
      | true =>
        have e1 := hW.out.endT hbk.out
        go_wp2
        go_ret
        exact ⟨A', c', j, rfl, by rw [← e1]; exact hj.out, by rw [← e1]; exact hO.out, hB.out⟩
      | false =>
        have e1 := hW.out.endF hbk.out
        by_cases hn : 0 < n
        · have hin : insM m n = [(m, n)] := by unfold insM; rw [if_pos hn]
          rw [hin] at e1
          have E1 := Lib.hid e1
          have hone := Lib.hid (pair_one2 m n)
          clear e1 hin
          go_wp2_with (at_builtin; refine wpList_append_sl pairs_ty rfl (.tmp 55) (.tmp 59) rfl w.heap.size rfl (by exact (World.ownsRow.alloc hO.out _)) rfl (by exact Sl.new _ _ [Value.int .i64 m, .int .i64 n] 1 2 rfl (by omega)) hone.out (by omega) (by omega) (by simp; have := hB.out.size; omega) ?_; intro v4 w4 hown4 hg4 hat4; obtain ⟨A4, c4, rfl, _, _⟩ := own_form hown4; have HO4 := Lib.hid hown4; have HB4 := Lib.hid ((hB.out.alloc hB.out.size (.cells #[.int .i64 m, .int .i64 n] 45)).grown hg4 (by simp; have := hB.out.size; omega) (fun q hq => (hO.out.lt q hq).1)); clear hown4 hg4 hat4)
          go_ret
          exact ⟨A4, c4, j + 1, rfl, by rw [← E1.out, List.length_append, ← hj.out]; rfl, by rw [← E1.out, pairCells_one]; exact HO4.out, HB4.out⟩
        · have hin : insM m n = [] := by unfold insM; rw [if_neg hn]
          rw [hin, List.append_nil] at e1
          clear hin
          go_wp2
          go_ret
          exact ⟨A', c', j, rfl, by rw [← e1]; exact hj.out, by rw [← e1]; exact hO.out, hB.out⟩
end Go.Proofs.YtajcleobmgjhoaaGreatDoor
