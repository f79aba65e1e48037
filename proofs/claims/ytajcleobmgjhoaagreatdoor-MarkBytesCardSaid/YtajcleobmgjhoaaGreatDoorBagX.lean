/- The document's answer of layer 03: Count, Total, with. -/
import Derived.Test.YtajcleobmgjhoaaGreatDoorBagW
namespace Go.Proofs.YtajcleobmgjhoaaGreatDoor
open Go.RowKit
set_option maxRecDepth 100000 in
set_option maxHeartbeats 1000000 in
theorem ref_Count (A : Option Addr) (n c : Nat) (l : Row) (m : Int) (w : World) (hA : Hid (Sl w (.slice A n c) n 2 (pairCells l))) :
    Calls Tryz.prog 51 #[.slice A n c, .int .i64 m] w fun e w' => e = .returned (.int .i64 (cntR l m)) ∧ ∃ q, w' = w.drewN q := by
  have hn := hA.out.bound
  have hl := Lib.hid (show l.length = n by have := hA.out.len; rw [pairCells_len] at this; omega)
  have cR := Lib.hid (ref_Right A n c l w hA)
  obtain ⟨R, hR⟩ : ∃ R, R = rightB l := ⟨_, rfl⟩
  rw [← hR] at cR
  have HR := Lib.hid hR
  clear hR
  cases R with
  | false =>
    have e1 : cntR l m = 0 := by unfold cntR; rw [← HR.out]; rfl
    rw [e1]
    go_enter Tryz.func51, Tryz.ntmps51
    go_wp2_with fail
    refine cR.out.mono ?_
    rintro e w1 ⟨rfl, q, rfl⟩
    go_wp2_with fail
    refine wp_loop_rounds 1 ?_
    rw [rounds_succ]
    by_cases h0 : (0 : Int) < (n : Int)
    · go_wp2
      go_ret
      exact ⟨rfl, q, rfl⟩
    · go_wp2
      go_ret
      exact ⟨rfl, q, rfl⟩
  | true =>
    have e1 : cntR l m = getM l m := by unfold cntR; rw [← HR.out]; rfl
    rw [e1]
    obtain ⟨G, hG⟩ : ∃ G, G = getM l m := ⟨_, rfl⟩
    rw [← hG]
    have HG := Lib.hid hG
    clear hG e1
    go_enter Tryz.func51, Tryz.ntmps51
    go_wp2_with fail
    refine cR.out.mono ?_
    rintro e w1 ⟨rfl, q, rfl⟩
    go_wp2_with fail
    go_loopw [6] (fun v wr => ∃ (k : Nat), k ≤ n ∧ v = .int .i64 (k : Int) ∧ wr = w.drewN q ∧ Hid (G = getM (l.drop k) m)) (fun v _ => n - (RowKit.intOf v).toNat)
    case atStart => exact ⟨0, by omega, rfl, rfl, HG.out⟩
    case round =>
      obtain ⟨k, hk, rfl, rfl, hg⟩ := hrel
      by_cases hlt : k < n
      · obtain ⟨b1, o1, rfl, c1, c2⟩ := hA.out.pair_at hlt
        have hst : getM (l.drop k) m = if (l.getD k (0, 0)).1 = m then (l.getD k (0, 0)).2 else getM (l.drop (k + 1)) m := by
          rw [List.drop_eq_getElem_cons (by rw [hl.out]; exact hlt), List.getD, List.getElem?_eq_getElem (by rw [hl.out]; exact hlt)]
          rfl
        obtain ⟨x, hx⟩ : ∃ x, x = l.getD k (0, 0) := ⟨_, rfl⟩
        rw [← hx] at c1 c2 hst
        obtain ⟨x1, x2⟩ := x
        simp only at c1 c2 hst
        rw [← hg.out] at hst
        have HST := Lib.hid hst
        have hlt2 : (k : Int) < (n : Int) := by omega
        have hk0 : (0 : Int) ≤ (k : Int) := by omega
        clear hx hst
        by_cases hm : x1 = m
        · have hf : Hid (G = x2) := by show G = x2; rw [HST.out, if_pos hm]
          have d1 : (x1 == m) = true := by simpa using hm
          have HM := Lib.hid hm
          clear hm
          go_wp2
          go_ret
          exact ⟨ret_i hf.out.symm, q, rfl⟩
        · have hf : Hid (G = getM (l.drop (k + 1)) m) := by show G = _; rw [HST.out, if_neg hm]
          have d1 : (x1 == m) = false := by simpa using hm
          have HM := Lib.hid hm
          clear hm
          go_wp2
          go_roundw
          case rel => exact ⟨k + 1, by omega, by go_num, trivial, hf.out⟩
          case measure => simp [RowKit.intOf]; omega
      · go_wp2
        go_ret
        have e1 : l.drop k = [] := List.drop_eq_nil_of_le (by rw [hl.out]; omega)
        have := hg.out
        rw [e1] at this
        exact ⟨ret_i this.symm, q, rfl⟩
theorem totM_snoc (p : Int × Int) : ∀ l : Row, totM (l ++ [p]) = totM l + p.2
  | [] => by simp [totM]
  | q :: r => by rw [List.cons_append, totM, totM, totM_snoc p r]; omega
theorem totM_bound {l : Row} (h : ∀ p ∈ l, 0 ≤ p.2 ∧ p.2 ≤ 1048576) : 0 ≤ totM l ∧ totM l ≤ l.length * 1048576 := by
  rw [← doneM_end (left := fun _ => false) (fun _ => rfl) l]
  exact doneM_bound h
end Go.Proofs.YtajcleobmgjhoaaGreatDoor
