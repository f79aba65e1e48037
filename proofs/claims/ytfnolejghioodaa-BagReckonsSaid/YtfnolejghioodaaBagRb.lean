/- The document's answer of layer 03: List. -/
import Derived.Test.YtfnolejghioodaaBagX
namespace Go.Proofs.Ytfnolejghioodaa
open Go.RowKit
set_option maxHeartbeats 2000000 in
theorem ref_List (A : Option Addr) (n c : Nat) (l : Row) (most : Int) (w : World) (hA : Hid (Sl w (.slice A n c) n 2 (pairCells l))) (hmost : most ≤ 1000000000000) :
    Calls Try.prog 21 #[.slice A n c, .int .i64 most] w (ListP l most w) := by
  have hn := hA.out.bound
  have hl := Lib.hid (show l.length = n by have := hA.out.len; rw [pairCells_len] at this; omega)
  have cR := Lib.hid (ref_Right A n c l w hA)
  obtain ⟨R, hR⟩ : ∃ R, R = rightB l := ⟨_, rfl⟩
  rw [← hR] at cR
  have HR := Lib.hid hR
  clear hR
  cases R with
  | false =>
    have e1 : listM l most = [] := by unfold listM; rw [← HR.out]; rfl
    unfold ListP
    rw [e1]
    go_enter Try.func21, Try.ntmps21
    go_wp2_with fail
    refine cR.out.mono ?_
    rintro e w1 ⟨rfl, q, rfl⟩
    have HB1 := Lib.hid (below_drewN' (Below.refl w.heap.size w) q)
    go_wp2_with fail
    refine wp_loop_rounds 1 ?_
    rw [rounds_succ]
    by_cases h0 : (0 : Int) < (n : Int)
    · go_wp2
      go_ret
      exact ⟨none, 0, rfl, World.ownsRow_nil _ _ _ _, HB1.out⟩
    · go_wp2
      go_ret
      exact ⟨none, 0, rfl, World.ownsRow_nil _ _ _ _, HB1.out⟩
  | true =>
    have hok := Lib.hid ((rightB_iff l).1 HR.out.symm)
    have htn : most.toNat ≤ 1000000000000 := by omega
    obtain ⟨t, ht⟩ : ∃ t, t = most.toNat := ⟨_, rfl⟩
    rw [← ht] at htn
    have HT := Lib.hid ht
    clear ht
    go_enter Try.func21, Try.ntmps21
    go_wp2_with fail
    refine cR.out.mono ?_
    rintro e w1 ⟨rfl, q0, rfl⟩
    have HB1 := Lib.hid (below_drewN' (Below.refl w.heap.size w) q0)
    obtain ⟨w1, hw1⟩ : ∃ w1, w1 = w.drewN q0 := ⟨_, rfl⟩
    rw [← hw1] at HB1 ⊢
    clear hw1
    go_wp2_with fail
    go_loopw [6, 7] (fun o v wr => ∃ (k j : Nat) (A' : Option Addr) (c' : Nat), k ≤ n ∧ v = .int .i64 (k : Int) ∧ o = .slice A' j c' ∧ Hid (j = ((flatM (l.take k)).take t).length) ∧ Hid (wr.ownsRow w1.heap.size 3 1 (.slice A' j c') j (intCells ((flatM (l.take k)).take t))) ∧ Hid (Below w1.heap.size w1 wr)) (fun _ v _ => n - (RowKit.intOf v).toNat)
    case atStart => exact ⟨0, 0, none, 0, by omega, rfl, rfl, (by show 0 = _; simp [flatM]), (by simp only [List.take_zero, flatM, List.flatMap_nil, List.take_nil]; exact World.ownsRow_nil _ _ _ _), Below.refl _ _⟩
    case round =>
      obtain ⟨k, j, A', c', hk, rfl, rfl, hj, hO, hB⟩ := hrel
      by_cases hlt : k < n
      · obtain ⟨b1, o1, rfl, c1, c2⟩ := hA.out.pair_at hlt
        have D1 := Lib.hid c1
        have D2 := Lib.hid c2
        replace c1 := cell_kept hB.out (cell_kept HB1.out c1)
        replace c2 := cell_kept hB.out (cell_kept HB1.out c2)
        obtain ⟨p, hp⟩ : ∃ p, p = l.getD k (0, 0) := ⟨_, rfl⟩
        rw [← hp] at c1 c2 D1 D2
        have hts := take_snoc (M := l) (k := k) (by rw [hl.out]; exact hlt)
        rw [← hp] at hts
        have hpk := hok.out.2 p (by rw [hp, List.getD, List.getElem?_eq_getElem (by rw [hl.out]; exact hlt)]; exact List.getElem_mem _)
        clear hp
        obtain ⟨x, y⟩ := p
        simp only at c1 c2 hts hpk D1 D2
        have hfl := flatM_snoc (l.take k) (x, y)
        rw [← hts] at hfl
        have HFL := Lib.hid hfl
        obtain ⟨q1, q2, q3⟩ := hpk
        have hlt2 : (k : Int) < (n : Int) := by omega
        have hk0 : (0 : Int) ≤ (k : Int) := by omega
        obtain ⟨L, hL⟩ : ∃ L, L = flatM (l.take k) := ⟨_, rfl⟩
        rw [← hL] at hj hO HFL
        have hjt : j ≤ t := by rw [hj.out, List.length_take]; omega
        have hszr := hB.out.size
        clear hts hfl hL
        have hone := Lib.hid (show ∀ u ∈ [Value.int .i64 x], u.oneCell' = true by
          intro u hu
          simp only [List.mem_cons, List.not_mem_nil, or_false] at hu
          subst hu
          rfl)
        go_wp2_with fail
        clear c1 c2
        go_loopw [6, 8] (fun o v w3 => ∃ (i j2 : Nat) (A3 : Option Addr) (c3 : Nat), (i : Int) ≤ y ∧ v = .int .i64 (i : Int) ∧ o = .slice A3 j2 c3 ∧ Hid (j2 = ((L ++ List.replicate i x).take t).length) ∧
          Hid (w3.ownsRow w1.heap.size 3 1 (.slice A3 j2 c3) j2 (intCells ((L ++ List.replicate i x).take t))) ∧ Hid (Below w1.heap.size w1 w3)) (fun _ v _ => y.toNat - (RowKit.intOf v).toNat)
        case atStart => exact ⟨0, j, A', c', by omega, rfl, rfl, (by show j = _; rw [List.replicate_zero, List.append_nil]; exact hj.out), (by rw [List.replicate_zero, List.append_nil]; exact hO.out), hB.out⟩
        case round =>
          obtain ⟨i, j2, A3, c3, hiy, rfl, rfl, hj2, hO3, hB3⟩ := hrel
          have d1 := cell_kept hB3.out (cell_kept HB1.out D1.out)
          have d2 := cell_kept hB3.out (cell_kept HB1.out D2.out)
          have hj2t : j2 ≤ t := by rw [hj2.out, List.length_take]; omega
          have hjc : j2 ≤ c3 ∧ c3 ≤ 9223372036854775807 := by
            obtain ⟨_, _, e9, hjc, hc9⟩ := own_form hO3.out
            injection e9 with _ _ e9
            subst e9
            exact ⟨hjc, hc9⟩
          obtain ⟨hjc, hc9⟩ := hjc
          have hs3 := hB3.out.size
          by_cases h1 : (i : Int) < y
          · by_cases h2 : (j2 : Int) < most
            · have hst := Lib.hid (take_step (L := L) (x := x) (k := i) (j := t) (by rw [← hj2.out]; have := HT.out; omega))
              have hlq := Lib.hid (show j2 + 1 = ((L ++ List.replicate (i + 1) x).take t).length by rw [hst.out, List.length_append, ← hj2.out]; rfl)
              go_wp2_with (at_builtin; refine wpList_append_sl ints_ty rfl (.tmp 35) (.tmp 41) rfl w1.heap.size rfl (by exact (World.ownsRow.alloc hO3.out _)) rfl (by exact Sl.new _ _ [Value.int .i64 x] 1 1 rfl (by omega)) hone.out (by omega) (by omega) (by simp; omega) ?_; intro v4 w4 hown4 hg4 hat4; obtain ⟨A4, c4, rfl, _, _⟩ := own_form hown4; have HO4 := Lib.hid hown4; have HG4 := Lib.hid hg4; have HA4 := Lib.hid hat4; clear hown4 hg4 hat4 d1 d2)
              go_roundw
              case rel =>
                refine ⟨i + 1, j2 + 1, A4, c4, by omega, by go_num, rfl, hlq.out, ?_, (hB3.out.alloc hs3 (.cells #[.int .i64 x] 3)).grown HG4.out (by simp; omega) (fun q hq => (hO3.out.lt q hq).1)⟩
                · rw [hst.out, intCells_app]; exact HO4.out
              case measure => simp [RowKit.intOf]; omega
            · have hfu := Lib.hid (take_full (L := L) (x := x) (k := i) (k' := y.toNat) (j := t) (by rw [← hj2.out]; have := HT.out; omega) (by omega))
              rw [← HFL.out] at hfu
              go_wp2
              go_roundw
              case rel =>
                refine ⟨k + 1, j2, A3, c3, by omega, by go_num, rfl, ?_, ?_, hB3.out⟩
                · rw [hfu.out]; exact hj2.out
                · rw [hfu.out]; exact hO3.out
              case measure => simp [RowKit.intOf]; omega
          · have hiy2 : i = y.toNat := by omega
            have hfu := Lib.hid (show (flatM (l.take (k + 1))).take t = (L ++ List.replicate i x).take t by rw [HFL.out, hiy2])
            clear hiy2
            go_wp2
            go_roundw
            case rel =>
              refine ⟨k + 1, j2, A3, c3, by omega, by go_num, rfl, ?_, ?_, hB3.out⟩
              · rw [hfu.out]; exact hj2.out
              · rw [hfu.out]; exact hO3.out
            case measure => simp [RowKit.intOf]; omega
      · go_wp2
        go_ret
        have e1 : l.take k = l := List.take_of_length_le (by rw [hl.out]; omega)
        have h8 := hj.out
        have h9 := hO.out
        rw [e1] at h8 h9
        have e2 : listM l most = (flatM l).take t := by unfold listM; rw [← HR.out, HT.out]; rfl
        unfold ListP
        rw [e2, ← h8]
        exact ⟨A', c', rfl, own_base h9 HB1.out.size, below_then HB1.out hB.out⟩
end Go.Proofs.Ytfnolejghioodaa
