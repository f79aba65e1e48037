/- Law CheckLess. Printed by gen_ckC.py. -/
import Derived.Test.YtaeeblceedklnaaGreatDoorCkM
import Derived.Test.YtaeeblceedklnaaGreatDoorCkK
namespace Go.Proofs.YtaeeblceedklnaaGreatDoor
open Go.RowKit
theorem mem_at {l : List Int} {x : Int} (h : x ∈ l) : ∃ j, j < l.length ∧ l.getD j 0 = x := by
  obtain ⟨j, hj, rfl⟩ := List.mem_iff_getElem.1 h
  exact ⟨j, hj, by simp [List.getD, hj]⟩
theorem at_mem {l : List Int} {j : Nat} (h : j < l.length) : l.getD j 0 ∈ l := by
  have e : l.getD j 0 = l[j] := by simp [List.getD, h]
  rw [e]; exact List.getElem_mem h
section
variable {A1 A2 A3 : Option Addr} {n1 c1 n2 c2 n3 c3 : Nat} {N : Nt}
set_option maxRecDepth 100000 in
set_option maxHeartbeats 8000000 in
theorem law_CheckLess (k : Int) (w : World) (ht : Hid (TabOk w)) (hN : Hid (NetAt w A1 n1 c1 A2 n2 c2 A3 n3 c3 N)) (hL : Hid (NetLen N)) : Calls Tryz.prog 4 #[netV A1 n1 c1 A2 n2 c2 A3 n3 c3 N.from_ N.to_, .int .i64 k] w fun e w' => e = .returned (.bool true) ∧ Below w.heap.size w w' := by
  have hn1 := Nat.le_trans hN.out.cols.1 hN.out.cols.2.1
  have hn2 := Nat.le_trans hN.out.pls.1 hN.out.pls.2.1
  have hn3 := Nat.le_trans hN.out.tks.1 hN.out.tks.2.1
  have HLC := Lib.hid hN.out.cols.2.2.1
  have HLP := Lib.hid hN.out.pls.2.2.1
  have HLT := Lib.hid hN.out.tks.2.2.1
  obtain ⟨w1, hw1⟩ : ∃ x, x = w.alloc (.cells #[.slice A1 n1 c1, .slice A2 n2 c2, .slice A3 n3 c3, .int .i64 N.from_, .int .i64 N.to_] 26) := ⟨_, rfl⟩
  have HB1 := Lib.hid (show Below w.heap.size w w1 by rw [hw1]; exact alr w _)
  have NB1 := Lib.hid (show NBox w1 w.heap.size A1 n1 c1 A2 n2 c2 A3 n3 c3 N.from_ N.to_ by rw [hw1]; exact NBox.new w A1 n1 c1 A2 n2 c2 A3 n3 c3 N.from_ N.to_ 26)
  have HW := Lib.hid hw1.symm
  clear hw1
  go_enter Tryz.func4, Tryz.ntmps4
  go_upto_region 1 with fail
  rw [HW.out]
  go_wp2_with fail
  refine (law_small w1 (Lib.hid (ht.out.below HB1.out))).mono ?_
  rintro e w2 ⟨rfl, hb⟩
  have HB2 := Lib.hid (below_then HB1.out hb)
  have HC2 := Lib.hid hb
  clear hb
  obtain ⟨x0, x1, x2, x3, x4⟩ := NB1.out.below HC2.out
  go_wp2_with fail
  refine (law_NetFew w2 (Lib.hid (hN.out.below HB2.out)) hL).mono ?_
  rintro e w3 ⟨b, rfl, hfew, hb⟩
  have HF := Lib.hid hfew
  have HB3 := Lib.hid (below_then HB2.out hb)
  have HC3 := Lib.hid (below_then HC2.out hb)
  clear hb hfew x0 x1 x2 x3 x4
  cases b with
  | false =>
    go_wp2_with fail
    go_ret
    exact ⟨rfl, HB3.out⟩
  | true =>
  obtain ⟨x0, x1, x2, x3, x4⟩ := NB1.out.below HC3.out
  have HFEW := Lib.hid (HF.out rfl)
  have HSM := Lib.hid HFEW.out.small
  obtain ⟨z1, z2, z3⟩ : n1 ≤ 40 ∧ n2 ≤ 70 ∧ n3 ≤ 70 := ⟨HLC.out ▸ HFEW.out.cols, HLP.out ▸ HFEW.out.pls, HLT.out ▸ HFEW.out.tks⟩
  by_cases hk0 : k < 0
  · go_wp2_with fail
    go_ret
    exact ⟨rfl, HB3.out⟩
  by_cases hk1 : (n3 : Int) ≤ k
  · go_wp2_with fail
    go_ret
    exact ⟨rfl, HB3.out⟩
  obtain ⟨j, rfl⟩ : ∃ j : Nat, k = j := ⟨k.toNat, by omega⟩
  have hj : j < n3 := by omega
  have hj2 : (j : Int) < (n3 : Int) := by omega
  have hj0 : (0 : Int) ≤ (j : Int) := by omega
  clear hk0 hk1
  have hjl : Hid (j < N.tks.length) := Lib.hid (by rw [HLT.out]; exact hj)
  obtain ⟨m, hm⟩ : ∃ m, m + 1 = n3 := ⟨n3 - 1, by omega⟩
  have HM := Lib.hid hm
  clear hm
  obtain ⟨b3, off3, rfl, _⟩ := hN.out.tks.2.2.2 (by omega)
  obtain ⟨xs, hxs, hone⟩ := tk_row hN.out.tks (by omega)
  have HX := Lib.hid hxs
  have HO := Lib.hid hone
  have hnc : n3 ≤ c3 := hN.out.tks.1
  have hc9 : c3 ≤ 9223372036854775807 := hN.out.tks.2.1
  clear hxs hone
  obtain ⟨E, hEE⟩ : ∃ E, E = netE N := ⟨_, rfl⟩
  have cN := ck_Net w3 (Lib.hid (ht.out.below HB3.out)) (Lib.hid (hN.out.below HB3.out)) HSM
  rw [← hEE] at cN
  have HE := Lib.hid hEE
  obtain ⟨E1, E2, E3⟩ := E
  have CN := Lib.hid cN
  clear cN hEE HF
  go_wp2_with fail
  refine CN.out.mono ?_
  rintro e w4 ⟨rfl, hb⟩
  have HB5 := Lib.hid (below_then (below_then HB3.out hb) (alr w4 (.cells #[.int .i64 E1, .int .i64 E2] 30)))
  have HC5 := Lib.hid (below_then (below_then HC3.out hb) (alr w4 (.cells #[.int .i64 E1, .int .i64 E2] 30)))
  obtain ⟨w5, hw5⟩ : ∃ y, y = w4.alloc (.cells #[.int .i64 E1, .int .i64 E2] 30) := ⟨_, rfl⟩
  obtain ⟨g4, hg4⟩ : ∃ y, y = w4.heap.size := ⟨_, rfl⟩
  rw [← hw5] at HB5 HC5
  have HW5 := Lib.hid hw5.symm
  have HG4 := Lib.hid hg4.symm
  clear hb hw5 hg4 x0 x1 x2 x3 x4 CN
  go_upto_region 6 with fail
  rw [HW5.out, HG4.out]
  obtain ⟨x0, x1, x2, x3, x4⟩ := NB1.out.below HC5.out
  have R6 := Lib.hid (heap_alloc_new w5 (.cells #[.slice A1 n1 c1, .slice A2 n2 c2, .slice (some ⟨b3, off3, none⟩) n3 c3, .int .i64 N.from_, .int .i64 N.to_] 26))
  have HB6 := Lib.hid (below_then HB5.out (alr w5 (.cells #[.slice A1 n1 c1, .slice A2 n2 c2, .slice (some ⟨b3, off3, none⟩) n3 c3, .int .i64 N.from_, .int .i64 N.to_] 26)))
  have HC6 := Lib.hid (below_then HC5.out (alr w5 (.cells #[.slice A1 n1 c1, .slice A2 n2 c2, .slice (some ⟨b3, off3, none⟩) n3 c3, .int .i64 N.from_, .int .i64 N.to_] 26)))
  have L6 := Lib.hid (show w5.heap.size < (w5.alloc (.cells #[.slice A1 n1 c1, .slice A2 n2 c2, .slice (some ⟨b3, off3, none⟩) n3 c3, .int .i64 N.from_, .int .i64 N.to_] 26)).heap.size by rw [World.size_alloc]; omega)
  have G6 := Lib.hid (show w1.heap.size ≤ w5.heap.size from HC5.out.size)
  obtain ⟨w6, hw6⟩ : ∃ y, y = w5.alloc (.cells #[.slice A1 n1 c1, .slice A2 n2 c2, .slice (some ⟨b3, off3, none⟩) n3 c3, .int .i64 N.from_, .int .i64 N.to_] 26) := ⟨_, rfl⟩
  obtain ⟨g9, hg9⟩ : ∃ y, y = w5.heap.size := ⟨_, rfl⟩
  rw [← hw6] at R6 HB6 HC6 L6
  rw [← hg9] at R6 L6 G6
  have HW6 := Lib.hid hw6.symm
  have HG9 := Lib.hid hg9.symm
  clear hw6 hg9
  go_upto_region 7 with fail
  rw [HW6.out, HG9.out]
  clear x0 x1 x2 x3 x4
  have q2 := (NB1.out.below HC6.out).c2
  have T0 := HX.out.below HB6.out
  have T1 := Lib.hid (T0.takeN (k := j) (by omega))
  have T2 := Lib.hid (T0.dropN (k := j + 1) (by omega))
  have O1 := Lib.hid (fun u (hu : u ∈ xs.take (j * 14)) => HO.out u (List.mem_of_mem_take hu))
  have O2 := Lib.hid (fun u (hu : u ∈ xs.drop ((j + 1) * 14)) => HO.out u (List.mem_of_mem_drop hu))
  obtain ⟨D, hD⟩ : ∃ D, (if c3 = j + 1 then some ⟨b3, off3, none⟩ else some ⟨b3, off3 + (j + 1) * 14, none⟩) = D ∧ dropN (some ⟨b3, off3, none⟩) c3 (j + 1) 14 = D := ⟨_, rfl, by unfold dropN; simp [Go.WideShapes.add_plain]⟩
  obtain ⟨hD1, hD2⟩ := hD
  rw [hD2] at T2
  have d1 : IntKind.i64.wrap ((j : Int) + 1) = ((j + 1 : Nat) : Int) := by rw [show (j : Int) + 1 = ((j + 1 : Nat) : Int) by omega]; exact IntWalk.i64_in _ (by omega)
  have hjc : j ≤ c3 := by omega
  have hjn : j + 1 ≤ n3 := by omega
  have hk1 : 0 ≤ (j : Int) + 1 := by omega
  have hk3 : (j : Int) + 1 ≤ (n3 : Int) := by omega
  have f9 : w6.frozen? ⟨g9, 2, none⟩ = false := frozen_row2 R6.out
  have F9 := Lib.hid f9
  have Q9 := Lib.hid (show w6.cell? ⟨g9, 2, none⟩ = some (.slice (some ⟨b3, off3, none⟩) n3 c3) by rw [cell_of_row _ _ _ _ _ _ R6.out]; rfl)
  have hlt6 : w.heap.size < w6.heap.size := World.block_lt_of_cell? w6 _ q2
  clear T0 hD2 f9
  go_cut [53] (fun s53 wx => ∃ A4 c4, True ∧ Hid (NBox wx g9 A1 n1 c1 A2 n2 c2 A4 m c4 N.from_ N.to_) ∧ Hid (SlOf 14 TkAt wx A4 m c4 (lessT N j).tks) ∧ Hid (Below w1.heap.size w1 wx))
  case first =>
    go_region_law (first
      | (refine step_append_sl tasks_ty rfl (.tmp 42) (.tmp 46) rfl w6.heap.size rfl (by exact own_drew (freshN _ _ _ _ 14 rfl (Nat.le_refl _))) rfl (by exact T1.out.below ((Below.refl _ w6).alloc (Nat.le_refl _) _).drew) O1.out (by omega) (by omega) (by simp) ?_; intro v1 y1 hown1 hg1 hat1; have hb1 : Below w6.heap.size w6 y1 := (((Below.refl _ w6).alloc (Nat.le_refl _) _).drew).grown hg1 (by simp) (fun q hq => by cases hq; exact Nat.le_refl _); have BD1 := Lib.hid hb1; have q1 := cell_kept hb1 q2; have HO1 := Lib.hid hown1; clear hown1 hg1 hat1 hb1)
      | (refine step_append_sl tasks_ty rfl (.tmp 47) (.tmp 52) rfl w6.heap.size rfl (by exact HO1.out) rfl (by exact T2.out.below BD1.out) O2.out (by omega) (by omega) BD1.out.size ?_; intro v2 y2 hown2 hg2 hat2; have hb2 : Below w6.heap.size w6 y2 := BD1.out.grown hg2 BD1.out.size (fun q hq => (HO1.out.lt q hq).1); obtain ⟨A4, c4, rfl⟩ := own_formN hown2; have BD2 := Lib.hid hb2; have f2 : y2.frozen? ⟨g9, 2, none⟩ = false := (hb2.frozen L6.out).trans F9.out; have q9 := cell_kept hb2 Q9.out; have HO2 := Lib.hid hown2; clear hown2 hg2 hat2 hb2))
    all_goals
      go_wp2_with fail
      go_meet
      have ho := HO2.out
      rw [List.nil_append, Nat.zero_add, show j + (n3 - (j + 1)) = m by have := HM.out; omega] at ho
      have hwf : Below w.heap.size w (y2.setCell ⟨g9, 2, none⟩ (.slice A4 m c4)) := (below_then HB6.out BD2.out).setCell (by have := HB5.out.size; have := HG9.out; show w.heap.size ≤ g9; omega) _
      have hcf : Below w1.heap.size w1 (y2.setCell ⟨g9, 2, none⟩ (.slice A4 m c4)) := (below_then HC6.out BD2.out).setCell (by have := G6.out; show w1.heap.size ≤ g9; omega) _
      have em : j + (n3 - (j + 1)) = m := by have := HM.out; omega
      rw [em]
      exact ⟨A4, c4, trivial, Lib.hid (NBox.set2 ((BD2.out.block _ L6.out).trans R6.out)), Lib.hid (tk_less hN.out.tks hj HX.out hwf HM.out (Sl.of_own (own_set ho L6.out 2 _))), Lib.hid hcf⟩
  case rest =>
    obtain ⟨A4, c4, _, HNB, HTK, HCX⟩ := hcut
    have HWX := Lib.hid (below_then HB1.out HCX.out)
    have HN4 := Lib.hid (show NetAt wc A1 n1 c1 A2 n2 c2 A4 m c4 (lessT N j) from ⟨hN.out.cols.below HWX.out, hN.out.pls.below PlAt.stays HWX.out, HTK.out, hN.out.i4, hN.out.i5⟩)
    have HF4 := Lib.hid (HFEW.out.less hjl.out)
    have hm3 : m ≤ 70 := by have := HM.out; omega
    clear q2 T1 T2 O1 O2 hD1 d1 hjc hjn hk1 hk3 F9 Q9 hlt6 R6 L6 G6 HW6 HG9 HB6 HC6 HX HO hj2 hj0
    obtain ⟨x0, x1, x2, x3, x4⟩ := HNB.out
    obtain ⟨F, hFF⟩ : ∃ F, F = netE (lessT N j) := ⟨_, rfl⟩
    have cN := ck_Net (N := lessT N j) wc (Lib.hid (ht.out.below HWX.out)) HN4 (Lib.hid HF4.out.small)
    rw [← hFF] at cN
    have HF := Lib.hid hFF
    obtain ⟨F1, F2, F3⟩ := F
    have CN := Lib.hid (show Calls Tryz.prog 9 #[netV A1 n1 c1 A2 n2 c2 A4 m c4 N.from_ N.to_] wc fun e w' => e = .returned (.tuple #[.agg #[.int .i64 F1, .int .i64 F2], .int .i64 F3]) ∧ Below wc.heap.size wc w' from cN)
    have HOK := Lib.hid (show E3 = 0 → F3 = 0 from fun h => by
      have h1 := netE_ok.1 (show (netE N).2.2 = 0 by rw [← HE.out]; exact h)
      have h2 := netE_ok.2 (less_ok hjl.out h1)
      rw [← HF.out] at h2
      exact h2)
    clear cN hFF
    go_wp2_with fail
    refine CN.out.mono ?_
    rintro e y4 ⟨rfl, hb⟩
    have HB5' := Lib.hid (below_then hb (alr y4 (.cells #[.int .i64 F1, .int .i64 F2] 30)))
    obtain ⟨y5, hy5⟩ : ∃ y, y = y4.alloc (.cells #[.int .i64 F1, .int .i64 F2] 30) := ⟨_, rfl⟩
    obtain ⟨g5, hg5⟩ : ∃ y, y = y4.heap.size := ⟨_, rfl⟩
    rw [← hy5] at HB5'
    have HW5' := Lib.hid hy5.symm
    have HG5 := Lib.hid hg5.symm
    clear hb hy5 hg5 x0 x1 x2 x3 x4 CN
    go_upto_region 9 with fail
    rw [HW5'.out, HG5.out]
    have HY5 := Lib.hid (below_then HWX.out HB5'.out)
    have cR := ck_Reached y5 (Lib.hid (hN.out.below HY5.out)) (by omega) (by have := HFEW.out.left n3 (by rw [HLT.out]; exact Nat.le_refl _); omega)
    have CR := Lib.hid cR
    clear cR
    obtain ⟨x0, x1, x2, x3, x4⟩ := NB1.out.below (below_then HCX.out HB5'.out)
    go_wp2_with fail
    refine CR.out.mono ?_
    rintro e y6 ⟨PA, pc, p, TA, tc, t, rfl, hp, htk, hsp, hst, hb⟩
    have HB6 := Lib.hid (below_then HB5'.out hb)
    have HY6 := Lib.hid (below_then HWX.out HB6.out)
    have cR := ck_Reached (N := lessT N j) y6 (Lib.hid (HN4.out.below HB6.out)) (by omega) (by have := HF4.out.left m (by have := less_len hjl.out; have := HM.out; have := HLT.out; omega); omega)
    have CR2 := Lib.hid (show Calls Tryz.prog 15 #[netV A1 n1 c1 A2 n2 c2 A4 m c4 N.from_ N.to_] y6 (ReachedP (lessT N j) y6) from cR)
    have HP := Lib.hid hp
    have HTT := Lib.hid htk
    have HSP := Lib.hid hsp
    clear cR hp htk hsp hst hb x0 x1 x2 x3 x4 CR
    obtain ⟨x0, x1, x2, x3, x4⟩ := HNB.out.below HB6.out
    go_wp2_with fail
    refine CR2.out.mono ?_
    rintro e y7 ⟨QA, qc, q, UA, uc, v, rfl, hq, hv, hsq, hsv, hb⟩
    obtain ⟨l1, l2, l3⟩ := less_lens hjl.out HP.out HTT.out hq hv
    have HSQ := Lib.hid hsq
    have HSP7 := Lib.hid (HSP.out.below hb)
    have HY7 := Lib.hid (below_then HY6.out hb)
    have L3 := Lib.hid l3
    clear hq hv hsq hsv hb x0 x1 x2 x3 x4 CR2 l3 HP HTT HSP
    obtain ⟨np, hnp⟩ : ∃ z, z = p.length := ⟨_, rfl⟩
    obtain ⟨nq, hnq⟩ : ∃ z, z = q.length := ⟨_, rfl⟩
    obtain ⟨nt, hnt⟩ : ∃ z, z = t.length := ⟨_, rfl⟩
    obtain ⟨nv, hnv⟩ : ∃ z, z = v.length := ⟨_, rfl⟩
    rw [← hnp] at l1 HSP7
    rw [← hnq] at l1 HSQ
    rw [← hnt, ← hnv] at l2
    rw [← hnp, ← hnq, ← hnt, ← hnv]
    have NP := Lib.hid hnp.symm
    have NQ := Lib.hid hnq.symm
    have bp := HSP7.out.bound
    have bq := HSQ.out.bound
    have b1 : ¬ ((np : Int) < (nq : Int)) := by omega
    have b2 : ¬ ((nt : Int) < (nv : Int)) := by omega
    clear hnp hnq hnt hnv
    go_upto_region 11 with fail
    go_cut [89] (fun s89 wx => s89 = .bool false ∧ wx = y7)
    case first =>
      by_cases h0 : E3 = 0
      · have h1 := HOK.out h0
        subst h0
        subst h1
        go_wp2_with fail
        go_meet
        exact ⟨by first | rfl | (simp; omega), rfl⟩
      · have z0 : (E3 == 0) = false := by simpa using h0
        clear h0
        go_wp2_with fail
        go_meet
        exact ⟨by first | rfl | (simp; omega), rfl⟩
    case rest =>
      obtain ⟨rfl, e7⟩ := hcut
      rw [e7]
      clear b1 b2 e7
      go_wp2_with fail
      go_loopw [16] (fun v16 wr => ∃ (i : Nat), i ≤ nq ∧ v16 = .int .i64 (i : Int) ∧ Hid (Below y7.heap.size y7 wr)) (fun v16 _ => nq - (intOf v16).toNat)
      case atStart => exact ⟨0, by omega, rfl, Lib.hid (Below.refl _ _)⟩
      case round =>
        obtain ⟨i, hi, rfl, hB⟩ := hrel
        by_cases hit : i < nq
        · have i1 : (i : Int) < (nq : Int) := by omega
          have i0 : (0 : Int) ≤ (i : Int) := by omega
          go_wp2_with fail
          go_loopw [17, 18] (fun v17 v18 wx => ∃ (u : Nat) (y : Bool), u ≤ np ∧ v18 = .int .i64 (u : Int) ∧ v17 = .bool y ∧ Hid (y = false → ∀ a, a < u → p.getD a 0 ≠ q.getD i 0) ∧ Hid (Below y7.heap.size y7 wx)) (fun _ v18 _ => np - (intOf v18).toNat)
          case atStart => exact ⟨0, false, by omega, rfl, rfl, Lib.hid (fun _ a ha => absurd ha (Nat.not_lt_zero _)), hB⟩
          case round =>
            obtain ⟨u, y, hu, rfl, rfl, hne, hB2⟩ := hrel
            by_cases hut : u < np
            · obtain ⟨bp1, op1, rfl, ep⟩ := (HSP7.out.below hB2.out).int_at' hut
              obtain ⟨bq1, oq1, rfl, eq⟩ := (HSQ.out.below hB2.out).int_at' hit
              have u1 : (u : Int) < (np : Int) := by omega
              have u0 : (0 : Int) ≤ (u : Int) := by omega
              obtain ⟨x, hx⟩ : ∃ x, x = p.getD u 0 := ⟨_, rfl⟩
              obtain ⟨z, hz⟩ : ∃ z, z = q.getD i 0 := ⟨_, rfl⟩
              rw [← hx] at ep
              rw [← hz] at eq
              have HX := Lib.hid hx
              have HZ := Lib.hid hz
              clear hx hz
              cases y with
              | true =>
                go_wp2
                go_quiet (fail)
                go_wp2
                go_roundw
                case rel => exact ⟨u + 1, true, by omega, by go_num, rfl, Lib.hid (fun h => by cases h), Lib.hid (below_drewN' hB2.out _)⟩
                case measure => simp [intOf]; omega
              | false =>
                rcases hxz : (x == z) with _ | _
                · have HXZ := Lib.hid hxz
                  clear hxz
                  have hxz := HXZ.out
                  go_wp2
                  go_quiet (fail)
                  go_wp2
                  go_roundw
                  case rel =>
                    refine ⟨u + 1, _, by omega, by go_num, rfl, Lib.hid (fun _ a ha => ?_), Lib.hid (below_drewN' hB2.out _)⟩
                    by_cases e : a = u
                    · rw [e, ← HX.out, ← HZ.out]
                      simpa using HXZ.out
                    · exact hne.out (by trivial) a (by omega)
                  case measure => simp [intOf]; omega
                · go_wp2
                  go_quiet (fail)
                  go_wp2
                  go_roundw
                  case rel => exact ⟨u + 1, true, by omega, by go_num, rfl, Lib.hid (fun h => by cases h), Lib.hid (below_drewN' hB2.out _)⟩
                  case measure => simp [intOf]; omega
            · have eu : u = np := by omega
              subst eu
              cases y with
              | false =>
                exfalso
                obtain ⟨a, ha, hae⟩ := mem_at (L3.out _ (at_mem (l := q) (j := i) (by rw [NQ.out]; exact hit)))
                exact hne.out rfl a (by rw [NP.out] at ha; exact ha) hae
              | true =>
                go_wp2_with fail
                go_roundw
                case rel => exact ⟨i + 1, by omega, by go_num, hB2⟩
                case measure => simp [intOf]; omega
        · have ei : i = nq := by omega
          subst ei
          have HZ := Lib.hid (below_then HY7.out hB.out)
          go_wp2_with fail
          go_ret
          exact ⟨rfl, HZ.out⟩
end
end Go.Proofs.YtaeeblceedklnaaGreatDoor
