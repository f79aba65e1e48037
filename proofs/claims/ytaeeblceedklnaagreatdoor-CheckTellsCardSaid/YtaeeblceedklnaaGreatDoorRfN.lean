/- The document's answer: Task for any number, Net. Printed by gen_rfN.py. -/
import Derived.Test.YtaeeblceedklnaaGreatDoorRfT
import Derived.Test.YtaeeblceedklnaaGreatDoorCkH
namespace Go.Proofs.YtaeeblceedklnaaGreatDoor
open Go.RowKit
section
variable {A1 A2 A3 : Option Addr} {n1 c1 n2 c2 n3 c3 : Nat} {N : Nt}
set_option maxRecDepth 100000 in
set_option maxHeartbeats 1000000 in
theorem rf_Task (k : Int) (w : World) (hN : Hid (NetAt w A1 n1 c1 A2 n2 c2 A3 n3 c3 N)) (hF : Hid (SmallN N)) :
    Calls Tryz.prog 14 #[netV A1 n1 c1 A2 n2 c2 A3 n3 c3 N.from_ N.to_, .int .i64 k] w fun e w' => e = .returned (.int .i64 (taskE N k)) ∧ Below w.heap.size w w' := by
  have hlt := hN.out.tks.2.2.1
  by_cases hk : 0 ≤ k ∧ k < (n3 : Int)
  · obtain ⟨j, rfl⟩ : ∃ j : Nat, k = j := ⟨k.toNat, by omega⟩
    have := rf_Task_in j w (by omega) hN (Lib.hid (hF.out j (by omega)))
    unfold taskE
    rw [hlt, if_pos (among_iff.2 hk), Int.toNat_natCast]
    exact this
  · have hf : amongB n3 k = false := by rw [← Bool.not_eq_true, among_iff]; exact hk
    have HE := Lib.hid (show taskE N k = 3 by unfold taskE; rw [hlt, hf]; rfl)
    have hn3 := Nat.le_trans hN.out.tks.1 hN.out.tks.2.1
    have HB1 := Lib.hid (alr w (.cells #[.slice A1 n1 c1, .slice A2 n2 c2, .slice A3 n3 c3, .int .i64 N.from_, .int .i64 N.to_] 26))
    clear hf hlt
    by_cases h0 : k < 0
    · go_enter Tryz.func14, Tryz.ntmps14
      go_wp2
      go_ret
      exact ⟨ret1 HE.out.symm, HB1.out⟩
    · have h1 : (n3 : Int) ≤ k := by omega
      clear hk
      go_enter Tryz.func14, Tryz.ntmps14
      go_wp2
      go_ret
      exact ⟨ret1 HE.out.symm, HB1.out⟩
set_option maxRecDepth 100000 in
set_option maxHeartbeats 16000000 in
theorem rf_Net (w : World) (hN : Hid (NetAt w A1 n1 c1 A2 n2 c2 A3 n3 c3 N)) (hF : Hid (SmallN N)) :
    Calls Tryz.prog 10 #[netV A1 n1 c1 A2 n2 c2 A3 n3 c3 N.from_ N.to_] w fun e w' => e = .returned (.tuple #[.agg #[.int .i64 (netE N).1, .int .i64 (netE N).2.1], .int .i64 (netE N).2.2]) ∧ Below w.heap.size w w' := by
  have hn2 := Nat.le_trans hN.out.pls.1 hN.out.pls.2.1
  have hn3 := Nat.le_trans hN.out.tks.1 hN.out.tks.2.1
  have HLP := Lib.hid hN.out.pls.2.2.1
  have HLT := Lib.hid hN.out.tks.2.2.1
  obtain ⟨E, hEE⟩ : ∃ E, E = netE N := ⟨_, rfl⟩
  rw [← hEE]
  have HEA := Lib.hid (show E = if firstE [(decide (n2 ≤ 64) && decide (n3 ≤ 64), 2), (amongB n2 N.from_ && amongB n2 N.to_, 3), (!decide (N.from_ = N.to_), 1)] = 0 then
      if (colsE N.cols).2 = 0 then
        if (eachE (fun k => placeE N k) n2).2 = 0 then
          if (eachE (fun k => taskE N k) n3).2 = 0 then (0, 0, 0) else (4, eachE (fun k => taskE N k) n3)
        else (3, eachE (fun k => placeE N k) n2)
      else (2, colsE N.cols)
    else (1, 0, firstE [(decide (n2 ≤ 64) && decide (n3 ≤ 64), 2), (amongB n2 N.from_ && amongB n2 N.to_, 3), (!decide (N.from_ = N.to_), 1)]) by
    rw [hEE]; unfold netE headE; rw [HLP.out, HLT.out])
  obtain ⟨E1, E2, E3⟩ := E
  clear hEE
  have SZ1 := Lib.hid (show (w.alloc (.cells #[.slice A1 n1 c1, .slice A2 n2 c2, .slice A3 n3 c3, .int .i64 N.from_, .int .i64 N.to_] 26)).heap.size = w.heap.size + 1 from World.size_alloc _ _)
  have CC := Lib.hid (fun W (h : Below w.heap.size w W) => rf_colours W (Lib.hid (hN.out.below h)))
  have CF := Lib.hid (fun W => rf_isPlace (A1 := A1) (n1 := n1) (c1 := c1) (A2 := A2) (n2 := n2) (c2 := c2) (A3 := A3) (n3 := n3) (c3 := c3) N.from_ N.to_ N.from_ W)
  have CT := Lib.hid (fun W => rf_isPlace (A1 := A1) (n1 := n1) (c1 := c1) (A2 := A2) (n2 := n2) (c2 := c2) (A3 := A3) (n3 := n3) (c3 := c3) N.from_ N.to_ N.to_ W)
  obtain ⟨g1, hg1⟩ : ∃ x, x = amongB n2 N.from_ := ⟨_, rfl⟩
  obtain ⟨g2, hg2⟩ : ∃ x, x = amongB n2 N.to_ := ⟨_, rfl⟩
  rw [← hg1, ← hg2] at HEA
  rw [← hg1] at CF
  rw [← hg2] at CT
  clear hg1 hg2
  go_enter Tryz.func10, Tryz.ntmps10
  go_upto_region 1 with fail
  obtain ⟨w1, hw1⟩ : ∃ x, x = (w.alloc (.cells #[.slice A1 n1 c1, .slice A2 n2 c2, .slice A3 n3 c3, .int .i64 N.from_, .int .i64 N.to_] 26)).alloc (.cells #[.int .i64 0, .int .i64 0] 30) := ⟨_, rfl⟩
  rw [← hw1]
  have HB1 := Lib.hid (show Below w.heap.size w w1 by rw [hw1]; exact below_then (alr w _) (alr _ _))
  have NB1 := Lib.hid (show NBox w1 w.heap.size A1 n1 c1 A2 n2 c2 A3 n3 c3 N.from_ N.to_ by rw [hw1]; exact (NBox.new w A1 n1 c1 A2 n2 c2 A3 n3 c3 N.from_ N.to_ 26).below (alr _ _))
  have R0 := Lib.hid (show w1.heap[w.heap.size + 1]? = some (.cells #[.int .i64 0, .int .i64 0] 30 (0, 0)) by rw [hw1]; exact SZ1.out ▸ heap_alloc_new (w.alloc (.cells #[.slice A1 n1 c1, .slice A2 n2 c2, .slice A3 n3 c3, .int .i64 N.from_, .int .i64 N.to_] 26)) _)
  have L1 := Lib.hid (show w.heap.size + 1 < w1.heap.size by rw [hw1, World.size_alloc, World.size_alloc]; omega)
  clear hw1
  go_upto_region 2 with fail
  obtain ⟨w2, hw2⟩ : ∃ x, x = w1.alloc (.cells #[.int .i64 1, .int .i64 0] 30) := ⟨_, rfl⟩
  obtain ⟨gp, hgp⟩ : ∃ y, y = w1.heap.size := ⟨_, rfl⟩
  rw [← hw2, ← hgp]
  have HC2 := Lib.hid (show Below w1.heap.size w1 w2 by rw [hw2]; exact alr _ _)
  have HB2 := Lib.hid (below_then HB1.out HC2.out)
  have PA := Lib.hid (show w2.cell? ⟨gp, 0, none⟩ = some (.int .i64 1) ∧ w2.cell? ⟨gp, 1, none⟩ = some (.int .i64 0) by rw [hw2, hgp]; exact ⟨cell_new w1 _ _ 0 _ rfl, cell_new w1 _ _ 1 _ rfl⟩)
  clear hw2 hgp
  obtain ⟨x0, x1, x2, x3, x4⟩ := NB1.out.below HC2.out
  obtain ⟨p0, p1⟩ := PA.out
  obtain ⟨r0, r1, r2, r3⟩ := blk2 R0.out HC2.out L1.out
  by_cases s1 : (64 : Int) < (n2 : Int)
  · have HE := Lib.hid (show (E1, E2, E3) = ((1 : Int), (0 : Int), (2 : Int)) by rw [HEA.out, decide_eq_false (show ¬ n2 ≤ 64 by omega)]; rfl)
    have hE := HE.out
    injection hE with q1 hE
    injection hE with q2 q3
    have Q1 := Lib.hid q1
    have Q2 := Lib.hid q2
    have Q3 := Lib.hid q3
    clear q1 q2 q3
    go_wp2_with fail
    refine bodyPost_ret (by rw [results_cell_tmp rfl]; go_simp; rfl) rfl ?_
    refine ⟨ret3p Q1.out.symm Q2.out.symm Q3.out.symm, ?_⟩
    exact ((HB2.out).setCell (Nat.le_succ _) _).setCell (Nat.le_succ _) _

  by_cases s2 : (64 : Int) < (n3 : Int)
  · have HE := Lib.hid (show (E1, E2, E3) = ((1 : Int), (0 : Int), (2 : Int)) by rw [HEA.out, decide_eq_false (show ¬ n3 ≤ 64 by omega), Bool.and_false]; rfl)
    have hE := HE.out
    injection hE with q1 hE
    injection hE with q2 q3
    have Q1 := Lib.hid q1
    have Q2 := Lib.hid q2
    have Q3 := Lib.hid q3
    clear q1 q2 q3
    go_wp2_with fail
    refine bodyPost_ret (by rw [results_cell_tmp rfl]; go_simp; rfl) rfl ?_
    refine ⟨ret3p Q1.out.symm Q2.out.symm Q3.out.symm, ?_⟩
    exact ((HB2.out).setCell (Nat.le_succ _) _).setCell (Nat.le_succ _) _

  rw [decide_eq_true (show n2 ≤ 64 by omega), decide_eq_true (show n3 ≤ 64 by omega)] at HEA
  go_wp2_with fail
  refine (CF.out _).mono ?_
  rintro e w3 ⟨rfl, hb⟩
  have HB3 := Lib.hid (below_then HB2.out hb)
  have HC3 := Lib.hid (below_then HC2.out hb)
  have P3 := Lib.hid (And.intro (cell_kept hb p0) (cell_kept hb p1))
  clear hb x0 x1 x2 x3 x4 r0 r1 r2 r3 p0 p1 s1 s2
  obtain ⟨p0, p1⟩ := P3.out
  cases g1 with
  | false =>
    have HE := Lib.hid (show (E1, E2, E3) = ((1 : Int), (0 : Int), (3 : Int)) from HEA.out)
    have hE := HE.out
    injection hE with q1 hE
    injection hE with q2 q3
    have Q1 := Lib.hid q1
    have Q2 := Lib.hid q2
    have Q3 := Lib.hid q3
    clear q1 q2 q3
    obtain ⟨r0, r1, r2, r3⟩ := blk2 R0.out HC3.out L1.out
    go_wp2_with fail
    refine bodyPost_ret (by rw [results_cell_tmp rfl]; go_simp; rfl) rfl ?_
    refine ⟨ret3p Q1.out.symm Q2.out.symm Q3.out.symm, ?_⟩
    exact ((HB3.out).setCell (Nat.le_succ _) _).setCell (Nat.le_succ _) _
  | true =>
  obtain ⟨x0, x1, x2, x3, x4⟩ := NB1.out.below HC3.out
  go_wp2_with fail
  refine (CT.out _).mono ?_
  rintro e w4 ⟨rfl, hb⟩
  have HB4 := Lib.hid (below_then HB3.out hb)
  have HC4 := Lib.hid (below_then HC3.out hb)
  have P4 := Lib.hid (And.intro (cell_kept hb p0) (cell_kept hb p1))
  clear hb x0 x1 x2 x3 x4 p0 p1
  obtain ⟨p0, p1⟩ := P4.out
  obtain ⟨r0, r1, r2, r3⟩ := blk2 R0.out HC4.out L1.out
  cases g2 with
  | false =>
    have HE := Lib.hid (show (E1, E2, E3) = ((1 : Int), (0 : Int), (3 : Int)) from HEA.out)
    have hE := HE.out
    injection hE with q1 hE
    injection hE with q2 q3
    have Q1 := Lib.hid q1
    have Q2 := Lib.hid q2
    have Q3 := Lib.hid q3
    clear q1 q2 q3
    go_wp2_with fail
    refine bodyPost_ret (by rw [results_cell_tmp rfl]; go_simp; rfl) rfl ?_
    refine ⟨ret3p Q1.out.symm Q2.out.symm Q3.out.symm, ?_⟩
    exact ((HB4.out).setCell (Nat.le_succ _) _).setCell (Nat.le_succ _) _
  | true =>
  obtain ⟨x0, x1, x2, x3, x4⟩ := NB1.out.below HC4.out
  by_cases hft : N.from_ = N.to_
  · have HE := Lib.hid (show (E1, E2, E3) = ((1 : Int), (0 : Int), (1 : Int)) by rw [HEA.out, decide_eq_true hft]; rfl)
    have z0 : (N.from_ == N.to_) = true := by simpa using hft
    clear hft
    have hE := HE.out
    injection hE with q1 hE
    injection hE with q2 q3
    have Q1 := Lib.hid q1
    have Q2 := Lib.hid q2
    have Q3 := Lib.hid q3
    clear q1 q2 q3
    go_wp2_with fail
    refine bodyPost_ret (by rw [results_cell_tmp rfl]; go_simp; rfl) rfl ?_
    refine ⟨ret3p Q1.out.symm Q2.out.symm Q3.out.symm, ?_⟩
    exact ((HB4.out).setCell (Nat.le_succ _) _).setCell (Nat.le_succ _) _

  have z0 : (N.from_ == N.to_) = false := by simpa using hft
  rw [decide_eq_false hft] at HEA
  have HEB := Lib.hid (show (E1, E2, E3) = if (colsE N.cols).2 = 0 then
        if (eachE (fun k => placeE N k) n2).2 = 0 then
          if (eachE (fun k => taskE N k) n3).2 = 0 then ((0 : Int), (0 : Int), (0 : Int)) else (4, eachE (fun k => taskE N k) n3)
        else (3, eachE (fun k => placeE N k) n2)
      else (2, colsE N.cols) from HEA.out)
  have cC := CC.out w4 HB4.out
  by_cases h0 : (colsE N.cols).2 = 0
  case neg =>
    have h8 := colsR_no h0
    have HE := Lib.hid (show (E1, E2, E3) = ((2 : Int), colsR N.cols, (8 : Int)) by
      rw [HEB.out, if_neg h0]
      have e : colsE N.cols = (colsR N.cols, 8) := by
        rw [Prod.ext_iff]
        refine ⟨?_, (colsE_8 h0).1⟩
        unfold colsR
        rw [if_neg h0]
      rw [e])
    obtain ⟨y, hy⟩ : ∃ y, y = colsR N.cols := ⟨_, rfl⟩
    rw [← hy] at cC h8 HE
    have CC4 := Lib.hid cC
    clear hy cC h0 hft HEA HEB r0 r1 r2 r3 p0 p1
    have hE := HE.out
    injection hE with q1 hE
    injection hE with q2 q3
    have Q1 := Lib.hid q1
    have Q2 := Lib.hid q2
    have Q3 := Lib.hid q3
    clear q1 q2 q3
    go_wp2_with fail
    refine CC4.out.mono ?_
    rintro e w5 ⟨rfl, hb⟩
    have HB5 := Lib.hid (below_then HB4.out hb)
    obtain ⟨r0, r1, r2, r3⟩ := blk2 R0.out (below_then HC4.out hb) L1.out
    clear hb x0 x1 x2 x3 x4
    go_wp2_with fail
    refine bodyPost_ret (by rw [results_cell_tmp rfl]; go_simp; rfl) rfl ?_
    refine ⟨ret3p Q1.out.symm Q2.out.symm Q3.out.symm, ?_⟩
    exact ((HB5.out).setCell (Nat.le_succ _) _).setCell (Nat.le_succ _) _
  case pos =>
  rw [colsR_yes h0] at cC
  rw [if_pos h0] at HEB
  have CC4 := Lib.hid cC
  clear cC h0 hft HEA r0 r1 r2 r3 p0 p1
  go_wp2_with fail
  refine CC4.out.mono ?_
  rintro e w5 ⟨rfl, hb⟩
  have HB5 := Lib.hid (below_then HB4.out hb)
  have HC5 := Lib.hid (below_then HC4.out hb)
  clear hb x0 x1 x2 x3 x4 z0
  go_wp2_with fail
  go_loopw [6] (fun v6 wx => ∃ (u : Nat), u ≤ n2 ∧ v6 = .int .i64 (u : Int) ∧ Hid (Below w5.heap.size w5 wx) ∧ Hid (∀ a, a < u → placeE N (a : Int) = 0)) (fun v6 _ => n2 - (intOf v6).toNat)
  case atStart => exact ⟨0, by omega, rfl, Lib.hid (Below.refl _ _), Lib.hid fun a ha => absurd ha (Nat.not_lt_zero _)⟩
  case round =>
    obtain ⟨u, hu, rfl, hB, hno⟩ := hrel
    have HBW := Lib.hid (below_then HB5.out hB.out)
    have HCW := Lib.hid (below_then HC5.out hB.out)
    obtain ⟨x0, x1, x2, x3, x4⟩ := NB1.out.below HCW.out
    by_cases hut : u < n2
    · have u1 : (u : Int) < (n2 : Int) := by omega
      have cP := rf_Place (u : Int) wr (Lib.hid (hN.out.below HBW.out))
      obtain ⟨y, hy⟩ : ∃ y, y = placeE N (u : Int) := ⟨_, rfl⟩
      rw [← hy] at cP
      have HY := Lib.hid hy
      have CPU := Lib.hid cP
      clear hy cP
      by_cases hv : y = 0
      case neg =>
        have z0 : (y == 0) = false := by simpa using hv
        have z1 : (y != 0) = true := by simpa using hv
        have HE := Lib.hid (show (E1, E2, E3) = ((3 : Int), (u : Int), y) by
          have e := each_at (f := fun k => placeE N (k : Int)) hut hno.out (by show placeE N (u : Int) ≠ 0; rw [← HY.out]; exact hv)
          rw [HEB.out, e, if_neg (show ¬ placeE N (u : Int) = 0 by rw [← HY.out]; exact hv)]
          show ((3 : Int), (u : Int), placeE N (u : Int)) = _
          rw [← HY.out])
        clear hv
        have hE := HE.out
        injection hE with q1 hE
        injection hE with q2 q3
        have Q1 := Lib.hid q1
        have Q2 := Lib.hid q2
        have Q3 := Lib.hid q3
        clear q1 q2 q3
        go_wp2_with fail
        refine CPU.out.mono ?_
        rintro e w6 ⟨rfl, hb⟩
        have HB6 := Lib.hid (below_then HBW.out hb)
        obtain ⟨r0, r1, r2, r3⟩ := blk2 R0.out (below_then HCW.out hb) L1.out
        clear hb x0 x1 x2 x3 x4
        go_wp2_with fail
        refine bodyPost_ret (by rw [results_cell_tmp rfl]; go_simp; rfl) rfl ?_
        refine ⟨ret3p Q1.out.symm Q2.out.symm Q3.out.symm, ?_⟩
        exact ((HB6.out).setCell (Nat.le_succ _) _).setCell (Nat.le_succ _) _
      case pos =>
        subst hv
        have HNX := Lib.hid (show ∀ a, a < u + 1 → placeE N (a : Int) = 0 by
          intro a ha
          by_cases e : a = u
          · rw [e, ← HY.out]
          · exact hno.out a (by omega))
        go_wp2_with fail
        refine CPU.out.mono ?_
        rintro e w6 ⟨rfl, hb⟩
        have HB6 := Lib.hid (below_then hB.out hb)
        clear hb x0 x1 x2 x3 x4
        go_wp2_with fail
        go_roundw
        case rel => exact ⟨u + 1, by omega, by go_num, HB6, HNX⟩
        case measure => simp [intOf]; omega
    · have eu : u = n2 := by omega
      have HEC := Lib.hid (show (E1, E2, E3) = if (eachE (fun k => taskE N k) n3).2 = 0 then ((0 : Int), (0 : Int), (0 : Int)) else (4, eachE (fun k => taskE N k) n3) by
        rw [HEB.out, if_pos (each_none (f := fun k => placeE N (k : Int)) (eu ▸ hno.out))])
      have un : ¬ (u : Int) < (n2 : Int) := by omega
      clear hut hu eu hno HEB x0 x2 x3 x4
      go_wp2_with fail
      go_loopw [8] (fun v8 wx => ∃ (i : Nat), i ≤ n3 ∧ v8 = .int .i64 (i : Int) ∧ Hid (Below w5.heap.size w5 wx) ∧ Hid (∀ a, a < i → taskE N (a : Int) = 0)) (fun v8 _ => n3 - (intOf v8).toNat)
      case atStart => exact ⟨0, by omega, rfl, hB, Lib.hid fun a ha => absurd ha (Nat.not_lt_zero _)⟩
      case round =>
        obtain ⟨i, hi, rfl, hB8, hno8⟩ := hrel
        have HBX := Lib.hid (below_then HB5.out hB8.out)
        have HCX := Lib.hid (below_then HC5.out hB8.out)
        clear x1
        obtain ⟨x0, x1, x2, x3, x4⟩ := NB1.out.below HCX.out
        by_cases hit : i < n3
        · have i1 : (i : Int) < (n3 : Int) := by omega
          have cP := rf_Task (i : Int) _ (Lib.hid (hN.out.below HBX.out)) hF
          obtain ⟨y, hy⟩ : ∃ y, y = taskE N (i : Int) := ⟨_, rfl⟩
          rw [← hy] at cP
          have HY := Lib.hid hy
          have CPU := Lib.hid cP
          clear hy cP
          by_cases hv : y = 0
          case neg =>
            have z0 : (y == 0) = false := by simpa using hv
            have z1 : (y != 0) = true := by simpa using hv
            have HE := Lib.hid (show (E1, E2, E3) = ((4 : Int), (i : Int), y) by
              have e := each_at (f := fun k => taskE N (k : Int)) hit hno8.out (by show taskE N (i : Int) ≠ 0; rw [← HY.out]; exact hv)
              rw [HEC.out, e, if_neg (show ¬ taskE N (i : Int) = 0 by rw [← HY.out]; exact hv)]
              show ((4 : Int), (i : Int), taskE N (i : Int)) = _
              rw [← HY.out])
            clear hv
            have hE := HE.out
            injection hE with q1 hE
            injection hE with q2 q3
            have Q1 := Lib.hid q1
            have Q2 := Lib.hid q2
            have Q3 := Lib.hid q3
            clear q1 q2 q3
            go_wp2_with fail
            refine CPU.out.mono ?_
            rintro e w6 ⟨rfl, hb⟩
            have HB6 := Lib.hid (below_then HBX.out hb)
            obtain ⟨r0, r1, r2, r3⟩ := blk2 R0.out (below_then HCX.out hb) L1.out
            clear hb x0 x1 x2 x3 x4
            go_wp2_with fail
            refine bodyPost_ret (by rw [results_cell_tmp rfl]; go_simp; rfl) rfl ?_
            refine ⟨ret3p Q1.out.symm Q2.out.symm Q3.out.symm, ?_⟩
            exact ((HB6.out).setCell (Nat.le_succ _) _).setCell (Nat.le_succ _) _
          case pos =>
            subst hv
            have HNX := Lib.hid (show ∀ a, a < i + 1 → taskE N (a : Int) = 0 by
              intro a ha
              by_cases e : a = i
              · rw [e, ← HY.out]
              · exact hno8.out a (by omega))
            go_wp2_with fail
            refine CPU.out.mono ?_
            rintro e w6 ⟨rfl, hb⟩
            have HB6 := Lib.hid (below_then hB8.out hb)
            clear hb x0 x1 x2 x3 x4
            go_wp2_with fail
            go_roundw
            case rel => exact ⟨i + 1, by omega, by go_num, HB6, HNX⟩
            case measure => simp [intOf]; omega
        · have ei : i = n3 := by omega
          have HE := Lib.hid (show (E1, E2, E3) = ((0 : Int), (0 : Int), (0 : Int)) by
            rw [HEC.out, if_pos (each_none (f := fun k => taskE N (k : Int)) (ei ▸ hno8.out))])
          have inn : ¬ (i : Int) < (n3 : Int) := by omega
          clear hit hi ei hno8 HEC
          obtain ⟨r0, r1, r2, r3⟩ := blk2 R0.out HCX.out L1.out
          have hE := HE.out
          injection hE with q1 hE
          injection hE with q2 q3
          have Q1 := Lib.hid q1
          have Q2 := Lib.hid q2
          have Q3 := Lib.hid q3
          clear q1 q2 q3
          go_wp2_with fail
          refine bodyPost_ret (by rw [results_cell_tmp rfl]; go_simp; rfl) rfl ?_
          refine ⟨ret3p Q1.out.symm Q2.out.symm Q3.out.symm, ?_⟩
          exact ((HBX.out).setCell (Nat.le_succ _) _).setCell (Nat.le_succ _) _
end
end Go.Proofs.YtaeeblceedklnaaGreatDoor
