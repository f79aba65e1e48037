/- Law CheckNames. Printed by gen_ckC.py. -/
import Derived.Test.YtaeeblceedklnaaGreatDoorCkM
import Derived.Test.YtaeeblceedklnaaGreatDoorCkX
namespace Go.Proofs.YtaeeblceedklnaaGreatDoor
open Go.RowKit
theorem getD_mem_take {α : Type} [Inhabited α] (l : List α) {j k : Nat} (h : j < k) (h2 : j < l.length) : l.getD j default ∈ l.take k := by
  have e : l.getD j default = l[j] := by simp [List.getD, h2]
  rw [e]
  exact List.mem_iff_getElem.2 ⟨j, by simp; omega, by simp⟩
theorem other {x y : ByteArray} (h : x ≠ y) : (x.toList == y.toList) = false := (sameS_eq x y).trans (decide_eq_false h)
theorem free_two {s : ByteArray} (h : freeB s = true) : nameOk s.data.toList = true ∧ isWord s = false := by
  unfold freeB at h
  simpa using h
section
variable {A1 A2 A3 : Option Addr} {n1 c1 n2 c2 n3 c3 : Nat} {N : Nt}
set_option maxRecDepth 100000 in
set_option maxHeartbeats 8000000 in
theorem law_CheckNames (w : World) (ht : Hid (TabOk w)) (hN : Hid (NetAt w A1 n1 c1 A2 n2 c2 A3 n3 c3 N)) (hL : Hid (NetLen N)) : Calls Tryz.prog 6 #[netV A1 n1 c1 A2 n2 c2 A3 n3 c3 N.from_ N.to_] w fun e w' => e = .returned (.bool true) ∧ Below w.heap.size w w' := by
  have hn1 := Nat.le_trans hN.out.cols.1 hN.out.cols.2.1
  have hn2 := Nat.le_trans hN.out.pls.1 hN.out.pls.2.1
  have hn3 := Nat.le_trans hN.out.tks.1 hN.out.tks.2.1
  have HLC := Lib.hid hN.out.cols.2.2.1
  have HLP := Lib.hid hN.out.pls.2.2.1
  have HLT := Lib.hid hN.out.tks.2.2.1
  obtain ⟨w1, hw1⟩ : ∃ x, x = w.alloc (.cells #[.slice A1 n1 c1, .slice A2 n2 c2, .slice A3 n3 c3, .int .i64 N.from_, .int .i64 N.to_] 26) := ⟨_, rfl⟩
  have HB1 := Lib.hid (show Below w.heap.size w w1 by rw [hw1]; exact alr w _)
  have NB1 := Lib.hid (show NBox w1 w.heap.size A1 n1 c1 A2 n2 c2 A3 n3 c3 N.from_ N.to_ by rw [hw1]; exact NBox.new w A1 n1 c1 A2 n2 c2 A3 n3 c3 N.from_ N.to_ 26)
  have HW := Lib.hid hw1.symm
  clear hw1
  go_enter Tryz.func6, Tryz.ntmps6
  go_upto_region 1 with fail
  rw [HW.out]
  go_wp2_with fail
  refine (law_small w1 (Lib.hid (ht.out.below HB1.out))).mono ?_
  rintro e w2 ⟨rfl, hb⟩
  have HB2 := Lib.hid (below_then HB1.out hb)
  have HC2 := Lib.hid hb
  clear hb
  obtain ⟨x0, x1, x2, x3, x4⟩ := NB1.out.below HC2.out
  go_wp2_with fail
  refine (law_NetFew w2 (Lib.hid (hN.out.below HB2.out)) hL).mono ?_
  rintro e w3 ⟨b, rfl, hfew, hb⟩
  have HF := Lib.hid hfew
  have HB3 := Lib.hid (below_then HB2.out hb)
  have HC3 := Lib.hid (below_then HC2.out hb)
  clear hb hfew x0 x1 x2 x3 x4
  cases b with
  | false =>
    go_wp2_with fail
    go_ret
    exact ⟨rfl, HB3.out⟩
  | true =>
  obtain ⟨x0, x1, x2, x3, x4⟩ := NB1.out.below HC3.out
  have HFEW := Lib.hid (HF.out rfl)
  have HSM := Lib.hid HFEW.out.small
  obtain ⟨z1, z2, z3⟩ : n1 ≤ 40 ∧ n2 ≤ 70 ∧ n3 ≤ 70 := ⟨HLC.out ▸ HFEW.out.cols, HLP.out ▸ HFEW.out.pls, HLT.out ▸ HFEW.out.tks⟩
  obtain ⟨E, hEE⟩ : ∃ E, E = netE N := ⟨_, rfl⟩
  have cN := ck_Net w3 (Lib.hid (ht.out.below HB3.out)) (Lib.hid (hN.out.below HB3.out)) HSM
  rw [← hEE] at cN
  have HE := Lib.hid hEE
  obtain ⟨E1, E2, E3⟩ := E
  have CN := Lib.hid cN
  clear cN hEE
  go_wp2_with fail
  refine CN.out.mono ?_
  rintro e w4 ⟨rfl, hb⟩
  have HB5 := Lib.hid (below_then (below_then HB3.out hb) (alr w4 (.cells #[.int .i64 E1, .int .i64 E2] 30)))
  have HC5 := Lib.hid (below_then (below_then HC3.out hb) (alr w4 (.cells #[.int .i64 E1, .int .i64 E2] 30)))
  obtain ⟨w5, hw5⟩ : ∃ y, y = w4.alloc (.cells #[.int .i64 E1, .int .i64 E2] 30) := ⟨_, rfl⟩
  obtain ⟨g4, hg4⟩ : ∃ y, y = w4.heap.size := ⟨_, rfl⟩
  rw [← hw5] at HB5 HC5
  have HW5 := Lib.hid hw5.symm
  have HG4 := Lib.hid hg4.symm
  clear hb hw5 hg4 x0 x1 x2 x3 x4 CN HF
  go_upto_region 6 with fail
  rw [HW5.out, HG4.out]
  by_cases h0 : E3 = 0
  case neg =>
    have z0 : (E3 != 0) = true := by simpa using h0
    go_wp2_with fail
    go_ret
    exact ⟨rfl, HB5.out⟩
  subst h0
  have HOK := Lib.hid (netE_ok.1 (show (netE N).2.2 = 0 by rw [← HE.out]))
  have m1 : 2 ≤ n2 := by
    have h1 := HOK.out.head
    have h2 := h1.ne; have h3 := h1.f0; have h4 := h1.f1; have h5 := h1.t0; have h6 := h1.t1
    rw [HLP.out] at h4 h6
    omega
  have m2 : n2 ≤ 64 := by have := HOK.out.head.pls; rw [HLP.out] at this; exact this
  have m3 : n3 ≤ 64 := by have := HOK.out.head.tks; rw [HLT.out] at this; exact this
  clear HE
  go_wp2_with fail
  go_loopw [7] (fun v7 wr => ∃ (k : Nat), k ≤ n2 ∧ v7 = .int .i64 (k : Int) ∧ Hid (Below w5.heap.size w5 wr)) (fun v7 _ => n2 - (intOf v7).toNat)
  case atStart => exact ⟨0, by omega, rfl, Lib.hid (Below.refl _ _)⟩
  case round =>
    obtain ⟨k, hk, rfl, hB⟩ := hrel
    have HBR := Lib.hid (below_then HB5.out hB.out)
    have HCR := Lib.hid (below_then HC5.out hB.out)
    obtain ⟨x0, x1, x2, x3, x4⟩ := NB1.out.below HCR.out
    by_cases hkt : k < n2
    · obtain ⟨b, off, rfl, hat⟩ := hN.out.pls.2.2.2 (by omega)
      have HAT := Lib.hid hat
      obtain ⟨A', n', c', hE⟩ := hat k hkt
      have E0 := Lib.hid hE.c0
      have e0 := cell_kept HBR.out E0.out
      have hpk := placeE_ok (N := N) (k := k) (by rw [HLP.out]; exact hkt) (HOK.out.pls k (by rw [HLP.out]; exact hkt))
      obtain ⟨nm, hnm⟩ : ∃ y, y = (N.pls.getD k default).name := ⟨_, rfl⟩
      rw [← hnm] at e0 hpk E0
      obtain ⟨hfr, huq⟩ := hpk
      have HUQ := Lib.hid huq
      obtain ⟨f1, f2⟩ := free_two hfr
      have CA := Lib.hid (fun W => f1 ▸ col_Name' nm W)
      have CW := Lib.hid (fun W (h : Below w.heap.size w W) => f2 ▸ tok_Word nm W (Lib.hid (ht.out.below h)))
      have k1 : (k : Int) < (n2 : Int) := by omega
      have k0 : (0 : Int) ≤ (k : Int) := by omega
      clear hnm hE hat huq hfr f1 f2
      go_wp2_with fail
      refine (CA.out wr).mono ?_
      rintro e w6 ⟨rfl, rfl⟩
      go_wp2_with fail
      refine (CW.out wr HBR.out).mono ?_
      rintro e w7 ⟨rfl, hb⟩
      have HB7 := Lib.hid (below_then hB.out hb)
      clear hb x0 x1 x2 x3 x4 e0
      go_wp2_with fail
      go_loopw [8] (fun v8 ws => ∃ (j : Nat), j ≤ k ∧ v8 = .int .i64 (j : Int) ∧ Hid (Below w5.heap.size w5 ws)) (fun v8 _ => k - (intOf v8).toNat)
      case atStart => exact ⟨0, by omega, rfl, HB7⟩
      case round =>
        obtain ⟨j, hj, rfl, hBs⟩ := hrel
        have HBS := Lib.hid (below_then HB5.out hBs.out)
        obtain ⟨x0, x1, x2, x3, x4⟩ := NB1.out.below (below_then HC5.out hBs.out)
        by_cases hjt : j < k
        · obtain ⟨A2', n2', c2', hE2⟩ := HAT.out j (by omega)
          have e0 := cell_kept HBS.out E0.out
          have e1 := cell_kept HBS.out hE2.c0
          have hne := other (HUQ.out _ (getD_mem_take N.pls hjt (by rw [HLP.out]; omega)))
          obtain ⟨nj, hnj⟩ : ∃ y, y = (N.pls.getD j default).name := ⟨_, rfl⟩
          rw [← hnj] at e1 hne
          have j1 : (j : Int) < (k : Int) := by omega
          have j2 : (j : Int) < (n2 : Int) := by omega
          have j0 : (0 : Int) ≤ (j : Int) := by omega
          clear hE2 hnj
          go_wp2
          go_quiet (fail)
          go_wp2
          go_roundw
          case rel => exact ⟨j + 1, by omega, by go_num, Lib.hid (below_drewN' hBs.out _)⟩
          case measure => simp [intOf]; omega
        · have ej : j = k := by omega
          subst ej
          go_wp2_with fail
          go_roundw
          case rel => exact ⟨j + 1, by omega, by go_num, hBs⟩
          case measure => simp [intOf]; omega
    · have ek : k = n2 := by omega
      subst ek
      go_wp2_with fail
      clear x0 x1 x2 x3 x4
      go_loopw [9] (fun v9 ws => ∃ (i : Nat), i ≤ n3 ∧ v9 = .int .i64 (i : Int) ∧ Hid (Below w5.heap.size w5 ws)) (fun v9 _ => n3 - (intOf v9).toNat)
      case atStart => exact ⟨0, by omega, rfl, hB⟩
      case round =>
        obtain ⟨i, hi, rfl, hB2⟩ := hrel
        have HBS := Lib.hid (below_then HB5.out hB2.out)
        have HCS := Lib.hid (below_then HC5.out hB2.out)
        obtain ⟨x0, x1, x2, x3, x4⟩ := NB1.out.below HCS.out
        by_cases hit : i < n3
        · have hil : i < N.tks.length := by rw [HLT.out]; exact hit
          have hto := HOK.out.tks i hil
          obtain ⟨b, off, rfl, hat⟩ := hN.out.tks.2.2.2 (by omega)
          obtain ⟨Av, nv, cv, Ag, mg, cg, Ai, ni, ci, Ao, no, co, Ac, nc, cc, hE⟩ := hat i hit
          obtain ⟨q, hq⟩ : ∃ q, q = N.tks.getD i default := ⟨_, rfl⟩
          rw [← hq] at hE hto
          have HAT := Lib.hid hat
          have HTO := Lib.hid hto
          have HS0 := Lib.hid HFEW.out.small
          have hsz : sizeT q.guard ≤ 1000000 := by rw [hq]; exact (HSM.out i hil).1
          have lv : q.vars.length = nv := hE.vars.2.2.1
          have li : q.ins.length = ni := hE.ins.2.2.1
          have lo : q.outs.length = no := hE.outs.2.2.1
          have bv := Nat.le_trans hE.vars.1 hE.vars.2.1
          have bi := Nat.le_trans hE.ins.1 hE.ins.2.1
          have bo := Nat.le_trans hE.outs.1 hE.outs.2.1
          have s1 : 0 < ni := by have := hto.ins; omega
          have s2 : 0 < no := by have := hto.outs; omega
          have hgu := hto.guard
          rw [lv] at hgu
          have HV := Lib.hid (vars_among hto.vars)
          obtain ⟨f1, f2⟩ := free_two hto.free
          have CA := Lib.hid (fun W => f1 ▸ col_Name' q.name W)
          have CW := Lib.hid (fun W (h : Below w.heap.size w W) => f2 ▸ tok_Word q.name W (Lib.hid (ht.out.below h)))
          have CR := Lib.hid (fun W (h : Below w.heap.size w W) => hgu ▸ ex_Right (nv : Int) q.guard Ag mg cg W (Lib.hid (hE.guard.kept h)) hsz)
          have HEE := Lib.hid (hE.below HBS.out)
          have HE := Lib.hid hE
          have HQ := Lib.hid hq.symm
          have LV := Lib.hid lv
          obtain ⟨e0, e1, e2, e3, e4, e5, e6, e7, e8, e9, e10, e11, e12, e13, _, _, _, _, _, _, _, _, _, _, _, _⟩ := HEE.out
          have HBX := Lib.hid (hB2.out.alloc hB2.out.size (.cells #[.string q.name, .slice Av nv cv, .int .i64 q.guard.kind, .int .i64 q.guard.num, .slice Ag mg cg, .int .i64 q.join, .int .i64 q.split, .slice Ai ni ci, .slice Ao no co, .slice Ac nc cc, .int .i64 q.after, .int .i64 q.m0, .int .i64 q.m1, .int .i64 q.m2] 53))
          have TB := Lib.hid (TBox.new wr Av nv cv Ag mg cg Ai ni ci Ao no co Ac nc cc q 53)
          obtain ⟨wt, hwt⟩ : ∃ y, y = wr.alloc (.cells #[.string q.name, .slice Av nv cv, .int .i64 q.guard.kind, .int .i64 q.guard.num, .slice Ag mg cg, .int .i64 q.join, .int .i64 q.split, .slice Ai ni ci, .slice Ao no co, .slice Ac nc cc, .int .i64 q.after, .int .i64 q.m0, .int .i64 q.m1, .int .i64 q.m2] 53) := ⟨_, rfl⟩
          obtain ⟨gt, hgt⟩ : ∃ y, y = wr.heap.size := ⟨_, rfl⟩
          rw [← hwt, ← hgt] at TB
          rw [← hwt] at HBX
          have HWT := Lib.hid hwt.symm
          have HGT := Lib.hid hgt.symm
          have HBT := Lib.hid (below_then HB5.out HBX.out)
          have i1 : (i : Int) < (n3 : Int) := by omega
          have i0 : (0 : Int) ≤ (i : Int) := by omega
          clear hq hE hat hto hsz lv li lo hgu f1 f2 hwt hgt hil
          go_upto_region 22 with fail
          rw [HWT.out, HGT.out]
          clear x0 x1 x2 x3 x4 e0 e1 e2 e3 e4 e5 e6 e7 e8 e9 e10 e11 e12 e13
          obtain ⟨y0, y1, y2, y3, y4, y5, y6, y7, y8, _, _, _, _, _⟩ := TB.out
          go_wp2_with fail
          refine (CA.out wt).mono ?_
          rintro e w6 ⟨rfl, rfl⟩
          go_wp2_with fail
          refine (CW.out wt HBT.out).mono ?_
          rintro e w7 ⟨rfl, hb⟩
          have HD7 := Lib.hid hb
          have HB7 := Lib.hid (below_then HBX.out hb)
          have HE7 := Lib.hid (below_then HBT.out hb)
          clear y0 y1 y2 y3 y4 y5 y6 y7 y8 hb
          obtain ⟨y0, y1, y2, y3, y4, y5, y6, y7, y8, _, _, _, _, _⟩ := TB.out.below HD7.out
          go_wp2_with fail
          refine (CR.out w7 HE7.out).mono ?_
          rintro e w8 ⟨rfl, hb⟩
          have HD8 := Lib.hid (below_then HD7.out hb)
          have HB8 := Lib.hid (below_then HB7.out hb)
          clear y0 y1 y2 y3 y4 y5 y6 y7 y8 hb
          obtain ⟨y0, y1, y2, y3, y4, y5, y6, y7, y8, _, _, _, _, _⟩ := TB.out.below HD8.out
          go_wp2_with fail
          clear y0 y1 y2 y3 y4 y5 y6 y7 y8
          go_loopw [11] (fun v11 wx => ∃ (j : Nat), j ≤ i ∧ v11 = .int .i64 (j : Int) ∧ Hid (Below w5.heap.size w5 wx) ∧ Hid (Below wt.heap.size wt wx)) (fun v11 _ => i - (intOf v11).toNat)
          case atStart => exact ⟨0, by omega, rfl, HB8, HD8⟩
          case round =>
            obtain ⟨j, hj, rfl, hBx, hDx⟩ := hrel
            have HAX := Lib.hid (below_then HB5.out hBx.out)
            have y0 := (TB.out.below hDx.out).c0
            obtain ⟨x0, x1, x2, x3, x4⟩ := NB1.out.below (below_then HC5.out hBx.out)
            by_cases hjt : j < i
            · obtain ⟨Av2, nv2, cv2, Ag2, mg2, cg2, Ai2, ni2, ci2, Ao2, no2, co2, Ac2, nc2, cc2, hE2⟩ := HAT.out j (by omega)
              have e1 := cell_kept HAX.out hE2.c0
              have hne := other (HTO.out.once _ (getD_mem_take N.tks hjt (by rw [HLT.out]; omega)))
              obtain ⟨nj, hnj⟩ : ∃ y, y = (N.tks.getD j default).name := ⟨_, rfl⟩
              rw [← hnj] at e1 hne
              have j1 : (j : Int) < (i : Int) := by omega
              have j2 : (j : Int) < (n3 : Int) := by omega
              have j0 : (0 : Int) ≤ (j : Int) := by omega
              clear hE2 hnj
              go_wp2
              go_quiet (fail)
              go_wp2
              go_roundw
              case rel => exact ⟨j + 1, by omega, by go_num, Lib.hid (below_drewN' hBx.out _), Lib.hid (below_drewN' hDx.out _)⟩
              case measure => simp [intOf]; omega
            · have ej : j = i := by omega
              subst ej
              go_wp2_with fail
              clear x0 x1 x2 x3 x4 y0
              go_loopw [12] (fun v12 wx => ∃ (p : Nat), p ≤ nv ∧ v12 = .int .i64 (p : Int) ∧ Hid (Below w5.heap.size w5 wx) ∧ Hid (Below wt.heap.size wt wx)) (fun v12 _ => nv - (intOf v12).toNat)
              case atStart => exact ⟨0, by omega, rfl, hBx, hDx⟩
              case round =>
                obtain ⟨p, hp, rfl, hBy, hDy⟩ := hrel
                have y1 := (TB.out.below hDy.out).c1
                by_cases hpt : p < nv
                · have p1 : (p : Int) < (nv : Int) := by omega
                  have p0 : (0 : Int) ≤ (p : Int) := by omega
                  obtain ⟨bv2, ov, rfl, hatv⟩ := HE.out.vars.2.2.2 (by omega)
                  have HATV := Lib.hid hatv
                  have EP := Lib.hid (hatv p hpt).c0
                  have hup := (HV.out p (by rw [LV.out]; exact hpt)).2.1
                  obtain ⟨np, hnp⟩ : ∃ y, y = (q.vars.getD p default).name := ⟨_, rfl⟩
                  rw [← hnp] at EP hup
                  have HUP := Lib.hid hup
                  clear hatv hup hnp
                  go_wp2_with fail
                  clear y1
                  go_loopw [13] (fun v13 wx => ∃ (u : Nat), u ≤ p ∧ v13 = .int .i64 (u : Int) ∧ Hid (Below w5.heap.size w5 wx) ∧ Hid (Below wt.heap.size wt wx)) (fun v13 _ => p - (intOf v13).toNat)
                  case atStart => exact ⟨0, by omega, rfl, hBy, hDy⟩
                  case round =>
                    obtain ⟨u, hu, rfl, hBz, hDz⟩ := hrel
                    have HAZ := Lib.hid (below_then HB5.out hBz.out)
                    have y1 := (TB.out.below hDz.out).c1
                    by_cases hut : u < p
                    · have e1 := cell_kept HAZ.out (HATV.out u (by omega)).c0
                      have e0 := cell_kept HAZ.out EP.out
                      have hne := other (HUP.out _ (getD_mem_take q.vars hut (by rw [LV.out]; omega)))
                      obtain ⟨nj, hnj⟩ : ∃ y, y = (q.vars.getD u default).name := ⟨_, rfl⟩
                      rw [← hnj] at e1 hne
                      have u1 : (u : Int) < (p : Int) := by omega
                      have u2 : (u : Int) < (nv : Int) := by omega
                      have u0 : (0 : Int) ≤ (u : Int) := by omega
                      clear hnj
                      go_wp2
                      go_quiet (fail)
                      go_wp2
                      go_roundw
                      case rel => exact ⟨u + 1, by omega, by go_num, Lib.hid (below_drewN' hBz.out _), Lib.hid (below_drewN' hDz.out _)⟩
                      case measure => simp [intOf]; omega
                    · have eu : u = p := by omega
                      subst eu
                      go_wp2_with fail
                      go_roundw
                      case rel => exact ⟨u + 1, by omega, by go_num, hBz, hDz⟩
                      case measure => simp [intOf]; omega
                · have ep : p = nv := by omega
                  subst ep
                  go_wp2_with fail
                  go_roundw
                  case rel => exact ⟨j + 1, by omega, by go_num, hBy⟩
                  case measure => simp [intOf]; omega
        · have ei : i = n3 := by omega
          subst ei
          have HZ := HBS
          go_wp2_with fail
          go_ret
          exact ⟨ret1b (decide_eq_true (by omega)), HZ.out⟩
end
end Go.Proofs.YtaeeblceedklnaaGreatDoor
