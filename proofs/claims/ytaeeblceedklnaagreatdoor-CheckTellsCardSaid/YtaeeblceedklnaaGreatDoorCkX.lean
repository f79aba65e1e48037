/- Few of nets. Printed by gen_ckC.py. -/
import Derived.Test.YtaeeblceedklnaaGreatDoorCkR
import Derived.Test.YtaeeblceedklnaaGreatDoorCkO
namespace Go.Proofs.YtaeeblceedklnaaGreatDoor
open Go.RowKit
/-- A task that is small enough. -/
structure TkFew (t : Tk) : Prop where
  small : SmallT t
  vars : t.vars.length ≤ 200
  ins : t.ins.length ≤ 200
  outs : t.outs.length ≤ 200
structure NetFew (N : Nt) : Prop where
  cols : N.cols.length ≤ 40
  pls : N.pls.length ≤ 70
  tks : N.tks.length ≤ 70
  each : ∀ k, k < N.tks.length → TkFew (N.tks.getD k default)
theorem NetFew.small {N : Nt} (h : NetFew N) : SmallN N := fun k hk => (h.each k hk).small
theorem NetFew.left {N : Nt} (h : NetFew N) : ∀ n, n ≤ N.tks.length → leftO N [] n ≤ n * 201
  | 0, _ => Nat.le_refl _
  | n + 1, hn => by
    have h1 := NetFew.left h n (by omega)
    have h2 := (h.each n (by omega)).outs
    rw [leftO]
    have : ([] : List Int).contains (n : Int) = false := rfl
    rw [this]
    simp only [Bool.false_eq_true, if_false]
    omega
def FewP (N : Nt) (w : World) (e : Ending) (w' : World) : Prop := ∃ b, e = .returned (.bool b) ∧ (b = true → NetFew N) ∧ Below w.heap.size w w'
theorem few_small {t : Tr} (h : 0 < fewT t 60) : sizeT t ≤ 1000000 := by
  have h1 := (few_size t 60 h).1
  omega
section
variable {A1 A2 A3 : Option Addr} {n1 c1 n2 c2 n3 c3 : Nat} {N : Nt}
set_option maxRecDepth 100000 in
set_option maxHeartbeats 8000000 in
theorem law_NetFew (w : World) (hN : Hid (NetAt w A1 n1 c1 A2 n2 c2 A3 n3 c3 N)) (hL : Hid (NetLen N)) : Calls Tryz.prog 8 #[netV A1 n1 c1 A2 n2 c2 A3 n3 c3 N.from_ N.to_] w (FewP N w) := by
  have hn1 := Nat.le_trans hN.out.cols.1 hN.out.cols.2.1
  have hn2 := Nat.le_trans hN.out.pls.1 hN.out.pls.2.1
  have hn3 := Nat.le_trans hN.out.tks.1 hN.out.tks.2.1
  have hlc := Lib.hid hN.out.cols.2.2.1
  have hlp := Lib.hid hN.out.pls.2.2.1
  have hlt3 := Lib.hid hN.out.tks.2.2.1
  obtain ⟨w1, hw1⟩ : ∃ x, x = w.alloc (.cells #[.slice A1 n1 c1, .slice A2 n2 c2, .slice A3 n3 c3, .int .i64 N.from_, .int .i64 N.to_] 26) := ⟨_, rfl⟩
  have HB1 := Lib.hid (show Below w.heap.size w w1 by rw [hw1]; exact alr w _)
  have NB1 := Lib.hid (show NBox w1 w.heap.size A1 n1 c1 A2 n2 c2 A3 n3 c3 N.from_ N.to_ by rw [hw1]; exact NBox.new w A1 n1 c1 A2 n2 c2 A3 n3 c3 N.from_ N.to_ 26)
  have hN1 := Lib.hid (hN.out.below HB1.out)
  have HW := Lib.hid hw1.symm
  have x0 := NB1.out.c0
  have x1 := NB1.out.c1
  have x2 := NB1.out.c2
  clear hw1
  by_cases h1 : n1 ≤ 40
  case neg =>
    go_enter Tryz.func8, Tryz.ntmps8
    go_upto_region 1 with fail
    rw [HW.out]
    go_wp2
    go_ret; exact ⟨false, rfl, (fun h => by cases h), HB1.out⟩
  by_cases h2 : n2 ≤ 70
  case neg =>
    go_enter Tryz.func8, Tryz.ntmps8
    go_upto_region 1 with fail
    rw [HW.out]
    go_wp2
    go_ret; exact ⟨false, rfl, (fun h => by cases h), HB1.out⟩
  by_cases h3 : n3 ≤ 70
  case neg =>
    go_enter Tryz.func8, Tryz.ntmps8
    go_upto_region 1 with fail
    rw [HW.out]
    go_wp2
    go_ret; exact ⟨false, rfl, (fun h => by cases h), HB1.out⟩
  go_enter Tryz.func8, Tryz.ntmps8
  go_upto_region 1 with fail
  rw [HW.out]
  go_wp2
  go_loop [3, 4] (fun v3 v4 => ∃ (k : Nat) (z : Int), k ≤ n1 ∧ v4 = .int .i64 (k : Int) ∧ v3 = .int .i64 z) (fun _ v4 => n1 - (intOf v4).toNat)
  case atStart => exact ⟨0, 0, by omega, rfl, rfl⟩
  case round =>
    obtain ⟨k, z, hk, rfl, rfl⟩ := hrel
    by_cases hlt : k < n1
    · obtain ⟨b, off, rfl, A', n', c', hE⟩ := hN1.out.cols.at_ hlt
      obtain ⟨q, hq⟩ : ∃ q, q = N.cols.getD k default := ⟨_, rfl⟩
      rw [← hq] at hE
      have e0 := hE.c0
      have e4 := hE.c4
      have hS := Lib.hid hE.names
      have hn' := hE.names.bound
      have hlt2 : (k : Int) < (n1 : Int) := by omega
      have hk0 : (0 : Int) ≤ (k : Int) := by omega
      obtain ⟨u, hu⟩ : ∃ u, u = wrap64 (z + (n' : Int)) := ⟨_, rfl⟩
      clear hq hE
      go_wp2
      all_goals first
        | (go_ret; exact ⟨false, rfl, (fun h => by cases h), HB1.out⟩)
        | skip
      all_goals
        go_loop [5] (fun v5 => ∃ (j : Nat), j ≤ n' ∧ v5 = .int .i64 (j : Int)) (fun v5 => n' - (intOf v5).toNat)
        case atStart => exact ⟨0, by omega, rfl⟩
        case round =>
          obtain ⟨j, hj, rfl⟩ := hrel
          by_cases hjt : j < n'
          · obtain ⟨b2, o2, rfl, hc⟩ := hS.out.str_at hjt
            have j1 : (j : Int) < (n' : Int) := by omega
            have j0 : (0 : Int) ≤ (j : Int) := by omega
            go_wp2
            all_goals first
              | (go_ret; exact ⟨false, rfl, (fun h => by cases h), HB1.out⟩)
              | (go_round
                 case rel => exact ⟨j + 1, by omega, by go_num⟩
                 case measure => simp [intOf]; omega)
          · go_wp2
            go_round
            case rel => exact ⟨k + 1, _, by omega, by go_num, rfl⟩
            case measure => simp [intOf]; omega
    · go_wp2
      go_loop [3, 6] (fun v3 v6 => ∃ (i : Nat) (z : Int), i ≤ n2 ∧ v6 = .int .i64 (i : Int) ∧ v3 = .int .i64 z) (fun _ v6 => n2 - (intOf v6).toNat)
      case atStart => exact ⟨0, _, by omega, rfl, rfl⟩
      case round =>
        obtain ⟨i, z2, hi, rfl, rfl⟩ := hrel
        by_cases hit : i < n2
        · obtain ⟨b, off, rfl, A', n', c', hE⟩ := hN1.out.pls.at_ hit
          have e0 := hE.c0
          have e2 := hE.c2
          have i1 : (i : Int) < (n2 : Int) := by omega
          have i0 : (0 : Int) ≤ (i : Int) := by omega
          clear hE
          go_wp2
          all_goals first
            | (go_ret; exact ⟨false, rfl, (fun h => by cases h), HB1.out⟩)
            | (go_round
               case rel => exact ⟨i + 1, _, by omega, by go_num, rfl⟩
               case measure => simp [intOf]; omega)
        · go_wp2
          go_loopw [7, 8] (fun v7 v8 wr => ∃ (k a : Nat), k ≤ n3 ∧ v8 = .int .i64 (k : Int) ∧ v7 = .int .i64 (a : Int) ∧ a ≤ 200 ∧ Hid (Below w1.heap.size w1 wr) ∧ Hid (∀ j, j < k → TkFew (N.tks.getD j default))) (fun _ v8 _ => n3 - (intOf v8).toNat)
          case atStart => exact ⟨0, 0, by omega, rfl, rfl, by omega, Lib.hid (Below.refl _ _), Lib.hid (fun j hj => absurd hj (Nat.not_lt_zero _))⟩
          case round =>
            obtain ⟨k, a, hk, rfl, rfl, ha, hB, hP⟩ := hrel
            have y2 := (NB1.out.below hB.out).c2
            clear x0 x1 x2
            by_cases hkt : k < n3
            · obtain ⟨b, off, rfl, Av, nv, cv, Ag, mg, cg, Ai, ni, ci, Ao, no, co, Ac, nc, cc, hE⟩ := (hN1.out.below hB.out).tks.at_ hkt
              have hTL := hL.out k (by rw [hlt3.out]; exact hkt)
              obtain ⟨q, hq⟩ : ∃ q, q = N.tks.getD k default := ⟨_, rfl⟩
              rw [← hq] at hE hTL
              have HQ := Lib.hid hq.symm
              have lv : q.vars.length = nv := hE.vars.2.2.1
              have li : q.ins.length = ni := hE.ins.2.2.1
              have lo : q.outs.length = no := hE.outs.2.2.1
              have lc : q.cancel.length = nc := by have := hE.cancel.len; rw [intCells_len] at this; omega
              unfold TkLen at hTL
              rw [lv, li, lo, lc] at hTL
              obtain ⟨t1, t2, t3, t4⟩ := hTL
              have LV := Lib.hid lv
              have LI := Lib.hid li
              have LO := Lib.hid lo
              have HE := Lib.hid hE
              have e0 := hE.c0
              have e1 := hE.c1
              have e2 := hE.c2
              have e3 := hE.c3
              have e4 := hE.c4
              have e5 := hE.c5
              have e6 := hE.c6
              have e7 := hE.c7
              have e8 := hE.c8
              have e9 := hE.c9
              have e10 := hE.c10
              have e11 := hE.c11
              have e12 := hE.c12
              have e13 := hE.c13
              have HBX := Lib.hid (hB.out.alloc hB.out.size (.cells #[.string q.name, .slice Av nv cv, .int .i64 q.guard.kind, .int .i64 q.guard.num, .slice Ag mg cg, .int .i64 q.join, .int .i64 q.split, .slice Ai ni ci, .slice Ao no co, .slice Ac nc cc, .int .i64 q.after, .int .i64 q.m0, .int .i64 q.m1, .int .i64 q.m2] 53))
              have b0 := cell_new wr #[.string q.name, .slice Av nv cv, .int .i64 q.guard.kind, .int .i64 q.guard.num, .slice Ag mg cg, .int .i64 q.join, .int .i64 q.split, .slice Ai ni ci, .slice Ao no co, .slice Ac nc cc, .int .i64 q.after, .int .i64 q.m0, .int .i64 q.m1, .int .i64 q.m2] 53 0 _ rfl
              have b1 := cell_new wr #[.string q.name, .slice Av nv cv, .int .i64 q.guard.kind, .int .i64 q.guard.num, .slice Ag mg cg, .int .i64 q.join, .int .i64 q.split, .slice Ai ni ci, .slice Ao no co, .slice Ac nc cc, .int .i64 q.after, .int .i64 q.m0, .int .i64 q.m1, .int .i64 q.m2] 53 1 _ rfl
              have k1 : (k : Int) < (n3 : Int) := by omega
              have k0 : (0 : Int) ≤ (k : Int) := by omega
              clear hq hE lv li lo lc
              by_cases hs : a + nv + ni + no + nc ≤ 200
              case neg =>
                have hs2 : (200 : Int) < (a : Int) + (nv : Int) + (ni : Int) + (no : Int) + (nc : Int) := by omega
                go_wp2
                go_ret; exact ⟨false, rfl, (fun h => by cases h), below_then HB1.out HBX.out⟩
              have hs2 : (a : Int) + (nv : Int) + (ni : Int) + (no : Int) + (nc : Int) ≤ 200 := by omega
              by_cases hnm : q.name.size ≤ 100
              case neg =>
                go_wp2
                go_ret; exact ⟨false, rfl, (fun h => by cases h), below_then HB1.out HBX.out⟩
              go_wp2
              have TB0 := TBox.new wr Av nv cv Ag mg cg Ai ni ci Ao no co Ac nc cc q 53
              have HWR := alr wr (.cells #[.string q.name, .slice Av nv cv, .int .i64 q.guard.kind, .int .i64 q.guard.num, .slice Ag mg cg, .int .i64 q.join, .int .i64 q.split, .slice Ai ni ci, .slice Ao no co, .slice Ac nc cc, .int .i64 q.after, .int .i64 q.m0, .int .i64 q.m1, .int .i64 q.m2] 53)
              have HBT := HBX.out
              obtain ⟨wt, hwt⟩ : ∃ y, y = wr.alloc (.cells #[.string q.name, .slice Av nv cv, .int .i64 q.guard.kind, .int .i64 q.guard.num, .slice Ag mg cg, .int .i64 q.join, .int .i64 q.split, .slice Ai ni ci, .slice Ao no co, .slice Ac nc cc, .int .i64 q.after, .int .i64 q.m0, .int .i64 q.m1, .int .i64 q.m2] 53) := ⟨_, rfl⟩
              obtain ⟨g9, hg9⟩ : ∃ y, y = wr.heap.size := ⟨_, rfl⟩
              rw [← hwt, ← hg9] at TB0
              rw [← hwt] at HWR HBT
              rw [← hwt, ← hg9]
              have TB := Lib.hid TB0
              have HR := Lib.hid HWR
              have HT := Lib.hid (below_then HB1.out HBT)
              have HT1 := Lib.hid HBT
              have y1 := TB0.c1
              clear hwt hg9 TB0 HWR HBT HBX y2 e0 e1 e2 e3 e4 e5 e6 e7 e8 e9 e10 e11 e12 e13
              go_loop [10] (fun v10 => ∃ (j : Nat), j ≤ nv ∧ v10 = .int .i64 (j : Int)) (fun v10 => nv - (intOf v10).toNat)
              case atStart => exact ⟨0, by omega, rfl⟩
              case round =>
                obtain ⟨j, hj, rfl⟩ := hrel
                by_cases hjt : j < nv
                · obtain ⟨b2, o2, rfl, hV⟩ := (HE.out.vars.below VrAt.stays HR.out).at_ hjt
                  have f0 := hV.c0
                  have j1 : (j : Int) < (nv : Int) := by omega
                  have j0 : (0 : Int) ≤ (j : Int) := by omega
                  clear hV
                  go_wp2
                  all_goals first
                    | (go_ret; exact ⟨false, rfl, (fun h => by cases h), HT.out⟩)
                    | (go_round
                       case rel => exact ⟨j + 1, by omega, by go_num⟩
                       case measure => simp [intOf]; omega)
                · have y2 := TB.out.c2
                  have y3 := TB.out.c3
                  have y4 := TB.out.c4
                  have cF := law_Few q.guard Ag mg cg wt (Lib.hid (HE.out.guard.kept HR.out))
                  obtain ⟨yg, hyg⟩ : ∃ y, y = decide (0 < fewT q.guard 60) := ⟨_, rfl⟩
                  rw [← hyg] at cF
                  have CF := Lib.hid cF
                  have HYG := Lib.hid hyg
                  clear cF hyg
                  go_wp2_with (go_at_call 25; refine CF.out.mono ?_; rintro e w2 ⟨rfl, hb2⟩; have HB2 := Lib.hid hb2; clear hb2)
                  clear y1 y2 y3 y4
                  go_loopw [11, 12] (fun v11 v12 wx => ∃ (i : Nat) (y : Bool), i ≤ ni ∧ v12 = .int .i64 (i : Int) ∧ v11 = .bool y ∧ Hid (Below wt.heap.size wt wx) ∧ Hid (y = true → 0 < fewT q.guard 60 ∧ ∀ j, j < i → 0 < fewT (q.ins.getD j default).expr 60)) (fun _ v12 _ => ni - (intOf v12).toNat)
                  case atStart => exact ⟨0, yg, by omega, rfl, rfl, HB2, Lib.hid fun h => ⟨of_decide_eq_true (HYG.out ▸ h), fun j hj => absurd hj (Nat.not_lt_zero _)⟩⟩
                  case round =>
                    obtain ⟨i2, y, hi2, rfl, rfl, hBx, hPx⟩ := hrel
                    have z7 := cell_kept hBx.out TB.out.c7
                    by_cases hit2 : i2 < ni
                    · obtain ⟨b3, o3, rfl, A', n', c', hA⟩ := (HE.out.ins.below ArAt.stays (below_then HR.out hBx.out)).at_ hit2
                      have f1 := hA.c1
                      have f2 := hA.c2
                      have f3 := hA.c3
                      have cF := law_Few (q.ins.getD i2 default).expr A' n' c' wr (Lib.hid hA.tr)
                      obtain ⟨yo, hyo⟩ : ∃ y, y = decide (0 < fewT (q.ins.getD i2 default).expr 60) := ⟨_, rfl⟩
                      rw [← hyo] at cF
                      have HYO := Lib.hid hyo
                      obtain ⟨ex, hex⟩ : ∃ e, e = (q.ins.getD i2 default).expr := ⟨_, rfl⟩
                      rw [← hex] at cF f1 f2
                      have CF := Lib.hid cF
                      have i21 : (i2 : Int) < (ni : Int) := by omega
                      have i20 : (0 : Int) ≤ (i2 : Int) := by omega
                      have HP2 := Lib.hid (show (y && yo) = true → 0 < fewT q.guard 60 ∧ ∀ j, j < i2 + 1 → 0 < fewT (q.ins.getD j default).expr 60 from fun h => by
                        rw [Bool.and_eq_true] at h
                        obtain ⟨h1, h2⟩ := hPx.out h.1
                        refine ⟨h1, fun j hj => ?_⟩
                        by_cases e : j = i2
                        · rw [e]; exact of_decide_eq_true (HYO.out ▸ h.2)
                        · exact h2 j (by omega))
                      clear cF hyo hex hA
                      cases y with
                      | false =>
                        go_wp2_with (go_at_call 25; refine CF.out.mono ?_; rintro e w2 ⟨rfl, hb2⟩; have HB2 := Lib.hid (below_then hBx.out hb2); clear hb2)
                        go_roundw
                        case rel => exact ⟨i2 + 1, false, by omega, by go_num, rfl, HB2, HP2⟩
                        case measure => simp [intOf]; omega
                      | true =>
                        go_wp2_with (go_at_call 25; refine CF.out.mono ?_; rintro e w2 ⟨rfl, hb2⟩; have HB2 := Lib.hid (below_then hBx.out hb2); clear hb2)
                        go_roundw
                        case rel => exact ⟨i2 + 1, yo, by omega, by go_num, rfl, HB2, by rw [Bool.true_and] at HP2; exact HP2⟩
                        case measure => simp [intOf]; omega
                    · have ei2 : i2 = ni := by omega
                      subst ei2
                      have z8 := cell_kept hBx.out TB.out.c8
                      go_wp2_with fail
                      go_loopw [11, 14] (fun v11 v14 wx => ∃ (i : Nat) (y : Bool), i ≤ no ∧ v14 = .int .i64 (i : Int) ∧ v11 = .bool y ∧ Hid (Below wt.heap.size wt wx) ∧ Hid (y = true → (0 < fewT q.guard 60 ∧ ∀ j, j < i2 → 0 < fewT (q.ins.getD j default).expr 60) ∧ ∀ j, j < i → 0 < fewT (q.outs.getD j default).expr 60)) (fun _ v14 _ => no - (intOf v14).toNat)
                      case atStart => exact ⟨0, y, by omega, rfl, rfl, hBx, Lib.hid fun h => ⟨hPx.out h, fun j hj => absurd hj (Nat.not_lt_zero _)⟩⟩
                      case round =>
                        obtain ⟨i3, y3, hi3, rfl, rfl, hBy, hPy⟩ := hrel
                        have q8 := cell_kept hBy.out TB.out.c8
                        clear z7 z8
                        by_cases hit3 : i3 < no
                        · obtain ⟨b3, o3, rfl, A', n', c', hA⟩ := (HE.out.outs.below ArAt.stays (below_then HR.out hBy.out)).at_ hit3
                          have f1 := hA.c1
                          have f2 := hA.c2
                          have f3 := hA.c3
                          have cF := law_Few (q.outs.getD i3 default).expr A' n' c' wr (Lib.hid hA.tr)
                          obtain ⟨yo, hyo⟩ : ∃ y, y = decide (0 < fewT (q.outs.getD i3 default).expr 60) := ⟨_, rfl⟩
                          rw [← hyo] at cF
                          have HYO := Lib.hid hyo
                          obtain ⟨ex, hex⟩ : ∃ e, e = (q.outs.getD i3 default).expr := ⟨_, rfl⟩
                          rw [← hex] at cF f1 f2
                          have CF := Lib.hid cF
                          have i31 : (i3 : Int) < (no : Int) := by omega
                          have i30 : (0 : Int) ≤ (i3 : Int) := by omega
                          have HP2 := Lib.hid (show (y3 && yo) = true → (0 < fewT q.guard 60 ∧ ∀ j, j < i2 → 0 < fewT (q.ins.getD j default).expr 60) ∧ ∀ j, j < i3 + 1 → 0 < fewT (q.outs.getD j default).expr 60 from fun h => by
                            rw [Bool.and_eq_true] at h
                            obtain ⟨h1, h2⟩ := hPy.out h.1
                            refine ⟨h1, fun j hj => ?_⟩
                            by_cases e : j = i3
                            · rw [e]; exact of_decide_eq_true (HYO.out ▸ h.2)
                            · exact h2 j (by omega))
                          clear cF hyo hex hA
                          cases y3 with
                          | false =>
                            go_wp2_with (go_at_call 25; refine CF.out.mono ?_; rintro e w2 ⟨rfl, hb2⟩; have HB2 := Lib.hid (below_then hBy.out hb2); clear hb2)
                            go_roundw
                            case rel => exact ⟨i3 + 1, false, by omega, by go_num, rfl, HB2, HP2⟩
                            case measure => simp [intOf]; omega
                          | true =>
                            go_wp2_with (go_at_call 25; refine CF.out.mono ?_; rintro e w2 ⟨rfl, hb2⟩; have HB2 := Lib.hid (below_then hBy.out hb2); clear hb2)
                            go_roundw
                            case rel => exact ⟨i3 + 1, yo, by omega, by go_num, rfl, HB2, by rw [Bool.true_and] at HP2; exact HP2⟩
                            case measure => simp [intOf]; omega
                        · have ei3 : i3 = no := by omega
                          subst ei3
                          have HBE := Lib.hid (below_then HT.out hBy.out)
                          have HBE1 := Lib.hid (below_then HT1.out hBy.out)
                          cases y3 with
                          | false =>
                            go_wp2_with fail
                            go_ret; exact ⟨false, rfl, (fun h => by cases h), HBE.out⟩
                          | true =>
                            have hP3 := hPy.out rfl
                            have HFW := Lib.hid (show TkFew q from ⟨⟨few_small hP3.1.1, fun j hj => few_small (hP3.1.2 j (by rw [← LI.out]; exact hj)), fun j hj => few_small (hP3.2 j (by rw [← LO.out]; exact hj))⟩, by rw [LV.out]; omega, by rw [LI.out]; omega, by rw [LO.out]; omega⟩)
                            have HPN := Lib.hid (show ∀ j, j < k + 1 → TkFew (N.tks.getD j default) from fun j hj => by
                              by_cases e : j = k
                              · rw [e, HQ.out]; exact HFW.out
                              · exact hP.out j (by omega))
                            clear hP3
                            go_wp2_with fail
                            go_roundw
                            case rel => exact ⟨k + 1, a + nv + i2 + i3 + nc, by omega, by go_num, by go_num, by omega, HBE1, HPN⟩
                            case measure => simp [intOf]; omega
            · have ek : k = n3 := by omega
              subst ek
              have HBE := Lib.hid (below_then HB1.out hB.out)
              have HNF := Lib.hid (show NetFew N from ⟨by rw [hlc.out]; omega, by rw [hlp.out]; omega, by rw [hlt3.out]; omega, fun j hj => hP.out j (by rw [← hlt3.out]; exact hj)⟩)
              go_wp2
              all_goals
                go_ret
                exact ⟨_, rfl, fun _ => HNF.out, HBE.out⟩
end
end Go.Proofs.YtaeeblceedklnaaGreatDoor
