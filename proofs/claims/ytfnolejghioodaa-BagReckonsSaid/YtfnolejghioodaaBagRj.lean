/- Law BagReckons: the walk. -/
import Derived.Test.YtfnolejghioodaaBagRi
import Derived.Lib.SmallJoins
namespace Go.Proofs.Ytfnolejghioodaa
open Go.RowKit
theorem one_block {v : Value} {A : Option Addr} {j c : Nat} (_ : v = .slice A j c) : True := trivial
set_option maxRecDepth 100000 in
set_option maxHeartbeats 8000000 in
theorem law_BagReckons (A0 : Option Addr) (n0 c0 : Nat) (L0 : Row) (A1 : Option Addr) (n1 c1 : Nat) (L1 : Row) (w : World) (H0 : Hid (Sl w (.slice A0 n0 c0) n0 2 (pairCells L0))) (i0 : Hid (I64s L0)) (H1 : Hid (Sl w (.slice A1 n1 c1) n1 2 (pairCells L1))) (i1 : Hid (I64s L1)) :
    Calls Try.prog 4 #[.slice A0 n0 c0, .slice A1 n1 c1] w fun e w' => e = .returned (.bool true) ∧ Below w.heap.size w w' := by
  have cS := Lib.hid (law03_small w)
  have b0 := H0.out.bound
  have b1 := H1.out.bound
  by_cases g0 : 60 < n0
  · go_enter Try.func4, Try.ntmps4
    go_wp2_with fail
    refine (cS.out).mono ?_
    rintro e w1 ⟨rfl, hb⟩
    have B := Lib.hid hb
    clear hb
    go_wp2
    go_ret
    exact ⟨rfl, B.out⟩
  by_cases g1 : 60 < n1
  · go_enter Try.func4, Try.ntmps4
    go_wp2_with fail
    refine (cS.out).mono ?_
    rintro e w2 ⟨rfl, hb⟩
    have B := Lib.hid hb
    clear hb
    go_wp2
    go_ret
    exact ⟨rfl, B.out⟩
  have hc0 := Lib.hid (pair_cells_one L0)
  have hc1 := Lib.hid (pair_cells_one L1)
  have h60 : n0 ≤ 60 := by omega
  have h61 : n1 ≤ 60 := by omega
  go_enter Try.func4, Try.ntmps4
  go_wp2_with fail
  refine cS.out.mono ?_
  rintro e w1 ⟨rfl, hb⟩
  have B := Lib.hid hb
  replace H0 := Lib.hid (H0.out.below hb)
  replace H1 := Lib.hid (H1.out.below hb)
  clear hb cS
  have hown := Lib.hid (World.ownsRow_made w1 (base := w1.heap.size) (e := 39) (size := 2) #[] 0 (Nat.le_refl _) (by decide) rfl)
  have HB0 := Lib.hid ((Below.refl w1.heap.size w1).alloc (Nat.le_refl _) (.cells #[] 39))
  have hsrc := Lib.hid (H0.out.below HB0.out)
  go_wp2_with (first
    | (at_builtin
       refine wpList_append_sl pairs_ty rfl (.tmp 30) (.tmp 31) rfl w1.heap.size rfl (by exact hown.out) rfl (by exact hsrc.out) hc0.out (by omega) (by omega) (by simp) ?_
       intro v4 w4 hown4 hg4 hat4
       rw [Nat.zero_add, List.nil_append] at hown4
       obtain ⟨A4, c4, rfl, _, _⟩ := own_form hown4
       have HO := Lib.hid hown4
       have HG := Lib.hid hg4
       clear hown4 hg4 hat4
       have HB4 := Lib.hid (show Below w1.heap.size w1 w4 from below_grown HB0.out HG.out hown.out (Nat.le_refl _) (by simp))
       clear HG hown HB0 hsrc
       replace B := Lib.hid (below_then B.out HB4.out)
       replace H0 := Lib.hid (H0.out.below HB4.out)
       replace H1 := Lib.hid (H1.out.below HB4.out)
       have HX := Lib.hid (Sl.of_own HO.out)
       clear HO HB4
       have hown := Lib.hid (World.ownsRow_made w4 (base := w4.heap.size) (e := 39) (size := 2) #[] 0 (Nat.le_refl _) (by decide) rfl)
       have HB0 := Lib.hid ((Below.refl w4.heap.size w4).alloc (Nat.le_refl _) (.cells #[] 39))
       have hsrc := Lib.hid (H1.out.below HB0.out))
    | (at_builtin
       refine wpList_append_sl pairs_ty rfl (.tmp 33) (.tmp 34) rfl w4.heap.size rfl (by exact hown.out) rfl (by exact hsrc.out) hc1.out (by omega) (by omega) (by simp) ?_
       intro v5 w5 hown5 hg5 hat5
       rw [Nat.zero_add, List.nil_append] at hown5
       obtain ⟨A5, c5, rfl, _, _⟩ := own_form hown5
       have HO := Lib.hid hown5
       have HG := Lib.hid hg5
       clear hown5 hg5 hat5))
  have HB5 := Lib.hid (show Below w4.heap.size w4 w5 from below_grown HB0.out HG.out hown.out (Nat.le_refl _) (by simp))
  clear HG hown HB0 hsrc
  replace B := Lib.hid (below_then B.out HB5.out)
  replace H0 := Lib.hid (H0.out.below HB5.out)
  replace H1 := Lib.hid (H1.out.below HB5.out)
  replace HX := Lib.hid (HX.out.below HB5.out)
  have HY := Lib.hid (Sl.of_own HO.out)
  clear HO HB5
  have C := Lib.hid (Below.refl w5.heap.size w5)
  -- Sum
  go_wp2_with fail
  refine (sumP HX.out i0.out HY.out i1.out (by omega) (by omega)).mono ?_
  rintro e w6 ⟨AS, cs, ns, MS, zs, rfl, qs, vs, os, hb⟩
  have QS := Lib.hid qs
  have VS := Lib.hid vs
  have OS := Lib.hid os
  replace C := Lib.hid (below_then C.out hb)
  clear qs vs os hb
  have ks : Hid (∀ g, (Value.slice AS ns cs).ownBlock = some g → g < w6.heap.size) := fun g hg => (OS.out.lt g hg).2
  go_wp2_with fail
  refine (sumR (H0.out.below C.out) (H1.out.below C.out) (by omega) (by omega)).mono ?_
  rintro e w7 ⟨AT, ct, nt, MT, zt, rfl, qt, vt, ot, hb⟩
  obtain ⟨e1, e2⟩ := VS.out.uniq vt
  subst e1 e2
  have QT := Lib.hid (qt.trans QS.out.symm)
  have OT := Lib.hid (Sl.of_own ot)
  replace OS := Lib.hid (own_below OS.out hb)
  have s67 := hb.size
  replace C := Lib.hid (below_then C.out hb)
  have s57 := C.out.size
  clear qt vt ot hb VS
  -- Less
  go_wp2_with fail
  refine (lessP (HX.out.below C.out) i0.out (HY.out.below C.out) i1.out (by omega) (by omega)).mono ?_
  rintro e w8 ⟨AL, cl, nl, ML, zl, rfl, ql, vl, ol, hb⟩
  have QL := Lib.hid ql
  have VL := Lib.hid vl
  have OL := Lib.hid ol
  replace OS := Lib.hid (own_below OS.out hb)
  replace OT := Lib.hid (OT.out.below hb)
  have s78 := hb.size
  replace C := Lib.hid (below_then C.out hb)
  clear ql vl ol hb
  have kl : Hid (∀ g, (Value.slice AL nl cl).ownBlock = some g → g < w8.heap.size) := fun g hg => (OL.out.lt g hg).2
  go_wp2_with fail
  refine (lessR (H0.out.below C.out) (H1.out.below C.out) (by omega) (by omega)).mono ?_
  rintro e w9 ⟨AK, ck, nk, MK, zk, rfl, qk, vk, ok, hb⟩
  obtain ⟨e1, e2⟩ := VL.out.uniq vk
  subst e1 e2
  have QK := Lib.hid (qk.trans QL.out.symm)
  have OK := Lib.hid (Sl.of_own ok)
  replace OS := Lib.hid (own_below OS.out hb)
  replace OT := Lib.hid (OT.out.below hb)
  replace OL := Lib.hid (own_below OL.out hb)
  have s89 := hb.size
  replace C := Lib.hid (below_then C.out hb)
  have s59 := C.out.size
  clear qk vk ok hb VL
  -- Most
  go_wp2_with fail
  refine (mostP (HX.out.below C.out) i0.out (HY.out.below C.out) i1.out (by omega) (by omega)).mono ?_
  rintro e w10 ⟨AM, cm, nm, MM, rfl, qm, vm, om, hb⟩
  have QM := Lib.hid qm
  have VM := Lib.hid vm
  have OM := Lib.hid om
  replace OS := Lib.hid (own_below OS.out hb)
  replace OT := Lib.hid (OT.out.below hb)
  replace OL := Lib.hid (own_below OL.out hb)
  replace OK := Lib.hid (OK.out.below hb)
  replace C := Lib.hid (below_then C.out hb)
  clear qm vm om hb
  have ns9 : ns ≤ 9223372036854775807 := (Sl.of_own OS.out).bound
  have nl9 : nl ≤ 9223372036854775807 := (Sl.of_own OL.out).bound
  have nm9 : nm ≤ 9223372036854775807 := (Sl.of_own OM.out).bound
  have nt9 : nt ≤ 9223372036854775807 := OT.out.bound
  have nk9 : nk ≤ 9223372036854775807 := OK.out.bound
  -- compared
  have cW := Lib.hid (ref_Rows AS AT ns nt cs ct MS MS w10 (Lib.hid (Sl.of_own OS.out)) OT ns9 nt9)
  simp only [decide_true] at cW
  go_wp2_with fail
  refine cW.out.mono ?_
  rintro e w11 ⟨rfl, q11, h11⟩
  have hb : Below w10.heap.size w10 w11 := by rw [h11]; exact below_drew w10 q11
  replace OS := Lib.hid (own_below OS.out hb)
  replace OL := Lib.hid (own_below OL.out hb)
  replace OK := Lib.hid (OK.out.below hb)
  replace OM := Lib.hid (own_below OM.out hb)
  replace C := Lib.hid (below_then C.out hb)
  clear hb h11 cW OT
  have cW := Lib.hid (ref_Rows AL AK nl nk cl ck ML ML w11 (Lib.hid (Sl.of_own OL.out)) OK nl9 nk9)
  simp only [decide_true] at cW
  go_wp2_with fail
  refine cW.out.mono ?_
  rintro e w12 ⟨rfl, q12, h12⟩
  have hb : Below w11.heap.size w11 w12 := by rw [h12]; exact below_drew w11 q12
  replace OS := Lib.hid (own_below OS.out hb)
  replace OL := Lib.hid (own_below OL.out hb)
  replace OM := Lib.hid (own_below OM.out hb)
  replace C := Lib.hid (below_then C.out hb)
  clear hb h12 cW OK
  go_wp2_with fail
  refine (mostR (H0.out.below C.out) (H1.out.below C.out) (by omega) (by omega)).mono ?_
  rintro e w13 ⟨AN, cn, nn, MN, rfl, qn, vn, on, hb⟩
  have e1 := VM.out.uniq vn
  subst e1
  have ON := Lib.hid (Sl.of_own on)
  have nn9 : nn ≤ 9223372036854775807 := ON.out.bound
  replace OS := Lib.hid (own_below OS.out hb)
  replace OL := Lib.hid (own_below OL.out hb)
  replace OM := Lib.hid (own_below OM.out hb)
  replace C := Lib.hid (below_then C.out hb)
  clear hb qn vn on VM
  have cW := Lib.hid (ref_Rows AM AN nm nn cm cn MM MM w13 (Lib.hid (Sl.of_own OM.out)) ON nm9 nn9)
  simp only [decide_true] at cW
  go_wp2_with fail
  refine cW.out.mono ?_
  rintro e w14 ⟨rfl, q14, h14⟩
  have hb : Below w13.heap.size w13 w14 := by rw [h14]; exact below_drew w13 q14
  replace OS := Lib.hid (own_below OS.out hb)
  replace OL := Lib.hid (own_below OL.out hb)
  replace OM := Lib.hid (own_below OM.out hb)
  replace C := Lib.hid (below_then C.out hb)
  clear hb h14 cW ON QT QK
  have sB := C.out.size
  -- the three spoilings
  go_wp2_with fail
  go_loopw [17] (fun v wr => ∃ (k : Nat) (xs : List Value), k ≤ ns ∧ v = .int .i64 (k : Int) ∧ Hid (wr.ownsRow w5.heap.size 39 2 (.slice AS ns cs) ns xs) ∧ Hid (wr.ownsRow w7.heap.size 39 2 (.slice AL nl cl) nl (pairCells ML)) ∧ Hid (wr.ownsRow w9.heap.size 39 2 (.slice AM nm cm) nm (pairCells MM)) ∧ Hid (Below w5.heap.size w5 wr)) (fun v _ => ns - (RowKit.intOf v).toNat)
  case atStart => exact ⟨0, _, by omega, rfl, OS.out, OL.out, OM.out, C.out⟩
  case round =>
    obtain ⟨k, xs, hk, rfl, hs, hl, hm, hC⟩ := hrel
    by_cases hlt : k < ns
    · obtain ⟨g, cap, e9⟩ := Joins.ownsRow_form hs.out (by omega)
      injection e9 with e9 _ e8
      subst e9 e8
      have hg5 := (hs.out.lt g rfl).1
      have hgs := ks.out g rfl
      have hcl : ∃ u, wr.cell? ⟨g, k * 2, none⟩ = some u := by
        have h1 := hs.out.1
        rw [hs.out.cellAt (k * 2) (by omega), List.getElem?_eq_getElem (by omega)]
        exact ⟨_, rfl⟩
      obtain ⟨u, hu⟩ := hcl
      have hfz : wr.frozen? ⟨g, k * 2, none⟩ = false := hs.out.frozenAt _
      have hlt2 : (k : Int) < (ns : Int) := by omega
      have hk0 : (0 : Int) ≤ (k : Int) := by omega
      have N1 := Lib.hid (hs.out.stored (k * 2) (.int .i64 (-7))).1
      have N2 := Lib.hid (own_other hl.out (v2 := .slice (some ⟨g, 0, none⟩) ns cs) (fun j hj => by have := ks.out j hj; omega) hs.out (g := g) (o := k * 2) rfl (.int .i64 (-7)))
      have N3 := Lib.hid (own_other hm.out (v2 := .slice (some ⟨g, 0, none⟩) ns cs) (fun j hj => by have := ks.out j hj; omega) hs.out (g := g) (o := k * 2) rfl (.int .i64 (-7)))
      have N4 := Lib.hid (hC.out.setCell (p := ⟨g, k * 2, none⟩) hg5 (.int .i64 (-7)))
      go_wp2
      go_roundw
      case rel => exact ⟨k + 1, _, by omega, by go_num, N1.out, N2.out, N3.out, N4.out⟩
      case measure => simp [RowKit.intOf]; omega
    · clear hs OS OL OM C
      go_wp2
      go_loopw [18] (fun v wr => ∃ (k : Nat) (xs : List Value), k ≤ nl ∧ v = .int .i64 (k : Int) ∧ Hid (wr.ownsRow w7.heap.size 39 2 (.slice AL nl cl) nl xs) ∧ Hid (wr.ownsRow w9.heap.size 39 2 (.slice AM nm cm) nm (pairCells MM)) ∧ Hid (Below w5.heap.size w5 wr)) (fun v _ => nl - (RowKit.intOf v).toNat)
      case atStart => exact ⟨0, _, by omega, rfl, hl.out, hm.out, hC.out⟩
      case round =>
        obtain ⟨k, xs, hk, rfl, hs, hm, hC⟩ := hrel
        by_cases hlt : k < nl
        · obtain ⟨g, cap, e9⟩ := Joins.ownsRow_form hs.out (by omega)
          injection e9 with e9 _ e8
          subst e9 e8
          have hg5 := (hs.out.lt g rfl).1
          have hgs := kl.out g rfl
          have hcl : ∃ u, wr.cell? ⟨g, k * 2, none⟩ = some u := by
            have h1 := hs.out.1
            rw [hs.out.cellAt (k * 2) (by omega), List.getElem?_eq_getElem (by omega)]
            exact ⟨_, rfl⟩
          obtain ⟨u, hu⟩ := hcl
          have hfz : wr.frozen? ⟨g, k * 2, none⟩ = false := hs.out.frozenAt _
          have hlt2 : (k : Int) < (nl : Int) := by omega
          have hk0 : (0 : Int) ≤ (k : Int) := by omega
          have hs57 : w5.heap.size ≤ g := by omega
          have N1 := Lib.hid (hs.out.stored (k * 2) (.int .i64 (-7))).1
          have N3 := Lib.hid (own_other hm.out (v2 := .slice (some ⟨g, 0, none⟩) nl cl) (fun j hj => by have := kl.out j hj; omega) hs.out (g := g) (o := k * 2) rfl (.int .i64 (-7)))
          have N4 := Lib.hid (hC.out.setCell (p := ⟨g, k * 2, none⟩) hs57 (.int .i64 (-7)))
          go_wp2
          go_roundw
          case rel => exact ⟨k + 1, _, by omega, by go_num, N1.out, N3.out, N4.out⟩
          case measure => simp [RowKit.intOf]; omega
        · clear hs
          go_wp2
          go_loopw [19] (fun v wr => ∃ (k : Nat) (xs : List Value), k ≤ nm ∧ v = .int .i64 (k : Int) ∧ Hid (wr.ownsRow w9.heap.size 39 2 (.slice AM nm cm) nm xs) ∧ Hid (Below w5.heap.size w5 wr)) (fun v _ => nm - (RowKit.intOf v).toNat)
          case atStart => exact ⟨0, _, by omega, rfl, hm.out, hC.out⟩
          case round =>
            obtain ⟨k, xs, hk, rfl, hs, hC⟩ := hrel
            by_cases hlt : k < nm
            · obtain ⟨g, cap, e9⟩ := Joins.ownsRow_form hs.out (by omega)
              injection e9 with e9 _ e8
              subst e9 e8
              have hg5 := (hs.out.lt g rfl).1
              have hcl : ∃ u, wr.cell? ⟨g, k * 2, none⟩ = some u := by
                have h1 := hs.out.1
                rw [hs.out.cellAt (k * 2) (by omega), List.getElem?_eq_getElem (by omega)]
                exact ⟨_, rfl⟩
              obtain ⟨u, hu⟩ := hcl
              have hfz : wr.frozen? ⟨g, k * 2, none⟩ = false := hs.out.frozenAt _
              have hlt2 : (k : Int) < (nm : Int) := by omega
              have hk0 : (0 : Int) ≤ (k : Int) := by omega
              have hs57 : w5.heap.size ≤ g := by omega
              have N1 := Lib.hid (hs.out.stored (k * 2) (.int .i64 (-7))).1
              have N4 := Lib.hid (hC.out.setCell (p := ⟨g, k * 2, none⟩) hs57 (.int .i64 (-7)))
              go_wp2
              go_roundw
              case rel => exact ⟨k + 1, _, by omega, by go_num, N1.out, N4.out⟩
              case measure => simp [RowKit.intOf]; omega
            · clear hs
              obtain ⟨w15, hw15⟩ : ∃ w15, w15 = wr := ⟨_, rfl⟩
              rw [← hw15] at hC ⊢
              clear hw15
              have n04 : n0 ≤ 9223372036854775807 := by omega
              have n14 : n1 ≤ 9223372036854775807 := by omega
              have cW := Lib.hid (ref_Rows A4 A0 n0 n0 c4 c0 L0 L0 w15 (Lib.hid (HX.out.below hC.out)) (Lib.hid (H0.out.below hC.out)) n04 n04)
              simp only [decide_true] at cW
              go_wp2_with fail
              refine cW.out.mono ?_
              rintro e w16 ⟨rfl, q16, h16⟩
              replace hC := Lib.hid (show Below w5.heap.size w5 w16 by rw [h16]; exact below_drewN' hC.out q16)
              clear h16 cW
              have cW := Lib.hid (ref_Rows A5 A1 n1 n1 c5 c1 L1 L1 w16 (Lib.hid (HY.out.below hC.out)) (Lib.hid (H1.out.below hC.out)) n14 n14)
              simp only [decide_true] at cW
              go_wp2_with fail
              refine cW.out.mono ?_
              rintro e w17 ⟨rfl, q17, h17⟩
              replace hC := Lib.hid (show Below w5.heap.size w5 w17 by rw [h17]; exact below_drewN' hC.out q17)
              clear h17 cW HX HY
              obtain ⟨R, hR⟩ : ∃ R, R = withR L0 L1 := ⟨_, rfl⟩
              have hRR : (R == R) = true := by simp
              have cP := Lib.hid (bag_Within A0 n0 c0 L0 A1 n1 c1 L1 w17 (Lib.hid (H0.out.below hC.out)) i0 (by omega) (Lib.hid (H1.out.below hC.out)) i1 (by omega))
              rw [← hR] at cP
              go_wp2_with fail
              refine cP.out.mono ?_
              rintro e w18 ⟨rfl, hb⟩
              replace hC := Lib.hid (below_then hC.out hb)
              clear hb cP
              have cP := Lib.hid (ref_Within A0 n0 c0 L0 A1 n1 c1 L1 w18 (Lib.hid (H0.out.below hC.out)) (Lib.hid (H1.out.below hC.out)))
              rw [← hR] at cP
              clear hR
              go_wp2_with fail
              refine cP.out.mono ?_
              rintro e w19 ⟨rfl, q19, h19⟩
              replace hC := Lib.hid (show Below w5.heap.size w5 w19 by rw [h19]; exact below_drewN' hC.out q19)
              clear h19 cP
              obtain ⟨T, hT⟩ : ∃ T, T = sameR L0 L1 := ⟨_, rfl⟩
              have hTT : (T == T) = true := by simp
              have cP := Lib.hid (bag_Same A0 n0 c0 L0 A1 n1 c1 L1 w19 (Lib.hid (H0.out.below hC.out)) (Lib.hid (H1.out.below hC.out)))
              rw [← hT] at cP
              go_wp2_with fail
              refine cP.out.mono ?_
              rintro e w20 ⟨rfl, hb⟩
              replace hC := Lib.hid (below_then hC.out hb)
              clear hb cP
              have cP := Lib.hid (ref_Same A0 n0 c0 L0 A1 n1 c1 L1 w20 (Lib.hid (H0.out.below hC.out)) (Lib.hid (H1.out.below hC.out)))
              rw [← hT] at cP
              clear hT
              go_wp2_with fail
              refine cP.out.mono ?_
              rintro e w21 ⟨rfl, q21, h21⟩
              replace hC := Lib.hid (show Below w5.heap.size w5 w21 by rw [h21]; exact below_drewN' hC.out q21)
              clear h21 cP
              go_wp2_with fail
              refine (bag_Compare A0 n0 c0 L0 A1 n1 c1 L1 w21 (Lib.hid (H0.out.below hC.out)) i0 (by omega) (Lib.hid (H1.out.below hC.out)) i1 (by omega)).mono ?_
              rintro e w22 ⟨⟨z, rfl, hz⟩, hb⟩
              replace hC := Lib.hid (below_then hC.out hb)
              have HZ := Lib.hid hz
              clear hb hz
              go_wp2_with fail
              refine (ref_Compare A0 n0 c0 L0 A1 n1 c1 L1 w22 (Lib.hid (H0.out.below hC.out)) (Lib.hid (H1.out.below hC.out)) (by omega) (by omega)).mono ?_
              rintro e w23 ⟨⟨y, rfl, hy⟩, hb⟩
              have e9 := cmpR_uniq HZ.out hy
              subst e9
              replace hC := Lib.hid (below_then hC.out hb)
              clear hb hy HZ
              go_wp2
              go_ret
              exact ⟨rfl, below_then B.out hC.out⟩
end Go.Proofs.Ytfnolejghioodaa
