/- Law BagOrders: the walk. -/
import Derived.Test.YtfnolejghioodaaBagQ
namespace Go.Proofs.Ytfnolejghioodaa
open Go.RowKit
set_option maxRecDepth 100000 in
set_option maxHeartbeats 4000000 in
theorem law_BagOrders (A0 : Option Addr) (n0 c0 : Nat) (L0 : Row) (A1 : Option Addr) (n1 c1 : Nat) (L1 : Row) (A2 : Option Addr) (n2 c2 : Nat) (L2 : Row) (w : World) (H0 : Hid (Sl w (.slice A0 n0 c0) n0 2 (pairCells L0))) (i0 : Hid (I64s L0)) (H1 : Hid (Sl w (.slice A1 n1 c1) n1 2 (pairCells L1))) (i1 : Hid (I64s L1)) (H2 : Hid (Sl w (.slice A2 n2 c2) n2 2 (pairCells L2))) (i2 : Hid (I64s L2)) :
    Calls Try.prog 6 #[.slice A0 n0 c0, .slice A1 n1 c1, .slice A2 n2 c2] w fun e w' => e = .returned (.bool true) ∧ Below w.heap.size w w' := by
  have cS := Lib.hid (law03_small w)
  have b0 := H0.out.bound
  have b1 := H1.out.bound
  have b2 := H2.out.bound
  by_cases g0 : 60 < n0
  · go_enter Try.func6, Try.ntmps6
    go_wp2_with fail
    refine (cS.out).mono ?_
    rintro e w1 ⟨rfl, hb⟩
    have B := Lib.hid hb
    replace H0 := Lib.hid (H0.out.below hb)
    replace H1 := Lib.hid (H1.out.below hb)
    replace H2 := Lib.hid (H2.out.below hb)
    clear hb
    go_wp2
    go_ret
    exact ⟨rfl, B.out⟩
  by_cases g1 : 60 < n1
  · go_enter Try.func6, Try.ntmps6
    go_wp2_with fail
    refine (cS.out).mono ?_
    rintro e w2 ⟨rfl, hb⟩
    have B := Lib.hid hb
    replace H0 := Lib.hid (H0.out.below hb)
    replace H1 := Lib.hid (H1.out.below hb)
    replace H2 := Lib.hid (H2.out.below hb)
    clear hb
    go_wp2
    go_ret
    exact ⟨rfl, B.out⟩
  by_cases g2 : 60 < n2
  · go_enter Try.func6, Try.ntmps6
    go_wp2_with fail
    refine (cS.out).mono ?_
    rintro e w3 ⟨rfl, hb⟩
    have B := Lib.hid hb
    replace H0 := Lib.hid (H0.out.below hb)
    replace H1 := Lib.hid (H1.out.below hb)
    replace H2 := Lib.hid (H2.out.below hb)
    clear hb
    go_wp2
    go_ret
    exact ⟨rfl, B.out⟩
  obtain ⟨R0, r0⟩ : ∃ R, rightB L0 = R := ⟨_, rfl⟩
  replace r0 := Lib.hid r0
  cases R0 with
  | false =>
    go_enter Try.func6, Try.ntmps6
    go_wp2_with fail
    refine (cS.out).mono ?_
    rintro e w4 ⟨rfl, hb⟩
    have B := Lib.hid hb
    replace H0 := Lib.hid (H0.out.below hb)
    replace H1 := Lib.hid (H1.out.below hb)
    replace H2 := Lib.hid (H2.out.below hb)
    clear hb
    have cR := Lib.hid (bag_Right A0 n0 c0 L0 w4 H0)
    rw [r0.out] at cR
    go_wp2_with fail
    refine (cR.out).mono ?_
    rintro e w5 ⟨rfl, hb⟩
    replace B := Lib.hid (below_then B.out hb)
    replace H0 := Lib.hid (H0.out.below hb)
    replace H1 := Lib.hid (H1.out.below hb)
    replace H2 := Lib.hid (H2.out.below hb)
    clear hb
    clear cR
    go_wp2
    go_ret
    exact ⟨rfl, B.out⟩
  | true =>
  obtain ⟨R1, r1⟩ : ∃ R, rightB L1 = R := ⟨_, rfl⟩
  replace r1 := Lib.hid r1
  cases R1 with
  | false =>
    go_enter Try.func6, Try.ntmps6
    go_wp2_with fail
    refine (cS.out).mono ?_
    rintro e w6 ⟨rfl, hb⟩
    have B := Lib.hid hb
    replace H0 := Lib.hid (H0.out.below hb)
    replace H1 := Lib.hid (H1.out.below hb)
    replace H2 := Lib.hid (H2.out.below hb)
    clear hb
    have cR := Lib.hid (bag_Right A0 n0 c0 L0 w6 H0)
    rw [r0.out] at cR
    go_wp2_with fail
    refine (cR.out).mono ?_
    rintro e w7 ⟨rfl, hb⟩
    replace B := Lib.hid (below_then B.out hb)
    replace H0 := Lib.hid (H0.out.below hb)
    replace H1 := Lib.hid (H1.out.below hb)
    replace H2 := Lib.hid (H2.out.below hb)
    clear hb
    clear cR
    have cR := Lib.hid (bag_Right A1 n1 c1 L1 w7 H1)
    rw [r1.out] at cR
    go_wp2_with fail
    refine (cR.out).mono ?_
    rintro e w8 ⟨rfl, hb⟩
    replace B := Lib.hid (below_then B.out hb)
    replace H0 := Lib.hid (H0.out.below hb)
    replace H1 := Lib.hid (H1.out.below hb)
    replace H2 := Lib.hid (H2.out.below hb)
    clear hb
    clear cR
    go_wp2
    go_ret
    exact ⟨rfl, B.out⟩
  | true =>
  obtain ⟨R2, r2⟩ : ∃ R, rightB L2 = R := ⟨_, rfl⟩
  replace r2 := Lib.hid r2
  cases R2 with
  | false =>
    go_enter Try.func6, Try.ntmps6
    go_wp2_with fail
    refine (cS.out).mono ?_
    rintro e w9 ⟨rfl, hb⟩
    have B := Lib.hid hb
    replace H0 := Lib.hid (H0.out.below hb)
    replace H1 := Lib.hid (H1.out.below hb)
    replace H2 := Lib.hid (H2.out.below hb)
    clear hb
    have cR := Lib.hid (bag_Right A0 n0 c0 L0 w9 H0)
    rw [r0.out] at cR
    go_wp2_with fail
    refine (cR.out).mono ?_
    rintro e w10 ⟨rfl, hb⟩
    replace B := Lib.hid (below_then B.out hb)
    replace H0 := Lib.hid (H0.out.below hb)
    replace H1 := Lib.hid (H1.out.below hb)
    replace H2 := Lib.hid (H2.out.below hb)
    clear hb
    clear cR
    have cR := Lib.hid (bag_Right A1 n1 c1 L1 w10 H1)
    rw [r1.out] at cR
    go_wp2_with fail
    refine (cR.out).mono ?_
    rintro e w11 ⟨rfl, hb⟩
    replace B := Lib.hid (below_then B.out hb)
    replace H0 := Lib.hid (H0.out.below hb)
    replace H1 := Lib.hid (H1.out.below hb)
    replace H2 := Lib.hid (H2.out.below hb)
    clear hb
    clear cR
    have cR := Lib.hid (bag_Right A2 n2 c2 L2 w11 H2)
    rw [r2.out] at cR
    go_wp2_with fail
    refine (cR.out).mono ?_
    rintro e w12 ⟨rfl, hb⟩
    replace B := Lib.hid (below_then B.out hb)
    replace H0 := Lib.hid (H0.out.below hb)
    replace H1 := Lib.hid (H1.out.below hb)
    replace H2 := Lib.hid (H2.out.below hb)
    clear hb
    clear cR
    go_wp2
    go_ret
    exact ⟨rfl, B.out⟩
  | true =>
  have k0 := Lib.hid ((rightB_iff L0).1 r0.out)
  have l0 := Lib.hid (show L0.length = n0 by have := H0.out.len; rw [pairCells_len] at this; omega)
  have k1 := Lib.hid ((rightB_iff L1).1 r1.out)
  have l1 := Lib.hid (show L1.length = n1 by have := H1.out.len; rw [pairCells_len] at this; omega)
  have k2 := Lib.hid ((rightB_iff L2).1 r2.out)
  have l2 := Lib.hid (show L2.length = n2 by have := H2.out.len; rw [pairCells_len] at this; omega)
  go_enter Try.func6, Try.ntmps6
  go_wp2_with fail
  refine (cS.out).mono ?_
  rintro e w13 ⟨rfl, hb⟩
  have B := Lib.hid hb
  replace H0 := Lib.hid (H0.out.below hb)
  replace H1 := Lib.hid (H1.out.below hb)
  replace H2 := Lib.hid (H2.out.below hb)
  clear hb
  have cR := Lib.hid (bag_Right A0 n0 c0 L0 w13 H0)
  rw [r0.out] at cR
  go_wp2_with fail
  refine (cR.out).mono ?_
  rintro e w14 ⟨rfl, hb⟩
  replace B := Lib.hid (below_then B.out hb)
  replace H0 := Lib.hid (H0.out.below hb)
  replace H1 := Lib.hid (H1.out.below hb)
  replace H2 := Lib.hid (H2.out.below hb)
  clear hb
  clear cR
  have cR := Lib.hid (bag_Right A1 n1 c1 L1 w14 H1)
  rw [r1.out] at cR
  go_wp2_with fail
  refine (cR.out).mono ?_
  rintro e w15 ⟨rfl, hb⟩
  replace B := Lib.hid (below_then B.out hb)
  replace H0 := Lib.hid (H0.out.below hb)
  replace H1 := Lib.hid (H1.out.below hb)
  replace H2 := Lib.hid (H2.out.below hb)
  clear hb
  clear cR
  have cR := Lib.hid (bag_Right A2 n2 c2 L2 w15 H2)
  rw [r2.out] at cR
  go_wp2_with fail
  refine (cR.out).mono ?_
  rintro e w16 ⟨rfl, hb⟩
  replace B := Lib.hid (below_then B.out hb)
  replace H0 := Lib.hid (H0.out.below hb)
  replace H1 := Lib.hid (H1.out.below hb)
  replace H2 := Lib.hid (H2.out.below hb)
  clear hb
  clear cR
  go_wp2_with fail
  refine (gotCompare (a := L0) (b := L1) H0.out i0 H1.out i1 (by omega) (by omega) k0.out k1.out).mono ?_
  rintro e w17 ⟨z, rfl, hz, hb⟩
  replace B := Lib.hid (below_then B.out hb)
  replace H0 := Lib.hid (H0.out.below hb)
  replace H1 := Lib.hid (H1.out.below hb)
  replace H2 := Lib.hid (H2.out.below hb)
  clear hb
  replace hz := Lib.hid hz
  obtain ⟨sv, hsv⟩ : ∃ sv, sv = sameR L0 L1 := ⟨_, rfl⟩
  have hs0 := Lib.hid (show sv = true ↔ z = 0 by rw [hsv, sameR_eq k0.out k1.out, decide_eq_true_eq, hz.out.zero]; exact ⟨fun e k => by rw [e], fun h => k0.out.eq_of k1.out h⟩)
  replace hsv := Lib.hid hsv
  rcases hz.out.val with rfl | rfl | rfl
  · have dmy := True.intro
    clear dmy
    obtain rfl : sv = true := hs0.out.2 rfl
    go_wp2_with fail
    refine (gotCompare (a := L1) (b := L0) H1.out i1 H0.out i0 (by omega) (by omega) k1.out k0.out).mono ?_
    rintro e w18 ⟨z2, rfl, hz2, hb⟩
    replace B := Lib.hid (below_then B.out hb)
    replace H0 := Lib.hid (H0.out.below hb)
    replace H1 := Lib.hid (H1.out.below hb)
    replace H2 := Lib.hid (H2.out.below hb)
    clear hb
    replace hz2 := Lib.hid hz2
    obtain rfl : z2 = 0 := hz2.out.uniq hz.out.swap
    have cW := Lib.hid (bag_Same A0 n0 c0 L0 A1 n1 c1 L1 w18 H0 H1)
    rw [← hsv.out] at cW
    go_wp2_with fail
    refine (cW.out).mono ?_
    rintro e w19 ⟨rfl, hb⟩
    replace B := Lib.hid (below_then B.out hb)
    replace H0 := Lib.hid (H0.out.below hb)
    replace H1 := Lib.hid (H1.out.below hb)
    replace H2 := Lib.hid (H2.out.below hb)
    clear hb
    clear cW
    obtain ⟨F, hF⟩ : ∃ F, fullB L0 L2 = F := ⟨_, rfl⟩
    obtain ⟨E, hE⟩ : ∃ E, fullB L1 L2 = E := ⟨_, rfl⟩
    replace hF := Lib.hid hF
    replace hE := Lib.hid hE
    cases F with
    | true =>
      go_wp2_with fail
      refine (gotFull (a := L0) (b := L2) H0.out i0 H2.out i2 (by omega) (by omega) k0.out k2.out hF.out).mono ?_
      rintro e w20 ⟨rfl, hb⟩
      replace B := Lib.hid (below_then B.out hb)
      replace H0 := Lib.hid (H0.out.below hb)
      replace H1 := Lib.hid (H1.out.below hb)
      replace H2 := Lib.hid (H2.out.below hb)
      clear hb
      cases E with
      | true =>
        go_wp2_with fail
        refine (gotFull (a := L1) (b := L2) H1.out i1 H2.out i2 (by omega) (by omega) k1.out k2.out hE.out).mono ?_
        rintro e w21 ⟨rfl, hb⟩
        replace B := Lib.hid (below_then B.out hb)
        replace H0 := Lib.hid (H0.out.below hb)
        replace H1 := Lib.hid (H1.out.below hb)
        replace H2 := Lib.hid (H2.out.below hb)
        clear hb
        go_wp2
        go_ret
        exact ⟨rfl, B.out⟩
      | false =>
        go_wp2_with fail
        refine (gotSum (a := L1) (b := L2) H1.out i1 H2.out i2 (by omega) (by omega) k1.out k2.out hE.out).mono ?_
        rintro e w22 ⟨Ay, cy, Ly, ny, rfl, ey, qy, gy, iy, hy, hb⟩
        replace B := Lib.hid (below_then B.out hb)
        replace H0 := Lib.hid (H0.out.below hb)
        replace H1 := Lib.hid (H1.out.below hb)
        replace H2 := Lib.hid (H2.out.below hb)
        clear hb
        rw [l1.out, l2.out] at qy
        have Hy := Lib.hid hy
        replace iy := Lib.hid iy
        have Gy := Lib.hid gy
        have ly := Lib.hid ey.symm
        clear hy gy ey
        go_wp2
        go_ret
        exact ⟨rfl, B.out⟩
    | false =>
      go_wp2_with fail
      refine (gotSum (a := L0) (b := L2) H0.out i0 H2.out i2 (by omega) (by omega) k0.out k2.out hF.out).mono ?_
      rintro e w23 ⟨Ax, cx, Lx, nx, rfl, ex, qx, gx, ix, hx, hb⟩
      replace B := Lib.hid (below_then B.out hb)
      replace H0 := Lib.hid (H0.out.below hb)
      replace H1 := Lib.hid (H1.out.below hb)
      replace H2 := Lib.hid (H2.out.below hb)
      clear hb
      rw [l0.out, l2.out] at qx
      have Hx := Lib.hid hx
      replace ix := Lib.hid ix
      have Gx := Lib.hid gx
      have lx := Lib.hid ex.symm
      clear hx gx ex
      cases E with
      | true =>
        go_wp2_with fail
        refine (gotFull (a := L1) (b := L2) H1.out i1 H2.out i2 (by omega) (by omega) k1.out k2.out hE.out).mono ?_
        rintro e w24 ⟨rfl, hb⟩
        replace B := Lib.hid (below_then B.out hb)
        replace H0 := Lib.hid (H0.out.below hb)
        replace H1 := Lib.hid (H1.out.below hb)
        replace H2 := Lib.hid (H2.out.below hb)
        replace Hx := Lib.hid (Hx.out.below hb)
        clear hb
        go_wp2
        go_ret
        exact ⟨rfl, B.out⟩
      | false =>
        go_wp2_with fail
        refine (gotSum (a := L1) (b := L2) H1.out i1 H2.out i2 (by omega) (by omega) k1.out k2.out hE.out).mono ?_
        rintro e w25 ⟨Ay, cy, Ly, ny, rfl, ey, qy, gy, iy, hy, hb⟩
        replace B := Lib.hid (below_then B.out hb)
        replace H0 := Lib.hid (H0.out.below hb)
        replace H1 := Lib.hid (H1.out.below hb)
        replace H2 := Lib.hid (H2.out.below hb)
        replace Hx := Lib.hid (Hx.out.below hb)
        clear hb
        rw [l1.out, l2.out] at qy
        have Hy := Lib.hid hy
        replace iy := Lib.hid iy
        have Gy := Lib.hid gy
        have ly := Lib.hid ey.symm
        clear hy gy ey
        obtain ⟨kx, vx⟩ := sum_ok k0.out k2.out hF.out Gx.out
        obtain ⟨ky, vy⟩ := sum_ok k1.out k2.out hE.out Gy.out
        replace kx := Lib.hid kx
        replace vx := Lib.hid vx
        replace ky := Lib.hid ky
        replace vy := Lib.hid vy
        obtain ⟨p, hp⟩ : ∃ p, p = withR L0 L1 := ⟨_, rfl⟩
        have hpx := Lib.hid (show withR Lx Ly = p by
          rw [hp, Bool.eq_iff_iff, withR_iff kx.out ky.out, withR_iff k0.out k1.out]
          constructor
          · intro h k
            have := h k
            rw [vx.out, vy.out] at this
            omega
          · intro h k
            have := h k
            rw [vx.out, vy.out]
            omega)
        replace hp := Lib.hid hp
        have hcx := Lib.hid (hz.out.add vx.out vy.out)
        cases p with
        | true =>
          have cW := Lib.hid (bag_Within Ax nx cx Lx Ay ny cy Ly w25 Hx ix (by omega) Hy iy (by omega))
          rw [hpx.out] at cW
          go_wp2_with fail
          refine (cW.out).mono ?_
          rintro e w26 ⟨rfl, hb⟩
          replace B := Lib.hid (below_then B.out hb)
          replace H0 := Lib.hid (H0.out.below hb)
          replace H1 := Lib.hid (H1.out.below hb)
          replace H2 := Lib.hid (H2.out.below hb)
          replace Hx := Lib.hid (Hx.out.below hb)
          replace Hy := Lib.hid (Hy.out.below hb)
          clear hb
          clear cW
          have cW := Lib.hid (bag_Within A0 n0 c0 L0 A1 n1 c1 L1 w26 H0 i0 (by omega) H1 i1 (by omega))
          rw [← hp.out] at cW
          go_wp2_with fail
          refine (cW.out).mono ?_
          rintro e w27 ⟨rfl, hb⟩
          replace B := Lib.hid (below_then B.out hb)
          replace H0 := Lib.hid (H0.out.below hb)
          replace H1 := Lib.hid (H1.out.below hb)
          replace H2 := Lib.hid (H2.out.below hb)
          replace Hx := Lib.hid (Hx.out.below hb)
          replace Hy := Lib.hid (Hy.out.below hb)
          clear hb
          clear cW
          go_wp2_with fail
          refine (gotCompare (a := Lx) (b := Ly) Hx.out ix Hy.out iy (by omega) (by omega) kx.out ky.out).mono ?_
          rintro e w28 ⟨z5, rfl, hz5, hb⟩
          replace B := Lib.hid (below_then B.out hb)
          replace H0 := Lib.hid (H0.out.below hb)
          replace H1 := Lib.hid (H1.out.below hb)
          replace H2 := Lib.hid (H2.out.below hb)
          replace Hx := Lib.hid (Hx.out.below hb)
          replace Hy := Lib.hid (Hy.out.below hb)
          clear hb
          replace hz5 := Lib.hid hz5
          obtain rfl := hz5.out.uniq hcx.out
          have cW := Lib.hid (bag_Within A0 n0 c0 L0 A1 n1 c1 L1 w28 H0 i0 (by omega) H1 i1 (by omega))
          rw [← hp.out] at cW
          go_wp2_with fail
          refine (cW.out).mono ?_
          rintro e w29 ⟨rfl, hb⟩
          replace B := Lib.hid (below_then B.out hb)
          replace H0 := Lib.hid (H0.out.below hb)
          replace H1 := Lib.hid (H1.out.below hb)
          replace H2 := Lib.hid (H2.out.below hb)
          replace Hx := Lib.hid (Hx.out.below hb)
          replace Hy := Lib.hid (Hy.out.below hb)
          clear hb
          clear cW
          go_wp2
          go_ret
          exact ⟨rfl, B.out⟩
        | false =>
          have cW := Lib.hid (bag_Within Ax nx cx Lx Ay ny cy Ly w25 Hx ix (by omega) Hy iy (by omega))
          rw [hpx.out] at cW
          go_wp2_with fail
          refine (cW.out).mono ?_
          rintro e w30 ⟨rfl, hb⟩
          replace B := Lib.hid (below_then B.out hb)
          replace H0 := Lib.hid (H0.out.below hb)
          replace H1 := Lib.hid (H1.out.below hb)
          replace H2 := Lib.hid (H2.out.below hb)
          replace Hx := Lib.hid (Hx.out.below hb)
          replace Hy := Lib.hid (Hy.out.below hb)
          clear hb
          clear cW
          have cW := Lib.hid (bag_Within A0 n0 c0 L0 A1 n1 c1 L1 w30 H0 i0 (by omega) H1 i1 (by omega))
          rw [← hp.out] at cW
          go_wp2_with fail
          refine (cW.out).mono ?_
          rintro e w31 ⟨rfl, hb⟩
          replace B := Lib.hid (below_then B.out hb)
          replace H0 := Lib.hid (H0.out.below hb)
          replace H1 := Lib.hid (H1.out.below hb)
          replace H2 := Lib.hid (H2.out.below hb)
          replace Hx := Lib.hid (Hx.out.below hb)
          replace Hy := Lib.hid (Hy.out.below hb)
          clear hb
          clear cW
          go_wp2_with fail
          refine (gotCompare (a := Lx) (b := Ly) Hx.out ix Hy.out iy (by omega) (by omega) kx.out ky.out).mono ?_
          rintro e w32 ⟨z5, rfl, hz5, hb⟩
          replace B := Lib.hid (below_then B.out hb)
          replace H0 := Lib.hid (H0.out.below hb)
          replace H1 := Lib.hid (H1.out.below hb)
          replace H2 := Lib.hid (H2.out.below hb)
          replace Hx := Lib.hid (Hx.out.below hb)
          replace Hy := Lib.hid (Hy.out.below hb)
          clear hb
          replace hz5 := Lib.hid hz5
          obtain rfl := hz5.out.uniq hcx.out
          have cW := Lib.hid (bag_Within A0 n0 c0 L0 A1 n1 c1 L1 w32 H0 i0 (by omega) H1 i1 (by omega))
          rw [← hp.out] at cW
          go_wp2_with fail
          refine (cW.out).mono ?_
          rintro e w33 ⟨rfl, hb⟩
          replace B := Lib.hid (below_then B.out hb)
          replace H0 := Lib.hid (H0.out.below hb)
          replace H1 := Lib.hid (H1.out.below hb)
          replace H2 := Lib.hid (H2.out.below hb)
          replace Hx := Lib.hid (Hx.out.below hb)
          replace Hy := Lib.hid (Hy.out.below hb)
          clear hb
          clear cW
          go_wp2
          go_ret
          exact ⟨rfl, B.out⟩
  · have dmy := True.intro
    clear dmy
    obtain rfl : sv = false := by
      rw [Bool.eq_false_iff]
      intro h
      have := hs0.out.1 h
      omega
    go_wp2_with fail
    refine (gotCompare (a := L1) (b := L0) H1.out i1 H0.out i0 (by omega) (by omega) k1.out k0.out).mono ?_
    rintro e w34 ⟨z2, rfl, hz2, hb⟩
    replace B := Lib.hid (below_then B.out hb)
    replace H0 := Lib.hid (H0.out.below hb)
    replace H1 := Lib.hid (H1.out.below hb)
    replace H2 := Lib.hid (H2.out.below hb)
    clear hb
    replace hz2 := Lib.hid hz2
    obtain rfl : z2 = -1 := hz2.out.uniq hz.out.swap
    have cW := Lib.hid (bag_Same A0 n0 c0 L0 A1 n1 c1 L1 w34 H0 H1)
    rw [← hsv.out] at cW
    go_wp2_with fail
    refine (cW.out).mono ?_
    rintro e w35 ⟨rfl, hb⟩
    replace B := Lib.hid (below_then B.out hb)
    replace H0 := Lib.hid (H0.out.below hb)
    replace H1 := Lib.hid (H1.out.below hb)
    replace H2 := Lib.hid (H2.out.below hb)
    clear hb
    clear cW
    obtain ⟨F, hF⟩ : ∃ F, fullB L0 L2 = F := ⟨_, rfl⟩
    obtain ⟨E, hE⟩ : ∃ E, fullB L1 L2 = E := ⟨_, rfl⟩
    replace hF := Lib.hid hF
    replace hE := Lib.hid hE
    cases F with
    | true =>
      go_wp2_with fail
      refine (gotFull (a := L0) (b := L2) H0.out i0 H2.out i2 (by omega) (by omega) k0.out k2.out hF.out).mono ?_
      rintro e w36 ⟨rfl, hb⟩
      replace B := Lib.hid (below_then B.out hb)
      replace H0 := Lib.hid (H0.out.below hb)
      replace H1 := Lib.hid (H1.out.below hb)
      replace H2 := Lib.hid (H2.out.below hb)
      clear hb
      cases E with
      | true =>
        go_wp2_with fail
        refine (gotFull (a := L1) (b := L2) H1.out i1 H2.out i2 (by omega) (by omega) k1.out k2.out hE.out).mono ?_
        rintro e w37 ⟨rfl, hb⟩
        replace B := Lib.hid (below_then B.out hb)
        replace H0 := Lib.hid (H0.out.below hb)
        replace H1 := Lib.hid (H1.out.below hb)
        replace H2 := Lib.hid (H2.out.below hb)
        clear hb
        go_wp2
        go_ret
        exact ⟨rfl, B.out⟩
      | false =>
        go_wp2_with fail
        refine (gotSum (a := L1) (b := L2) H1.out i1 H2.out i2 (by omega) (by omega) k1.out k2.out hE.out).mono ?_
        rintro e w38 ⟨Ay, cy, Ly, ny, rfl, ey, qy, gy, iy, hy, hb⟩
        replace B := Lib.hid (below_then B.out hb)
        replace H0 := Lib.hid (H0.out.below hb)
        replace H1 := Lib.hid (H1.out.below hb)
        replace H2 := Lib.hid (H2.out.below hb)
        clear hb
        rw [l1.out, l2.out] at qy
        have Hy := Lib.hid hy
        replace iy := Lib.hid iy
        have Gy := Lib.hid gy
        have ly := Lib.hid ey.symm
        clear hy gy ey
        go_wp2
        go_ret
        exact ⟨rfl, B.out⟩
    | false =>
      go_wp2_with fail
      refine (gotSum (a := L0) (b := L2) H0.out i0 H2.out i2 (by omega) (by omega) k0.out k2.out hF.out).mono ?_
      rintro e w39 ⟨Ax, cx, Lx, nx, rfl, ex, qx, gx, ix, hx, hb⟩
      replace B := Lib.hid (below_then B.out hb)
      replace H0 := Lib.hid (H0.out.below hb)
      replace H1 := Lib.hid (H1.out.below hb)
      replace H2 := Lib.hid (H2.out.below hb)
      clear hb
      rw [l0.out, l2.out] at qx
      have Hx := Lib.hid hx
      replace ix := Lib.hid ix
      have Gx := Lib.hid gx
      have lx := Lib.hid ex.symm
      clear hx gx ex
      cases E with
      | true =>
        go_wp2_with fail
        refine (gotFull (a := L1) (b := L2) H1.out i1 H2.out i2 (by omega) (by omega) k1.out k2.out hE.out).mono ?_
        rintro e w40 ⟨rfl, hb⟩
        replace B := Lib.hid (below_then B.out hb)
        replace H0 := Lib.hid (H0.out.below hb)
        replace H1 := Lib.hid (H1.out.below hb)
        replace H2 := Lib.hid (H2.out.below hb)
        replace Hx := Lib.hid (Hx.out.below hb)
        clear hb
        go_wp2
        go_ret
        exact ⟨rfl, B.out⟩
      | false =>
        go_wp2_with fail
        refine (gotSum (a := L1) (b := L2) H1.out i1 H2.out i2 (by omega) (by omega) k1.out k2.out hE.out).mono ?_
        rintro e w41 ⟨Ay, cy, Ly, ny, rfl, ey, qy, gy, iy, hy, hb⟩
        replace B := Lib.hid (below_then B.out hb)
        replace H0 := Lib.hid (H0.out.below hb)
        replace H1 := Lib.hid (H1.out.below hb)
        replace H2 := Lib.hid (H2.out.below hb)
        replace Hx := Lib.hid (Hx.out.below hb)
        clear hb
        rw [l1.out, l2.out] at qy
        have Hy := Lib.hid hy
        replace iy := Lib.hid iy
        have Gy := Lib.hid gy
        have ly := Lib.hid ey.symm
        clear hy gy ey
        obtain ⟨kx, vx⟩ := sum_ok k0.out k2.out hF.out Gx.out
        obtain ⟨ky, vy⟩ := sum_ok k1.out k2.out hE.out Gy.out
        replace kx := Lib.hid kx
        replace vx := Lib.hid vx
        replace ky := Lib.hid ky
        replace vy := Lib.hid vy
        obtain ⟨p, hp⟩ : ∃ p, p = withR L0 L1 := ⟨_, rfl⟩
        have hpx := Lib.hid (show withR Lx Ly = p by
          rw [hp, Bool.eq_iff_iff, withR_iff kx.out ky.out, withR_iff k0.out k1.out]
          constructor
          · intro h k
            have := h k
            rw [vx.out, vy.out] at this
            omega
          · intro h k
            have := h k
            rw [vx.out, vy.out]
            omega)
        replace hp := Lib.hid hp
        have hcx := Lib.hid (hz.out.add vx.out vy.out)
        have hpf : p = false := by
          rw [Bool.eq_false_iff]
          intro h
          have h1 := hz.out.le ((withR_iff k0.out k1.out).1 (hp.out ▸ h))
          omega
        subst hpf
        have cW := Lib.hid (bag_Within Ax nx cx Lx Ay ny cy Ly w41 Hx ix (by omega) Hy iy (by omega))
        rw [hpx.out] at cW
        go_wp2_with fail
        refine (cW.out).mono ?_
        rintro e w42 ⟨rfl, hb⟩
        replace B := Lib.hid (below_then B.out hb)
        replace H0 := Lib.hid (H0.out.below hb)
        replace H1 := Lib.hid (H1.out.below hb)
        replace H2 := Lib.hid (H2.out.below hb)
        replace Hx := Lib.hid (Hx.out.below hb)
        replace Hy := Lib.hid (Hy.out.below hb)
        clear hb
        clear cW
        have cW := Lib.hid (bag_Within A0 n0 c0 L0 A1 n1 c1 L1 w42 H0 i0 (by omega) H1 i1 (by omega))
        rw [← hp.out] at cW
        go_wp2_with fail
        refine (cW.out).mono ?_
        rintro e w43 ⟨rfl, hb⟩
        replace B := Lib.hid (below_then B.out hb)
        replace H0 := Lib.hid (H0.out.below hb)
        replace H1 := Lib.hid (H1.out.below hb)
        replace H2 := Lib.hid (H2.out.below hb)
        replace Hx := Lib.hid (Hx.out.below hb)
        replace Hy := Lib.hid (Hy.out.below hb)
        clear hb
        clear cW
        go_wp2_with fail
        refine (gotCompare (a := Lx) (b := Ly) Hx.out ix Hy.out iy (by omega) (by omega) kx.out ky.out).mono ?_
        rintro e w44 ⟨z5, rfl, hz5, hb⟩
        replace B := Lib.hid (below_then B.out hb)
        replace H0 := Lib.hid (H0.out.below hb)
        replace H1 := Lib.hid (H1.out.below hb)
        replace H2 := Lib.hid (H2.out.below hb)
        replace Hx := Lib.hid (Hx.out.below hb)
        replace Hy := Lib.hid (Hy.out.below hb)
        clear hb
        replace hz5 := Lib.hid hz5
        obtain rfl := hz5.out.uniq hcx.out
        have cW := Lib.hid (bag_Within A0 n0 c0 L0 A1 n1 c1 L1 w44 H0 i0 (by omega) H1 i1 (by omega))
        rw [← hp.out] at cW
        go_wp2_with fail
        refine (cW.out).mono ?_
        rintro e w45 ⟨rfl, hb⟩
        replace B := Lib.hid (below_then B.out hb)
        replace H0 := Lib.hid (H0.out.below hb)
        replace H1 := Lib.hid (H1.out.below hb)
        replace H2 := Lib.hid (H2.out.below hb)
        replace Hx := Lib.hid (Hx.out.below hb)
        replace Hy := Lib.hid (Hy.out.below hb)
        clear hb
        clear cW
        go_wp2
        go_ret
        exact ⟨rfl, B.out⟩
  · have dmy := True.intro
    clear dmy
    obtain rfl : sv = false := by
      rw [Bool.eq_false_iff]
      intro h
      have := hs0.out.1 h
      omega
    go_wp2_with fail
    refine (gotCompare (a := L1) (b := L0) H1.out i1 H0.out i0 (by omega) (by omega) k1.out k0.out).mono ?_
    rintro e w46 ⟨z2, rfl, hz2, hb⟩
    replace B := Lib.hid (below_then B.out hb)
    replace H0 := Lib.hid (H0.out.below hb)
    replace H1 := Lib.hid (H1.out.below hb)
    replace H2 := Lib.hid (H2.out.below hb)
    clear hb
    replace hz2 := Lib.hid hz2
    obtain rfl : z2 = 1 := hz2.out.uniq hz.out.swap
    have cW := Lib.hid (bag_Same A0 n0 c0 L0 A1 n1 c1 L1 w46 H0 H1)
    rw [← hsv.out] at cW
    go_wp2_with fail
    refine (cW.out).mono ?_
    rintro e w47 ⟨rfl, hb⟩
    replace B := Lib.hid (below_then B.out hb)
    replace H0 := Lib.hid (H0.out.below hb)
    replace H1 := Lib.hid (H1.out.below hb)
    replace H2 := Lib.hid (H2.out.below hb)
    clear hb
    clear cW
    go_wp2_with fail
    refine (gotCompare (a := L1) (b := L2) H1.out i1 H2.out i2 (by omega) (by omega) k1.out k2.out).mono ?_
    rintro e w48 ⟨z3, rfl, hz3, hb⟩
    replace B := Lib.hid (below_then B.out hb)
    replace H0 := Lib.hid (H0.out.below hb)
    replace H1 := Lib.hid (H1.out.below hb)
    replace H2 := Lib.hid (H2.out.below hb)
    clear hb
    replace hz3 := Lib.hid hz3
    rcases hz3.out.val with rfl | rfl | rfl
    · have dmy := True.intro
      clear dmy
      obtain ⟨F, hF⟩ : ∃ F, fullB L0 L2 = F := ⟨_, rfl⟩
      obtain ⟨E, hE⟩ : ∃ E, fullB L1 L2 = E := ⟨_, rfl⟩
      replace hF := Lib.hid hF
      replace hE := Lib.hid hE
      cases F with
      | true =>
        go_wp2_with fail
        refine (gotFull (a := L0) (b := L2) H0.out i0 H2.out i2 (by omega) (by omega) k0.out k2.out hF.out).mono ?_
        rintro e w49 ⟨rfl, hb⟩
        replace B := Lib.hid (below_then B.out hb)
        replace H0 := Lib.hid (H0.out.below hb)
        replace H1 := Lib.hid (H1.out.below hb)
        replace H2 := Lib.hid (H2.out.below hb)
        clear hb
        cases E with
        | true =>
          go_wp2_with fail
          refine (gotFull (a := L1) (b := L2) H1.out i1 H2.out i2 (by omega) (by omega) k1.out k2.out hE.out).mono ?_
          rintro e w50 ⟨rfl, hb⟩
          replace B := Lib.hid (below_then B.out hb)
          replace H0 := Lib.hid (H0.out.below hb)
          replace H1 := Lib.hid (H1.out.below hb)
          replace H2 := Lib.hid (H2.out.below hb)
          clear hb
          go_wp2
          go_ret
          exact ⟨rfl, B.out⟩
        | false =>
          go_wp2_with fail
          refine (gotSum (a := L1) (b := L2) H1.out i1 H2.out i2 (by omega) (by omega) k1.out k2.out hE.out).mono ?_
          rintro e w51 ⟨Ay, cy, Ly, ny, rfl, ey, qy, gy, iy, hy, hb⟩
          replace B := Lib.hid (below_then B.out hb)
          replace H0 := Lib.hid (H0.out.below hb)
          replace H1 := Lib.hid (H1.out.below hb)
          replace H2 := Lib.hid (H2.out.below hb)
          clear hb
          rw [l1.out, l2.out] at qy
          have Hy := Lib.hid hy
          replace iy := Lib.hid iy
          have Gy := Lib.hid gy
          have ly := Lib.hid ey.symm
          clear hy gy ey
          go_wp2
          go_ret
          exact ⟨rfl, B.out⟩
      | false =>
        go_wp2_with fail
        refine (gotSum (a := L0) (b := L2) H0.out i0 H2.out i2 (by omega) (by omega) k0.out k2.out hF.out).mono ?_
        rintro e w52 ⟨Ax, cx, Lx, nx, rfl, ex, qx, gx, ix, hx, hb⟩
        replace B := Lib.hid (below_then B.out hb)
        replace H0 := Lib.hid (H0.out.below hb)
        replace H1 := Lib.hid (H1.out.below hb)
        replace H2 := Lib.hid (H2.out.below hb)
        clear hb
        rw [l0.out, l2.out] at qx
        have Hx := Lib.hid hx
        replace ix := Lib.hid ix
        have Gx := Lib.hid gx
        have lx := Lib.hid ex.symm
        clear hx gx ex
        cases E with
        | true =>
          go_wp2_with fail
          refine (gotFull (a := L1) (b := L2) H1.out i1 H2.out i2 (by omega) (by omega) k1.out k2.out hE.out).mono ?_
          rintro e w53 ⟨rfl, hb⟩
          replace B := Lib.hid (below_then B.out hb)
          replace H0 := Lib.hid (H0.out.below hb)
          replace H1 := Lib.hid (H1.out.below hb)
          replace H2 := Lib.hid (H2.out.below hb)
          replace Hx := Lib.hid (Hx.out.below hb)
          clear hb
          go_wp2
          go_ret
          exact ⟨rfl, B.out⟩
        | false =>
          go_wp2_with fail
          refine (gotSum (a := L1) (b := L2) H1.out i1 H2.out i2 (by omega) (by omega) k1.out k2.out hE.out).mono ?_
          rintro e w54 ⟨Ay, cy, Ly, ny, rfl, ey, qy, gy, iy, hy, hb⟩
          replace B := Lib.hid (below_then B.out hb)
          replace H0 := Lib.hid (H0.out.below hb)
          replace H1 := Lib.hid (H1.out.below hb)
          replace H2 := Lib.hid (H2.out.below hb)
          replace Hx := Lib.hid (Hx.out.below hb)
          clear hb
          rw [l1.out, l2.out] at qy
          have Hy := Lib.hid hy
          replace iy := Lib.hid iy
          have Gy := Lib.hid gy
          have ly := Lib.hid ey.symm
          clear hy gy ey
          obtain ⟨kx, vx⟩ := sum_ok k0.out k2.out hF.out Gx.out
          obtain ⟨ky, vy⟩ := sum_ok k1.out k2.out hE.out Gy.out
          replace kx := Lib.hid kx
          replace vx := Lib.hid vx
          replace ky := Lib.hid ky
          replace vy := Lib.hid vy
          obtain ⟨p, hp⟩ : ∃ p, p = withR L0 L1 := ⟨_, rfl⟩
          have hpx := Lib.hid (show withR Lx Ly = p by
            rw [hp, Bool.eq_iff_iff, withR_iff kx.out ky.out, withR_iff k0.out k1.out]
            constructor
            · intro h k
              have := h k
              rw [vx.out, vy.out] at this
              omega
            · intro h k
              have := h k
              rw [vx.out, vy.out]
              omega)
          replace hp := Lib.hid hp
          have hcx := Lib.hid (hz.out.add vx.out vy.out)
          cases p with
          | true =>
            have cW := Lib.hid (bag_Within Ax nx cx Lx Ay ny cy Ly w54 Hx ix (by omega) Hy iy (by omega))
            rw [hpx.out] at cW
            go_wp2_with fail
            refine (cW.out).mono ?_
            rintro e w55 ⟨rfl, hb⟩
            replace B := Lib.hid (below_then B.out hb)
            replace H0 := Lib.hid (H0.out.below hb)
            replace H1 := Lib.hid (H1.out.below hb)
            replace H2 := Lib.hid (H2.out.below hb)
            replace Hx := Lib.hid (Hx.out.below hb)
            replace Hy := Lib.hid (Hy.out.below hb)
            clear hb
            clear cW
            have cW := Lib.hid (bag_Within A0 n0 c0 L0 A1 n1 c1 L1 w55 H0 i0 (by omega) H1 i1 (by omega))
            rw [← hp.out] at cW
            go_wp2_with fail
            refine (cW.out).mono ?_
            rintro e w56 ⟨rfl, hb⟩
            replace B := Lib.hid (below_then B.out hb)
            replace H0 := Lib.hid (H0.out.below hb)
            replace H1 := Lib.hid (H1.out.below hb)
            replace H2 := Lib.hid (H2.out.below hb)
            replace Hx := Lib.hid (Hx.out.below hb)
            replace Hy := Lib.hid (Hy.out.below hb)
            clear hb
            clear cW
            go_wp2_with fail
            refine (gotCompare (a := Lx) (b := Ly) Hx.out ix Hy.out iy (by omega) (by omega) kx.out ky.out).mono ?_
            rintro e w57 ⟨z5, rfl, hz5, hb⟩
            replace B := Lib.hid (below_then B.out hb)
            replace H0 := Lib.hid (H0.out.below hb)
            replace H1 := Lib.hid (H1.out.below hb)
            replace H2 := Lib.hid (H2.out.below hb)
            replace Hx := Lib.hid (Hx.out.below hb)
            replace Hy := Lib.hid (Hy.out.below hb)
            clear hb
            replace hz5 := Lib.hid hz5
            obtain rfl := hz5.out.uniq hcx.out
            have cW := Lib.hid (bag_Within A0 n0 c0 L0 A1 n1 c1 L1 w57 H0 i0 (by omega) H1 i1 (by omega))
            rw [← hp.out] at cW
            go_wp2_with fail
            refine (cW.out).mono ?_
            rintro e w58 ⟨rfl, hb⟩
            replace B := Lib.hid (below_then B.out hb)
            replace H0 := Lib.hid (H0.out.below hb)
            replace H1 := Lib.hid (H1.out.below hb)
            replace H2 := Lib.hid (H2.out.below hb)
            replace Hx := Lib.hid (Hx.out.below hb)
            replace Hy := Lib.hid (Hy.out.below hb)
            clear hb
            clear cW
            go_wp2
            go_ret
            exact ⟨rfl, B.out⟩
          | false =>
            have cW := Lib.hid (bag_Within Ax nx cx Lx Ay ny cy Ly w54 Hx ix (by omega) Hy iy (by omega))
            rw [hpx.out] at cW
            go_wp2_with fail
            refine (cW.out).mono ?_
            rintro e w59 ⟨rfl, hb⟩
            replace B := Lib.hid (below_then B.out hb)
            replace H0 := Lib.hid (H0.out.below hb)
            replace H1 := Lib.hid (H1.out.below hb)
            replace H2 := Lib.hid (H2.out.below hb)
            replace Hx := Lib.hid (Hx.out.below hb)
            replace Hy := Lib.hid (Hy.out.below hb)
            clear hb
            clear cW
            have cW := Lib.hid (bag_Within A0 n0 c0 L0 A1 n1 c1 L1 w59 H0 i0 (by omega) H1 i1 (by omega))
            rw [← hp.out] at cW
            go_wp2_with fail
            refine (cW.out).mono ?_
            rintro e w60 ⟨rfl, hb⟩
            replace B := Lib.hid (below_then B.out hb)
            replace H0 := Lib.hid (H0.out.below hb)
            replace H1 := Lib.hid (H1.out.below hb)
            replace H2 := Lib.hid (H2.out.below hb)
            replace Hx := Lib.hid (Hx.out.below hb)
            replace Hy := Lib.hid (Hy.out.below hb)
            clear hb
            clear cW
            go_wp2_with fail
            refine (gotCompare (a := Lx) (b := Ly) Hx.out ix Hy.out iy (by omega) (by omega) kx.out ky.out).mono ?_
            rintro e w61 ⟨z5, rfl, hz5, hb⟩
            replace B := Lib.hid (below_then B.out hb)
            replace H0 := Lib.hid (H0.out.below hb)
            replace H1 := Lib.hid (H1.out.below hb)
            replace H2 := Lib.hid (H2.out.below hb)
            replace Hx := Lib.hid (Hx.out.below hb)
            replace Hy := Lib.hid (Hy.out.below hb)
            clear hb
            replace hz5 := Lib.hid hz5
            obtain rfl := hz5.out.uniq hcx.out
            have cW := Lib.hid (bag_Within A0 n0 c0 L0 A1 n1 c1 L1 w61 H0 i0 (by omega) H1 i1 (by omega))
            rw [← hp.out] at cW
            go_wp2_with fail
            refine (cW.out).mono ?_
            rintro e w62 ⟨rfl, hb⟩
            replace B := Lib.hid (below_then B.out hb)
            replace H0 := Lib.hid (H0.out.below hb)
            replace H1 := Lib.hid (H1.out.below hb)
            replace H2 := Lib.hid (H2.out.below hb)
            replace Hx := Lib.hid (Hx.out.below hb)
            replace Hy := Lib.hid (Hy.out.below hb)
            clear hb
            clear cW
            go_wp2
            go_ret
            exact ⟨rfl, B.out⟩
    · have dmy := True.intro
      clear dmy
      obtain ⟨F, hF⟩ : ∃ F, fullB L0 L2 = F := ⟨_, rfl⟩
      obtain ⟨E, hE⟩ : ∃ E, fullB L1 L2 = E := ⟨_, rfl⟩
      replace hF := Lib.hid hF
      replace hE := Lib.hid hE
      cases F with
      | true =>
        go_wp2_with fail
        refine (gotFull (a := L0) (b := L2) H0.out i0 H2.out i2 (by omega) (by omega) k0.out k2.out hF.out).mono ?_
        rintro e w63 ⟨rfl, hb⟩
        replace B := Lib.hid (below_then B.out hb)
        replace H0 := Lib.hid (H0.out.below hb)
        replace H1 := Lib.hid (H1.out.below hb)
        replace H2 := Lib.hid (H2.out.below hb)
        clear hb
        cases E with
        | true =>
          go_wp2_with fail
          refine (gotFull (a := L1) (b := L2) H1.out i1 H2.out i2 (by omega) (by omega) k1.out k2.out hE.out).mono ?_
          rintro e w64 ⟨rfl, hb⟩
          replace B := Lib.hid (below_then B.out hb)
          replace H0 := Lib.hid (H0.out.below hb)
          replace H1 := Lib.hid (H1.out.below hb)
          replace H2 := Lib.hid (H2.out.below hb)
          clear hb
          go_wp2
          go_ret
          exact ⟨rfl, B.out⟩
        | false =>
          go_wp2_with fail
          refine (gotSum (a := L1) (b := L2) H1.out i1 H2.out i2 (by omega) (by omega) k1.out k2.out hE.out).mono ?_
          rintro e w65 ⟨Ay, cy, Ly, ny, rfl, ey, qy, gy, iy, hy, hb⟩
          replace B := Lib.hid (below_then B.out hb)
          replace H0 := Lib.hid (H0.out.below hb)
          replace H1 := Lib.hid (H1.out.below hb)
          replace H2 := Lib.hid (H2.out.below hb)
          clear hb
          rw [l1.out, l2.out] at qy
          have Hy := Lib.hid hy
          replace iy := Lib.hid iy
          have Gy := Lib.hid gy
          have ly := Lib.hid ey.symm
          clear hy gy ey
          go_wp2
          go_ret
          exact ⟨rfl, B.out⟩
      | false =>
        go_wp2_with fail
        refine (gotSum (a := L0) (b := L2) H0.out i0 H2.out i2 (by omega) (by omega) k0.out k2.out hF.out).mono ?_
        rintro e w66 ⟨Ax, cx, Lx, nx, rfl, ex, qx, gx, ix, hx, hb⟩
        replace B := Lib.hid (below_then B.out hb)
        replace H0 := Lib.hid (H0.out.below hb)
        replace H1 := Lib.hid (H1.out.below hb)
        replace H2 := Lib.hid (H2.out.below hb)
        clear hb
        rw [l0.out, l2.out] at qx
        have Hx := Lib.hid hx
        replace ix := Lib.hid ix
        have Gx := Lib.hid gx
        have lx := Lib.hid ex.symm
        clear hx gx ex
        cases E with
        | true =>
          go_wp2_with fail
          refine (gotFull (a := L1) (b := L2) H1.out i1 H2.out i2 (by omega) (by omega) k1.out k2.out hE.out).mono ?_
          rintro e w67 ⟨rfl, hb⟩
          replace B := Lib.hid (below_then B.out hb)
          replace H0 := Lib.hid (H0.out.below hb)
          replace H1 := Lib.hid (H1.out.below hb)
          replace H2 := Lib.hid (H2.out.below hb)
          replace Hx := Lib.hid (Hx.out.below hb)
          clear hb
          go_wp2
          go_ret
          exact ⟨rfl, B.out⟩
        | false =>
          go_wp2_with fail
          refine (gotSum (a := L1) (b := L2) H1.out i1 H2.out i2 (by omega) (by omega) k1.out k2.out hE.out).mono ?_
          rintro e w68 ⟨Ay, cy, Ly, ny, rfl, ey, qy, gy, iy, hy, hb⟩
          replace B := Lib.hid (below_then B.out hb)
          replace H0 := Lib.hid (H0.out.below hb)
          replace H1 := Lib.hid (H1.out.below hb)
          replace H2 := Lib.hid (H2.out.below hb)
          replace Hx := Lib.hid (Hx.out.below hb)
          clear hb
          rw [l1.out, l2.out] at qy
          have Hy := Lib.hid hy
          replace iy := Lib.hid iy
          have Gy := Lib.hid gy
          have ly := Lib.hid ey.symm
          clear hy gy ey
          obtain ⟨kx, vx⟩ := sum_ok k0.out k2.out hF.out Gx.out
          obtain ⟨ky, vy⟩ := sum_ok k1.out k2.out hE.out Gy.out
          replace kx := Lib.hid kx
          replace vx := Lib.hid vx
          replace ky := Lib.hid ky
          replace vy := Lib.hid vy
          obtain ⟨p, hp⟩ : ∃ p, p = withR L0 L1 := ⟨_, rfl⟩
          have hpx := Lib.hid (show withR Lx Ly = p by
            rw [hp, Bool.eq_iff_iff, withR_iff kx.out ky.out, withR_iff k0.out k1.out]
            constructor
            · intro h k
              have := h k
              rw [vx.out, vy.out] at this
              omega
            · intro h k
              have := h k
              rw [vx.out, vy.out]
              omega)
          replace hp := Lib.hid hp
          have hcx := Lib.hid (hz.out.add vx.out vy.out)
          cases p with
          | true =>
            have cW := Lib.hid (bag_Within Ax nx cx Lx Ay ny cy Ly w68 Hx ix (by omega) Hy iy (by omega))
            rw [hpx.out] at cW
            go_wp2_with fail
            refine (cW.out).mono ?_
            rintro e w69 ⟨rfl, hb⟩
            replace B := Lib.hid (below_then B.out hb)
            replace H0 := Lib.hid (H0.out.below hb)
            replace H1 := Lib.hid (H1.out.below hb)
            replace H2 := Lib.hid (H2.out.below hb)
            replace Hx := Lib.hid (Hx.out.below hb)
            replace Hy := Lib.hid (Hy.out.below hb)
            clear hb
            clear cW
            have cW := Lib.hid (bag_Within A0 n0 c0 L0 A1 n1 c1 L1 w69 H0 i0 (by omega) H1 i1 (by omega))
            rw [← hp.out] at cW
            go_wp2_with fail
            refine (cW.out).mono ?_
            rintro e w70 ⟨rfl, hb⟩
            replace B := Lib.hid (below_then B.out hb)
            replace H0 := Lib.hid (H0.out.below hb)
            replace H1 := Lib.hid (H1.out.below hb)
            replace H2 := Lib.hid (H2.out.below hb)
            replace Hx := Lib.hid (Hx.out.below hb)
            replace Hy := Lib.hid (Hy.out.below hb)
            clear hb
            clear cW
            go_wp2_with fail
            refine (gotCompare (a := Lx) (b := Ly) Hx.out ix Hy.out iy (by omega) (by omega) kx.out ky.out).mono ?_
            rintro e w71 ⟨z5, rfl, hz5, hb⟩
            replace B := Lib.hid (below_then B.out hb)
            replace H0 := Lib.hid (H0.out.below hb)
            replace H1 := Lib.hid (H1.out.below hb)
            replace H2 := Lib.hid (H2.out.below hb)
            replace Hx := Lib.hid (Hx.out.below hb)
            replace Hy := Lib.hid (Hy.out.below hb)
            clear hb
            replace hz5 := Lib.hid hz5
            obtain rfl := hz5.out.uniq hcx.out
            have cW := Lib.hid (bag_Within A0 n0 c0 L0 A1 n1 c1 L1 w71 H0 i0 (by omega) H1 i1 (by omega))
            rw [← hp.out] at cW
            go_wp2_with fail
            refine (cW.out).mono ?_
            rintro e w72 ⟨rfl, hb⟩
            replace B := Lib.hid (below_then B.out hb)
            replace H0 := Lib.hid (H0.out.below hb)
            replace H1 := Lib.hid (H1.out.below hb)
            replace H2 := Lib.hid (H2.out.below hb)
            replace Hx := Lib.hid (Hx.out.below hb)
            replace Hy := Lib.hid (Hy.out.below hb)
            clear hb
            clear cW
            go_wp2
            go_ret
            exact ⟨rfl, B.out⟩
          | false =>
            have cW := Lib.hid (bag_Within Ax nx cx Lx Ay ny cy Ly w68 Hx ix (by omega) Hy iy (by omega))
            rw [hpx.out] at cW
            go_wp2_with fail
            refine (cW.out).mono ?_
            rintro e w73 ⟨rfl, hb⟩
            replace B := Lib.hid (below_then B.out hb)
            replace H0 := Lib.hid (H0.out.below hb)
            replace H1 := Lib.hid (H1.out.below hb)
            replace H2 := Lib.hid (H2.out.below hb)
            replace Hx := Lib.hid (Hx.out.below hb)
            replace Hy := Lib.hid (Hy.out.below hb)
            clear hb
            clear cW
            have cW := Lib.hid (bag_Within A0 n0 c0 L0 A1 n1 c1 L1 w73 H0 i0 (by omega) H1 i1 (by omega))
            rw [← hp.out] at cW
            go_wp2_with fail
            refine (cW.out).mono ?_
            rintro e w74 ⟨rfl, hb⟩
            replace B := Lib.hid (below_then B.out hb)
            replace H0 := Lib.hid (H0.out.below hb)
            replace H1 := Lib.hid (H1.out.below hb)
            replace H2 := Lib.hid (H2.out.below hb)
            replace Hx := Lib.hid (Hx.out.below hb)
            replace Hy := Lib.hid (Hy.out.below hb)
            clear hb
            clear cW
            go_wp2_with fail
            refine (gotCompare (a := Lx) (b := Ly) Hx.out ix Hy.out iy (by omega) (by omega) kx.out ky.out).mono ?_
            rintro e w75 ⟨z5, rfl, hz5, hb⟩
            replace B := Lib.hid (below_then B.out hb)
            replace H0 := Lib.hid (H0.out.below hb)
            replace H1 := Lib.hid (H1.out.below hb)
            replace H2 := Lib.hid (H2.out.below hb)
            replace Hx := Lib.hid (Hx.out.below hb)
            replace Hy := Lib.hid (Hy.out.below hb)
            clear hb
            replace hz5 := Lib.hid hz5
            obtain rfl := hz5.out.uniq hcx.out
            have cW := Lib.hid (bag_Within A0 n0 c0 L0 A1 n1 c1 L1 w75 H0 i0 (by omega) H1 i1 (by omega))
            rw [← hp.out] at cW
            go_wp2_with fail
            refine (cW.out).mono ?_
            rintro e w76 ⟨rfl, hb⟩
            replace B := Lib.hid (below_then B.out hb)
            replace H0 := Lib.hid (H0.out.below hb)
            replace H1 := Lib.hid (H1.out.below hb)
            replace H2 := Lib.hid (H2.out.below hb)
            replace Hx := Lib.hid (Hx.out.below hb)
            replace Hy := Lib.hid (Hy.out.below hb)
            clear hb
            clear cW
            go_wp2
            go_ret
            exact ⟨rfl, B.out⟩
    · have dmy := True.intro
      clear dmy
      go_wp2_with fail
      refine (gotCompare (a := L0) (b := L2) H0.out i0 H2.out i2 (by omega) (by omega) k0.out k2.out).mono ?_
      rintro e w77 ⟨z4, rfl, hz4, hb⟩
      replace B := Lib.hid (below_then B.out hb)
      replace H0 := Lib.hid (H0.out.below hb)
      replace H1 := Lib.hid (H1.out.below hb)
      replace H2 := Lib.hid (H2.out.below hb)
      clear hb
      replace hz4 := Lib.hid hz4
      have hz4n := hz.out.trans hz3.out hz4.out (by omega) (by omega)
      obtain rfl : z4 = -1 := by rcases hz4.out.val with h | h | h <;> omega
      clear hz4n
      obtain ⟨F, hF⟩ : ∃ F, fullB L0 L2 = F := ⟨_, rfl⟩
      obtain ⟨E, hE⟩ : ∃ E, fullB L1 L2 = E := ⟨_, rfl⟩
      replace hF := Lib.hid hF
      replace hE := Lib.hid hE
      cases F with
      | true =>
        go_wp2_with fail
        refine (gotFull (a := L0) (b := L2) H0.out i0 H2.out i2 (by omega) (by omega) k0.out k2.out hF.out).mono ?_
        rintro e w78 ⟨rfl, hb⟩
        replace B := Lib.hid (below_then B.out hb)
        replace H0 := Lib.hid (H0.out.below hb)
        replace H1 := Lib.hid (H1.out.below hb)
        replace H2 := Lib.hid (H2.out.below hb)
        clear hb
        cases E with
        | true =>
          go_wp2_with fail
          refine (gotFull (a := L1) (b := L2) H1.out i1 H2.out i2 (by omega) (by omega) k1.out k2.out hE.out).mono ?_
          rintro e w79 ⟨rfl, hb⟩
          replace B := Lib.hid (below_then B.out hb)
          replace H0 := Lib.hid (H0.out.below hb)
          replace H1 := Lib.hid (H1.out.below hb)
          replace H2 := Lib.hid (H2.out.below hb)
          clear hb
          go_wp2
          go_ret
          exact ⟨rfl, B.out⟩
        | false =>
          go_wp2_with fail
          refine (gotSum (a := L1) (b := L2) H1.out i1 H2.out i2 (by omega) (by omega) k1.out k2.out hE.out).mono ?_
          rintro e w80 ⟨Ay, cy, Ly, ny, rfl, ey, qy, gy, iy, hy, hb⟩
          replace B := Lib.hid (below_then B.out hb)
          replace H0 := Lib.hid (H0.out.below hb)
          replace H1 := Lib.hid (H1.out.below hb)
          replace H2 := Lib.hid (H2.out.below hb)
          clear hb
          rw [l1.out, l2.out] at qy
          have Hy := Lib.hid hy
          replace iy := Lib.hid iy
          have Gy := Lib.hid gy
          have ly := Lib.hid ey.symm
          clear hy gy ey
          go_wp2
          go_ret
          exact ⟨rfl, B.out⟩
      | false =>
        go_wp2_with fail
        refine (gotSum (a := L0) (b := L2) H0.out i0 H2.out i2 (by omega) (by omega) k0.out k2.out hF.out).mono ?_
        rintro e w81 ⟨Ax, cx, Lx, nx, rfl, ex, qx, gx, ix, hx, hb⟩
        replace B := Lib.hid (below_then B.out hb)
        replace H0 := Lib.hid (H0.out.below hb)
        replace H1 := Lib.hid (H1.out.below hb)
        replace H2 := Lib.hid (H2.out.below hb)
        clear hb
        rw [l0.out, l2.out] at qx
        have Hx := Lib.hid hx
        replace ix := Lib.hid ix
        have Gx := Lib.hid gx
        have lx := Lib.hid ex.symm
        clear hx gx ex
        cases E with
        | true =>
          go_wp2_with fail
          refine (gotFull (a := L1) (b := L2) H1.out i1 H2.out i2 (by omega) (by omega) k1.out k2.out hE.out).mono ?_
          rintro e w82 ⟨rfl, hb⟩
          replace B := Lib.hid (below_then B.out hb)
          replace H0 := Lib.hid (H0.out.below hb)
          replace H1 := Lib.hid (H1.out.below hb)
          replace H2 := Lib.hid (H2.out.below hb)
          replace Hx := Lib.hid (Hx.out.below hb)
          clear hb
          go_wp2
          go_ret
          exact ⟨rfl, B.out⟩
        | false =>
          go_wp2_with fail
          refine (gotSum (a := L1) (b := L2) H1.out i1 H2.out i2 (by omega) (by omega) k1.out k2.out hE.out).mono ?_
          rintro e w83 ⟨Ay, cy, Ly, ny, rfl, ey, qy, gy, iy, hy, hb⟩
          replace B := Lib.hid (below_then B.out hb)
          replace H0 := Lib.hid (H0.out.below hb)
          replace H1 := Lib.hid (H1.out.below hb)
          replace H2 := Lib.hid (H2.out.below hb)
          replace Hx := Lib.hid (Hx.out.below hb)
          clear hb
          rw [l1.out, l2.out] at qy
          have Hy := Lib.hid hy
          replace iy := Lib.hid iy
          have Gy := Lib.hid gy
          have ly := Lib.hid ey.symm
          clear hy gy ey
          obtain ⟨kx, vx⟩ := sum_ok k0.out k2.out hF.out Gx.out
          obtain ⟨ky, vy⟩ := sum_ok k1.out k2.out hE.out Gy.out
          replace kx := Lib.hid kx
          replace vx := Lib.hid vx
          replace ky := Lib.hid ky
          replace vy := Lib.hid vy
          obtain ⟨p, hp⟩ : ∃ p, p = withR L0 L1 := ⟨_, rfl⟩
          have hpx := Lib.hid (show withR Lx Ly = p by
            rw [hp, Bool.eq_iff_iff, withR_iff kx.out ky.out, withR_iff k0.out k1.out]
            constructor
            · intro h k
              have := h k
              rw [vx.out, vy.out] at this
              omega
            · intro h k
              have := h k
              rw [vx.out, vy.out]
              omega)
          replace hp := Lib.hid hp
          have hcx := Lib.hid (hz.out.add vx.out vy.out)
          cases p with
          | true =>
            have cW := Lib.hid (bag_Within Ax nx cx Lx Ay ny cy Ly w83 Hx ix (by omega) Hy iy (by omega))
            rw [hpx.out] at cW
            go_wp2_with fail
            refine (cW.out).mono ?_
            rintro e w84 ⟨rfl, hb⟩
            replace B := Lib.hid (below_then B.out hb)
            replace H0 := Lib.hid (H0.out.below hb)
            replace H1 := Lib.hid (H1.out.below hb)
            replace H2 := Lib.hid (H2.out.below hb)
            replace Hx := Lib.hid (Hx.out.below hb)
            replace Hy := Lib.hid (Hy.out.below hb)
            clear hb
            clear cW
            have cW := Lib.hid (bag_Within A0 n0 c0 L0 A1 n1 c1 L1 w84 H0 i0 (by omega) H1 i1 (by omega))
            rw [← hp.out] at cW
            go_wp2_with fail
            refine (cW.out).mono ?_
            rintro e w85 ⟨rfl, hb⟩
            replace B := Lib.hid (below_then B.out hb)
            replace H0 := Lib.hid (H0.out.below hb)
            replace H1 := Lib.hid (H1.out.below hb)
            replace H2 := Lib.hid (H2.out.below hb)
            replace Hx := Lib.hid (Hx.out.below hb)
            replace Hy := Lib.hid (Hy.out.below hb)
            clear hb
            clear cW
            go_wp2_with fail
            refine (gotCompare (a := Lx) (b := Ly) Hx.out ix Hy.out iy (by omega) (by omega) kx.out ky.out).mono ?_
            rintro e w86 ⟨z5, rfl, hz5, hb⟩
            replace B := Lib.hid (below_then B.out hb)
            replace H0 := Lib.hid (H0.out.below hb)
            replace H1 := Lib.hid (H1.out.below hb)
            replace H2 := Lib.hid (H2.out.below hb)
            replace Hx := Lib.hid (Hx.out.below hb)
            replace Hy := Lib.hid (Hy.out.below hb)
            clear hb
            replace hz5 := Lib.hid hz5
            obtain rfl := hz5.out.uniq hcx.out
            have cW := Lib.hid (bag_Within A0 n0 c0 L0 A1 n1 c1 L1 w86 H0 i0 (by omega) H1 i1 (by omega))
            rw [← hp.out] at cW
            go_wp2_with fail
            refine (cW.out).mono ?_
            rintro e w87 ⟨rfl, hb⟩
            replace B := Lib.hid (below_then B.out hb)
            replace H0 := Lib.hid (H0.out.below hb)
            replace H1 := Lib.hid (H1.out.below hb)
            replace H2 := Lib.hid (H2.out.below hb)
            replace Hx := Lib.hid (Hx.out.below hb)
            replace Hy := Lib.hid (Hy.out.below hb)
            clear hb
            clear cW
            go_wp2
            go_ret
            exact ⟨rfl, B.out⟩
          | false =>
            have cW := Lib.hid (bag_Within Ax nx cx Lx Ay ny cy Ly w83 Hx ix (by omega) Hy iy (by omega))
            rw [hpx.out] at cW
            go_wp2_with fail
            refine (cW.out).mono ?_
            rintro e w88 ⟨rfl, hb⟩
            replace B := Lib.hid (below_then B.out hb)
            replace H0 := Lib.hid (H0.out.below hb)
            replace H1 := Lib.hid (H1.out.below hb)
            replace H2 := Lib.hid (H2.out.below hb)
            replace Hx := Lib.hid (Hx.out.below hb)
            replace Hy := Lib.hid (Hy.out.below hb)
            clear hb
            clear cW
            have cW := Lib.hid (bag_Within A0 n0 c0 L0 A1 n1 c1 L1 w88 H0 i0 (by omega) H1 i1 (by omega))
            rw [← hp.out] at cW
            go_wp2_with fail
            refine (cW.out).mono ?_
            rintro e w89 ⟨rfl, hb⟩
            replace B := Lib.hid (below_then B.out hb)
            replace H0 := Lib.hid (H0.out.below hb)
            replace H1 := Lib.hid (H1.out.below hb)
            replace H2 := Lib.hid (H2.out.below hb)
            replace Hx := Lib.hid (Hx.out.below hb)
            replace Hy := Lib.hid (Hy.out.below hb)
            clear hb
            clear cW
            go_wp2_with fail
            refine (gotCompare (a := Lx) (b := Ly) Hx.out ix Hy.out iy (by omega) (by omega) kx.out ky.out).mono ?_
            rintro e w90 ⟨z5, rfl, hz5, hb⟩
            replace B := Lib.hid (below_then B.out hb)
            replace H0 := Lib.hid (H0.out.below hb)
            replace H1 := Lib.hid (H1.out.below hb)
            replace H2 := Lib.hid (H2.out.below hb)
            replace Hx := Lib.hid (Hx.out.below hb)
            replace Hy := Lib.hid (Hy.out.below hb)
            clear hb
            replace hz5 := Lib.hid hz5
            obtain rfl := hz5.out.uniq hcx.out
            have cW := Lib.hid (bag_Within A0 n0 c0 L0 A1 n1 c1 L1 w90 H0 i0 (by omega) H1 i1 (by omega))
            rw [← hp.out] at cW
            go_wp2_with fail
            refine (cW.out).mono ?_
            rintro e w91 ⟨rfl, hb⟩
            replace B := Lib.hid (below_then B.out hb)
            replace H0 := Lib.hid (H0.out.below hb)
            replace H1 := Lib.hid (H1.out.below hb)
            replace H2 := Lib.hid (H2.out.below hb)
            replace Hx := Lib.hid (Hx.out.below hb)
            replace Hy := Lib.hid (Hy.out.below hb)
            clear hb
            clear cW
            go_wp2
            go_ret
            exact ⟨rfl, B.out⟩
end Go.Proofs.Ytfnolejghioodaa
