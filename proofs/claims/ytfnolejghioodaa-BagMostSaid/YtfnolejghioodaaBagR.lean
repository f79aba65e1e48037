/- Law BagMost: the walk. -/
import Derived.Test.YtfnolejghioodaaBagQ
namespace Go.Proofs.Ytfnolejghioodaa
open Go.RowKit
set_option maxRecDepth 100000 in
set_option maxHeartbeats 4000000 in
theorem law_BagMost (A0 : Option Addr) (n0 c0 : Nat) (L0 : Row) (A1 : Option Addr) (n1 c1 : Nat) (L1 : Row) (A2 : Option Addr) (n2 c2 : Nat) (L2 : Row) (w : World) (H0 : Hid (Sl w (.slice A0 n0 c0) n0 2 (pairCells L0))) (i0 : Hid (I64s L0)) (H1 : Hid (Sl w (.slice A1 n1 c1) n1 2 (pairCells L1))) (i1 : Hid (I64s L1)) (H2 : Hid (Sl w (.slice A2 n2 c2) n2 2 (pairCells L2))) (i2 : Hid (I64s L2)) :
    Calls Try.prog 7 #[.slice A0 n0 c0, .slice A1 n1 c1, .slice A2 n2 c2] w fun e w' => e = .returned (.bool true) ∧ Below w.heap.size w w' := by
  have cS := Lib.hid (law03_small w)
  have b0 := H0.out.bound
  have b1 := H1.out.bound
  have b2 := H2.out.bound
  by_cases g0 : 60 < n0
  · go_enter Try.func7, Try.ntmps7
    go_wp2_with fail
    refine (cS.out).mono ?_
    rintro e w1 ⟨rfl, hb⟩
    have B := Lib.hid hb
    replace H0 := Lib.hid (H0.out.below hb)
    replace H1 := Lib.hid (H1.out.below hb)
    replace H2 := Lib.hid (H2.out.below hb)
    clear hb
    go_wp2
    go_ret
    exact ⟨rfl, B.out⟩
  by_cases g1 : 60 < n1
  · go_enter Try.func7, Try.ntmps7
    go_wp2_with fail
    refine (cS.out).mono ?_
    rintro e w2 ⟨rfl, hb⟩
    have B := Lib.hid hb
    replace H0 := Lib.hid (H0.out.below hb)
    replace H1 := Lib.hid (H1.out.below hb)
    replace H2 := Lib.hid (H2.out.below hb)
    clear hb
    go_wp2
    go_ret
    exact ⟨rfl, B.out⟩
  by_cases g2 : 60 < n2
  · go_enter Try.func7, Try.ntmps7
    go_wp2_with fail
    refine (cS.out).mono ?_
    rintro e w3 ⟨rfl, hb⟩
    have B := Lib.hid hb
    replace H0 := Lib.hid (H0.out.below hb)
    replace H1 := Lib.hid (H1.out.below hb)
    replace H2 := Lib.hid (H2.out.below hb)
    clear hb
    go_wp2
    go_ret
    exact ⟨rfl, B.out⟩
  obtain ⟨R0, r0⟩ : ∃ R, rightB L0 = R := ⟨_, rfl⟩
  replace r0 := Lib.hid r0
  cases R0 with
  | false =>
    go_enter Try.func7, Try.ntmps7
    go_wp2_with fail
    refine (cS.out).mono ?_
    rintro e w4 ⟨rfl, hb⟩
    have B := Lib.hid hb
    replace H0 := Lib.hid (H0.out.below hb)
    replace H1 := Lib.hid (H1.out.below hb)
    replace H2 := Lib.hid (H2.out.below hb)
    clear hb
    have cR := Lib.hid (bag_Right A0 n0 c0 L0 w4 H0)
    rw [r0.out] at cR
    go_wp2_with fail
    refine (cR.out).mono ?_
    rintro e w5 ⟨rfl, hb⟩
    replace B := Lib.hid (below_then B.out hb)
    replace H0 := Lib.hid (H0.out.below hb)
    replace H1 := Lib.hid (H1.out.below hb)
    replace H2 := Lib.hid (H2.out.below hb)
    clear hb
    clear cR
    go_wp2
    go_ret
    exact ⟨rfl, B.out⟩
  | true =>
  obtain ⟨R1, r1⟩ : ∃ R, rightB L1 = R := ⟨_, rfl⟩
  replace r1 := Lib.hid r1
  cases R1 with
  | false =>
    go_enter Try.func7, Try.ntmps7
    go_wp2_with fail
    refine (cS.out).mono ?_
    rintro e w6 ⟨rfl, hb⟩
    have B := Lib.hid hb
    replace H0 := Lib.hid (H0.out.below hb)
    replace H1 := Lib.hid (H1.out.below hb)
    replace H2 := Lib.hid (H2.out.below hb)
    clear hb
    have cR := Lib.hid (bag_Right A0 n0 c0 L0 w6 H0)
    rw [r0.out] at cR
    go_wp2_with fail
    refine (cR.out).mono ?_
    rintro e w7 ⟨rfl, hb⟩
    replace B := Lib.hid (below_then B.out hb)
    replace H0 := Lib.hid (H0.out.below hb)
    replace H1 := Lib.hid (H1.out.below hb)
    replace H2 := Lib.hid (H2.out.below hb)
    clear hb
    clear cR
    have cR := Lib.hid (bag_Right A1 n1 c1 L1 w7 H1)
    rw [r1.out] at cR
    go_wp2_with fail
    refine (cR.out).mono ?_
    rintro e w8 ⟨rfl, hb⟩
    replace B := Lib.hid (below_then B.out hb)
    replace H0 := Lib.hid (H0.out.below hb)
    replace H1 := Lib.hid (H1.out.below hb)
    replace H2 := Lib.hid (H2.out.below hb)
    clear hb
    clear cR
    go_wp2
    go_ret
    exact ⟨rfl, B.out⟩
  | true =>
  obtain ⟨R2, r2⟩ : ∃ R, rightB L2 = R := ⟨_, rfl⟩
  replace r2 := Lib.hid r2
  cases R2 with
  | false =>
    go_enter Try.func7, Try.ntmps7
    go_wp2_with fail
    refine (cS.out).mono ?_
    rintro e w9 ⟨rfl, hb⟩
    have B := Lib.hid hb
    replace H0 := Lib.hid (H0.out.below hb)
    replace H1 := Lib.hid (H1.out.below hb)
    replace H2 := Lib.hid (H2.out.below hb)
    clear hb
    have cR := Lib.hid (bag_Right A0 n0 c0 L0 w9 H0)
    rw [r0.out] at cR
    go_wp2_with fail
    refine (cR.out).mono ?_
    rintro e w10 ⟨rfl, hb⟩
    replace B := Lib.hid (below_then B.out hb)
    replace H0 := Lib.hid (H0.out.below hb)
    replace H1 := Lib.hid (H1.out.below hb)
    replace H2 := Lib.hid (H2.out.below hb)
    clear hb
    clear cR
    have cR := Lib.hid (bag_Right A1 n1 c1 L1 w10 H1)
    rw [r1.out] at cR
    go_wp2_with fail
    refine (cR.out).mono ?_
    rintro e w11 ⟨rfl, hb⟩
    replace B := Lib.hid (below_then B.out hb)
    replace H0 := Lib.hid (H0.out.below hb)
    replace H1 := Lib.hid (H1.out.below hb)
    replace H2 := Lib.hid (H2.out.below hb)
    clear hb
    clear cR
    have cR := Lib.hid (bag_Right A2 n2 c2 L2 w11 H2)
    rw [r2.out] at cR
    go_wp2_with fail
    refine (cR.out).mono ?_
    rintro e w12 ⟨rfl, hb⟩
    replace B := Lib.hid (below_then B.out hb)
    replace H0 := Lib.hid (H0.out.below hb)
    replace H1 := Lib.hid (H1.out.below hb)
    replace H2 := Lib.hid (H2.out.below hb)
    clear hb
    clear cR
    go_wp2
    go_ret
    exact ⟨rfl, B.out⟩
  | true =>
  have k0 := Lib.hid ((rightB_iff L0).1 r0.out)
  have l0 := Lib.hid (show L0.length = n0 by have := H0.out.len; rw [pairCells_len] at this; omega)
  have k1 := Lib.hid ((rightB_iff L1).1 r1.out)
  have l1 := Lib.hid (show L1.length = n1 by have := H1.out.len; rw [pairCells_len] at this; omega)
  have k2 := Lib.hid ((rightB_iff L2).1 r2.out)
  have l2 := Lib.hid (show L2.length = n2 by have := H2.out.len; rw [pairCells_len] at this; omega)
  go_enter Try.func7, Try.ntmps7
  go_wp2_with fail
  refine (cS.out).mono ?_
  rintro e w13 ⟨rfl, hb⟩
  have B := Lib.hid hb
  replace H0 := Lib.hid (H0.out.below hb)
  replace H1 := Lib.hid (H1.out.below hb)
  replace H2 := Lib.hid (H2.out.below hb)
  clear hb
  have cR := Lib.hid (bag_Right A0 n0 c0 L0 w13 H0)
  rw [r0.out] at cR
  go_wp2_with fail
  refine (cR.out).mono ?_
  rintro e w14 ⟨rfl, hb⟩
  replace B := Lib.hid (below_then B.out hb)
  replace H0 := Lib.hid (H0.out.below hb)
  replace H1 := Lib.hid (H1.out.below hb)
  replace H2 := Lib.hid (H2.out.below hb)
  clear hb
  clear cR
  have cR := Lib.hid (bag_Right A1 n1 c1 L1 w14 H1)
  rw [r1.out] at cR
  go_wp2_with fail
  refine (cR.out).mono ?_
  rintro e w15 ⟨rfl, hb⟩
  replace B := Lib.hid (below_then B.out hb)
  replace H0 := Lib.hid (H0.out.below hb)
  replace H1 := Lib.hid (H1.out.below hb)
  replace H2 := Lib.hid (H2.out.below hb)
  clear hb
  clear cR
  have cR := Lib.hid (bag_Right A2 n2 c2 L2 w15 H2)
  rw [r2.out] at cR
  go_wp2_with fail
  refine (cR.out).mono ?_
  rintro e w16 ⟨rfl, hb⟩
  replace B := Lib.hid (below_then B.out hb)
  replace H0 := Lib.hid (H0.out.below hb)
  replace H1 := Lib.hid (H1.out.below hb)
  replace H2 := Lib.hid (H2.out.below hb)
  clear hb
  clear cR
  go_wp2_with fail
  refine (gotMost (a := L0) (b := L1) H0.out i0 H1.out i1 (by omega) (by omega) k0.out k1.out).mono ?_
  rintro e w17 ⟨Am, cm, Lm, nm, rfl, em, qm, gm, im, hm, hb⟩
  replace B := Lib.hid (below_then B.out hb)
  replace H0 := Lib.hid (H0.out.below hb)
  replace H1 := Lib.hid (H1.out.below hb)
  replace H2 := Lib.hid (H2.out.below hb)
  clear hb
  rw [l0.out, l1.out] at qm
  have Hm := Lib.hid hm
  replace im := Lib.hid im
  have Gm := Lib.hid gm
  have lm := Lib.hid em.symm
  clear hm gm em
  obtain ⟨km, vm⟩ := most_ok k0.out k1.out Gm.out
  replace km := Lib.hid km
  replace vm := Lib.hid vm
  have cW := Lib.hid (bag_Right Am nm cm Lm w17 Hm)
  rw [(rightB_iff Lm).2 km.out] at cW
  go_wp2_with fail
  refine (cW.out).mono ?_
  rintro e w18 ⟨rfl, hb⟩
  replace B := Lib.hid (below_then B.out hb)
  replace H0 := Lib.hid (H0.out.below hb)
  replace H1 := Lib.hid (H1.out.below hb)
  replace H2 := Lib.hid (H2.out.below hb)
  replace Hm := Lib.hid (Hm.out.below hb)
  clear hb
  clear cW
  have cW := Lib.hid (bag_Within A0 n0 c0 L0 Am nm cm Lm w18 H0 i0 (by omega) Hm im (by omega))
  rw [(withR_iff k0.out km.out).2 fun k => by rw [vm.out]; omega] at cW
  go_wp2_with fail
  refine (cW.out).mono ?_
  rintro e w19 ⟨rfl, hb⟩
  replace B := Lib.hid (below_then B.out hb)
  replace H0 := Lib.hid (H0.out.below hb)
  replace H1 := Lib.hid (H1.out.below hb)
  replace H2 := Lib.hid (H2.out.below hb)
  replace Hm := Lib.hid (Hm.out.below hb)
  clear hb
  clear cW
  have cW := Lib.hid (bag_Within A1 n1 c1 L1 Am nm cm Lm w19 H1 i1 (by omega) Hm im (by omega))
  rw [(withR_iff k1.out km.out).2 fun k => by rw [vm.out]; omega] at cW
  go_wp2_with fail
  refine (cW.out).mono ?_
  rintro e w20 ⟨rfl, hb⟩
  replace B := Lib.hid (below_then B.out hb)
  replace H0 := Lib.hid (H0.out.below hb)
  replace H1 := Lib.hid (H1.out.below hb)
  replace H2 := Lib.hid (H2.out.below hb)
  replace Hm := Lib.hid (Hm.out.below hb)
  clear hb
  clear cW
  obtain ⟨p, hp⟩ : ∃ p, p = withR L0 L2 := ⟨_, rfl⟩
  obtain ⟨q, hq⟩ : ∃ q, q = withR L1 L2 := ⟨_, rfl⟩
  replace hp := Lib.hid hp
  replace hq := Lib.hid hq
  have hpq := Lib.hid (show withR Lm L2 = (p && q) by
    rw [hp.out, hq.out, Bool.eq_iff_iff, Bool.and_eq_true, withR_iff km.out k2.out, withR_iff k0.out k2.out, withR_iff k1.out k2.out]
    constructor
    · intro h
      exact ⟨fun k => by have := h k; rw [vm.out] at this; omega, fun k => by have := h k; rw [vm.out] at this; omega⟩
    · rintro ⟨h1, h2⟩ k
      have := h1 k
      have := h2 k
      rw [vm.out]; omega)
  cases p with
  | false =>
    rw [Bool.false_and] at hpq
    have cW := Lib.hid (bag_Within Am nm cm Lm A2 n2 c2 L2 w20 Hm im (by omega) H2 i2 (by omega))
    rw [hpq.out] at cW
    go_wp2_with fail
    refine (cW.out).mono ?_
    rintro e w21 ⟨rfl, hb⟩
    replace B := Lib.hid (below_then B.out hb)
    replace H0 := Lib.hid (H0.out.below hb)
    replace H1 := Lib.hid (H1.out.below hb)
    replace H2 := Lib.hid (H2.out.below hb)
    replace Hm := Lib.hid (Hm.out.below hb)
    clear hb
    clear cW
    have cW := Lib.hid (bag_Within A0 n0 c0 L0 A2 n2 c2 L2 w21 H0 i0 (by omega) H2 i2 (by omega))
    rw [← hp.out] at cW
    go_wp2_with fail
    refine (cW.out).mono ?_
    rintro e w22 ⟨rfl, hb⟩
    replace B := Lib.hid (below_then B.out hb)
    replace H0 := Lib.hid (H0.out.below hb)
    replace H1 := Lib.hid (H1.out.below hb)
    replace H2 := Lib.hid (H2.out.below hb)
    replace Hm := Lib.hid (Hm.out.below hb)
    clear hb
    clear cW
    go_wp2_with fail
    refine (gotMost (a := L0) (b := L0) H0.out i0 H0.out i0 (by omega) (by omega) k0.out k0.out).mono ?_
    rintro e w23 ⟨As, cs, Ls, ns, rfl, es, qs, gs, is, hs, hb⟩
    replace B := Lib.hid (below_then B.out hb)
    replace H0 := Lib.hid (H0.out.below hb)
    replace H1 := Lib.hid (H1.out.below hb)
    replace H2 := Lib.hid (H2.out.below hb)
    replace Hm := Lib.hid (Hm.out.below hb)
    clear hb
    rw [l0.out] at qs
    have Hs := Lib.hid hs
    replace is := Lib.hid is
    have Gs := Lib.hid gs
    have ls := Lib.hid es.symm
    clear hs gs es
    obtain rfl : Ls = L0 := row_eq k0.out Gs.out
    have cW := Lib.hid (bag_Same As ns cs Ls A0 n0 c0 Ls w23 Hs H0)
    rw [sameR_self k0.out] at cW
    go_wp2_with fail
    refine (cW.out).mono ?_
    rintro e w24 ⟨rfl, hb⟩
    replace B := Lib.hid (below_then B.out hb)
    replace H0 := Lib.hid (H0.out.below hb)
    replace H1 := Lib.hid (H1.out.below hb)
    replace H2 := Lib.hid (H2.out.below hb)
    replace Hm := Lib.hid (Hm.out.below hb)
    replace Hs := Lib.hid (Hs.out.below hb)
    clear hb
    clear cW
    go_wp2
    go_ret
    exact ⟨rfl, B.out⟩

  | true =>
    rw [Bool.true_and] at hpq
    cases q with
    | false =>
      have cW := Lib.hid (bag_Within Am nm cm Lm A2 n2 c2 L2 w20 Hm im (by omega) H2 i2 (by omega))
      rw [hpq.out] at cW
      go_wp2_with fail
      refine (cW.out).mono ?_
      rintro e w25 ⟨rfl, hb⟩
      replace B := Lib.hid (below_then B.out hb)
      replace H0 := Lib.hid (H0.out.below hb)
      replace H1 := Lib.hid (H1.out.below hb)
      replace H2 := Lib.hid (H2.out.below hb)
      replace Hm := Lib.hid (Hm.out.below hb)
      clear hb
      clear cW
      have cW := Lib.hid (bag_Within A0 n0 c0 L0 A2 n2 c2 L2 w25 H0 i0 (by omega) H2 i2 (by omega))
      rw [← hp.out] at cW
      go_wp2_with fail
      refine (cW.out).mono ?_
      rintro e w26 ⟨rfl, hb⟩
      replace B := Lib.hid (below_then B.out hb)
      replace H0 := Lib.hid (H0.out.below hb)
      replace H1 := Lib.hid (H1.out.below hb)
      replace H2 := Lib.hid (H2.out.below hb)
      replace Hm := Lib.hid (Hm.out.below hb)
      clear hb
      clear cW
      have cW := Lib.hid (bag_Within A1 n1 c1 L1 A2 n2 c2 L2 w26 H1 i1 (by omega) H2 i2 (by omega))
      rw [← hq.out] at cW
      go_wp2_with fail
      refine (cW.out).mono ?_
      rintro e w27 ⟨rfl, hb⟩
      replace B := Lib.hid (below_then B.out hb)
      replace H0 := Lib.hid (H0.out.below hb)
      replace H1 := Lib.hid (H1.out.below hb)
      replace H2 := Lib.hid (H2.out.below hb)
      replace Hm := Lib.hid (Hm.out.below hb)
      clear hb
      clear cW
      go_wp2_with fail
      refine (gotMost (a := L0) (b := L0) H0.out i0 H0.out i0 (by omega) (by omega) k0.out k0.out).mono ?_
      rintro e w28 ⟨As, cs, Ls, ns, rfl, es, qs, gs, is, hs, hb⟩
      replace B := Lib.hid (below_then B.out hb)
      replace H0 := Lib.hid (H0.out.below hb)
      replace H1 := Lib.hid (H1.out.below hb)
      replace H2 := Lib.hid (H2.out.below hb)
      replace Hm := Lib.hid (Hm.out.below hb)
      clear hb
      rw [l0.out] at qs
      have Hs := Lib.hid hs
      replace is := Lib.hid is
      have Gs := Lib.hid gs
      have ls := Lib.hid es.symm
      clear hs gs es
      obtain rfl : Ls = L0 := row_eq k0.out Gs.out
      have cW := Lib.hid (bag_Same As ns cs Ls A0 n0 c0 Ls w28 Hs H0)
      rw [sameR_self k0.out] at cW
      go_wp2_with fail
      refine (cW.out).mono ?_
      rintro e w29 ⟨rfl, hb⟩
      replace B := Lib.hid (below_then B.out hb)
      replace H0 := Lib.hid (H0.out.below hb)
      replace H1 := Lib.hid (H1.out.below hb)
      replace H2 := Lib.hid (H2.out.below hb)
      replace Hm := Lib.hid (Hm.out.below hb)
      replace Hs := Lib.hid (Hs.out.below hb)
      clear hb
      clear cW
      go_wp2
      go_ret
      exact ⟨rfl, B.out⟩
    | true =>
      have cW := Lib.hid (bag_Within Am nm cm Lm A2 n2 c2 L2 w20 Hm im (by omega) H2 i2 (by omega))
      rw [hpq.out] at cW
      go_wp2_with fail
      refine (cW.out).mono ?_
      rintro e w30 ⟨rfl, hb⟩
      replace B := Lib.hid (below_then B.out hb)
      replace H0 := Lib.hid (H0.out.below hb)
      replace H1 := Lib.hid (H1.out.below hb)
      replace H2 := Lib.hid (H2.out.below hb)
      replace Hm := Lib.hid (Hm.out.below hb)
      clear hb
      clear cW
      have cW := Lib.hid (bag_Within A0 n0 c0 L0 A2 n2 c2 L2 w30 H0 i0 (by omega) H2 i2 (by omega))
      rw [← hp.out] at cW
      go_wp2_with fail
      refine (cW.out).mono ?_
      rintro e w31 ⟨rfl, hb⟩
      replace B := Lib.hid (below_then B.out hb)
      replace H0 := Lib.hid (H0.out.below hb)
      replace H1 := Lib.hid (H1.out.below hb)
      replace H2 := Lib.hid (H2.out.below hb)
      replace Hm := Lib.hid (Hm.out.below hb)
      clear hb
      clear cW
      have cW := Lib.hid (bag_Within A1 n1 c1 L1 A2 n2 c2 L2 w31 H1 i1 (by omega) H2 i2 (by omega))
      rw [← hq.out] at cW
      go_wp2_with fail
      refine (cW.out).mono ?_
      rintro e w32 ⟨rfl, hb⟩
      replace B := Lib.hid (below_then B.out hb)
      replace H0 := Lib.hid (H0.out.below hb)
      replace H1 := Lib.hid (H1.out.below hb)
      replace H2 := Lib.hid (H2.out.below hb)
      replace Hm := Lib.hid (Hm.out.below hb)
      clear hb
      clear cW
      go_wp2_with fail
      refine (gotMost (a := L0) (b := L0) H0.out i0 H0.out i0 (by omega) (by omega) k0.out k0.out).mono ?_
      rintro e w33 ⟨As, cs, Ls, ns, rfl, es, qs, gs, is, hs, hb⟩
      replace B := Lib.hid (below_then B.out hb)
      replace H0 := Lib.hid (H0.out.below hb)
      replace H1 := Lib.hid (H1.out.below hb)
      replace H2 := Lib.hid (H2.out.below hb)
      replace Hm := Lib.hid (Hm.out.below hb)
      clear hb
      rw [l0.out] at qs
      have Hs := Lib.hid hs
      replace is := Lib.hid is
      have Gs := Lib.hid gs
      have ls := Lib.hid es.symm
      clear hs gs es
      obtain rfl : Ls = L0 := row_eq k0.out Gs.out
      have cW := Lib.hid (bag_Same As ns cs Ls A0 n0 c0 Ls w33 Hs H0)
      rw [sameR_self k0.out] at cW
      go_wp2_with fail
      refine (cW.out).mono ?_
      rintro e w34 ⟨rfl, hb⟩
      replace B := Lib.hid (below_then B.out hb)
      replace H0 := Lib.hid (H0.out.below hb)
      replace H1 := Lib.hid (H1.out.below hb)
      replace H2 := Lib.hid (H2.out.below hb)
      replace Hm := Lib.hid (Hm.out.below hb)
      replace Hs := Lib.hid (Hs.out.below hb)
      clear hb
      clear cW
      go_wp2
      go_ret
      exact ⟨rfl, B.out⟩
end Go.Proofs.Ytfnolejghioodaa
