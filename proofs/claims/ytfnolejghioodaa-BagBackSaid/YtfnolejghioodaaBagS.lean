/- Law BagBack: the walk. -/
import Derived.Test.YtfnolejghioodaaBagQ
namespace Go.Proofs.Ytfnolejghioodaa
open Go.RowKit
set_option maxRecDepth 100000 in
set_option maxHeartbeats 4000000 in
theorem law_BagBack (A0 : Option Addr) (n0 c0 : Nat) (L0 : Row) (A1 : Option Addr) (n1 c1 : Nat) (L1 : Row) (w : World) (H0 : Hid (Sl w (.slice A0 n0 c0) n0 2 (pairCells L0))) (i0 : Hid (I64s L0)) (H1 : Hid (Sl w (.slice A1 n1 c1) n1 2 (pairCells L1))) (i1 : Hid (I64s L1)) :
    Calls Try.prog 5 #[.slice A0 n0 c0, .slice A1 n1 c1] w fun e w' => e = .returned (.bool true) ∧ Below w.heap.size w w' := by
  have cS := Lib.hid (law03_small w)
  have b0 := H0.out.bound
  have b1 := H1.out.bound
  by_cases g0 : 60 < n0
  · go_enter Try.func5, Try.ntmps5
    go_wp2_with fail
    refine (cS.out).mono ?_
    rintro e w1 ⟨rfl, hb⟩
    have B := Lib.hid hb
    replace H0 := Lib.hid (H0.out.below hb)
    replace H1 := Lib.hid (H1.out.below hb)
    clear hb
    go_wp2
    go_ret
    exact ⟨rfl, B.out⟩
  by_cases g1 : 60 < n1
  · go_enter Try.func5, Try.ntmps5
    go_wp2_with fail
    refine (cS.out).mono ?_
    rintro e w2 ⟨rfl, hb⟩
    have B := Lib.hid hb
    replace H0 := Lib.hid (H0.out.below hb)
    replace H1 := Lib.hid (H1.out.below hb)
    clear hb
    go_wp2
    go_ret
    exact ⟨rfl, B.out⟩
  obtain ⟨R0, r0⟩ : ∃ R, rightB L0 = R := ⟨_, rfl⟩
  replace r0 := Lib.hid r0
  cases R0 with
  | false =>
    go_enter Try.func5, Try.ntmps5
    go_wp2_with fail
    refine (cS.out).mono ?_
    rintro e w3 ⟨rfl, hb⟩
    have B := Lib.hid hb
    replace H0 := Lib.hid (H0.out.below hb)
    replace H1 := Lib.hid (H1.out.below hb)
    clear hb
    have cR := Lib.hid (bag_Right A0 n0 c0 L0 w3 H0)
    rw [r0.out] at cR
    go_wp2_with fail
    refine (cR.out).mono ?_
    rintro e w4 ⟨rfl, hb⟩
    replace B := Lib.hid (below_then B.out hb)
    replace H0 := Lib.hid (H0.out.below hb)
    replace H1 := Lib.hid (H1.out.below hb)
    clear hb
    clear cR
    go_wp2
    go_ret
    exact ⟨rfl, B.out⟩
  | true =>
  obtain ⟨R1, r1⟩ : ∃ R, rightB L1 = R := ⟨_, rfl⟩
  replace r1 := Lib.hid r1
  cases R1 with
  | false =>
    go_enter Try.func5, Try.ntmps5
    go_wp2_with fail
    refine (cS.out).mono ?_
    rintro e w5 ⟨rfl, hb⟩
    have B := Lib.hid hb
    replace H0 := Lib.hid (H0.out.below hb)
    replace H1 := Lib.hid (H1.out.below hb)
    clear hb
    have cR := Lib.hid (bag_Right A0 n0 c0 L0 w5 H0)
    rw [r0.out] at cR
    go_wp2_with fail
    refine (cR.out).mono ?_
    rintro e w6 ⟨rfl, hb⟩
    replace B := Lib.hid (below_then B.out hb)
    replace H0 := Lib.hid (H0.out.below hb)
    replace H1 := Lib.hid (H1.out.below hb)
    clear hb
    clear cR
    have cR := Lib.hid (bag_Right A1 n1 c1 L1 w6 H1)
    rw [r1.out] at cR
    go_wp2_with fail
    refine (cR.out).mono ?_
    rintro e w7 ⟨rfl, hb⟩
    replace B := Lib.hid (below_then B.out hb)
    replace H0 := Lib.hid (H0.out.below hb)
    replace H1 := Lib.hid (H1.out.below hb)
    clear hb
    clear cR
    go_wp2
    go_ret
    exact ⟨rfl, B.out⟩
  | true =>
  have k0 := Lib.hid ((rightB_iff L0).1 r0.out)
  have l0 := Lib.hid (show L0.length = n0 by have := H0.out.len; rw [pairCells_len] at this; omega)
  have k1 := Lib.hid ((rightB_iff L1).1 r1.out)
  have l1 := Lib.hid (show L1.length = n1 by have := H1.out.len; rw [pairCells_len] at this; omega)
  have fc := Lib.hid (full_comm k0.out k1.out)
  obtain ⟨F, hF⟩ : ∃ F, fullB L0 L1 = F := ⟨_, rfl⟩
  rw [hF] at fc
  replace hF := Lib.hid hF
  cases F with
  | true =>
    go_enter Try.func5, Try.ntmps5
    go_wp2_with fail
    refine (cS.out).mono ?_
    rintro e w8 ⟨rfl, hb⟩
    have B := Lib.hid hb
    replace H0 := Lib.hid (H0.out.below hb)
    replace H1 := Lib.hid (H1.out.below hb)
    clear hb
    have cR := Lib.hid (bag_Right A0 n0 c0 L0 w8 H0)
    rw [r0.out] at cR
    go_wp2_with fail
    refine (cR.out).mono ?_
    rintro e w9 ⟨rfl, hb⟩
    replace B := Lib.hid (below_then B.out hb)
    replace H0 := Lib.hid (H0.out.below hb)
    replace H1 := Lib.hid (H1.out.below hb)
    clear hb
    clear cR
    have cR := Lib.hid (bag_Right A1 n1 c1 L1 w9 H1)
    rw [r1.out] at cR
    go_wp2_with fail
    refine (cR.out).mono ?_
    rintro e w10 ⟨rfl, hb⟩
    replace B := Lib.hid (below_then B.out hb)
    replace H0 := Lib.hid (H0.out.below hb)
    replace H1 := Lib.hid (H1.out.below hb)
    clear hb
    clear cR
    go_wp2_with fail
    refine (gotFull (a := L0) (b := L1) H0.out i0 H1.out i1 (by omega) (by omega) k0.out k1.out hF.out).mono ?_
    rintro e w11 ⟨rfl, hb⟩
    replace B := Lib.hid (below_then B.out hb)
    replace H0 := Lib.hid (H0.out.below hb)
    replace H1 := Lib.hid (H1.out.below hb)
    clear hb
    go_wp2_with fail
    refine (gotFull (a := L1) (b := L0) H1.out i1 H0.out i0 (by omega) (by omega) k1.out k0.out fc.out.symm).mono ?_
    rintro e w12 ⟨rfl, hb⟩
    replace B := Lib.hid (below_then B.out hb)
    replace H0 := Lib.hid (H0.out.below hb)
    replace H1 := Lib.hid (H1.out.below hb)
    clear hb
    go_wp2
    go_ret
    exact ⟨rfl, B.out⟩
  | false =>
    go_enter Try.func5, Try.ntmps5
    go_wp2_with fail
    refine (cS.out).mono ?_
    rintro e w13 ⟨rfl, hb⟩
    have B := Lib.hid hb
    replace H0 := Lib.hid (H0.out.below hb)
    replace H1 := Lib.hid (H1.out.below hb)
    clear hb
    have cR := Lib.hid (bag_Right A0 n0 c0 L0 w13 H0)
    rw [r0.out] at cR
    go_wp2_with fail
    refine (cR.out).mono ?_
    rintro e w14 ⟨rfl, hb⟩
    replace B := Lib.hid (below_then B.out hb)
    replace H0 := Lib.hid (H0.out.below hb)
    replace H1 := Lib.hid (H1.out.below hb)
    clear hb
    clear cR
    have cR := Lib.hid (bag_Right A1 n1 c1 L1 w14 H1)
    rw [r1.out] at cR
    go_wp2_with fail
    refine (cR.out).mono ?_
    rintro e w15 ⟨rfl, hb⟩
    replace B := Lib.hid (below_then B.out hb)
    replace H0 := Lib.hid (H0.out.below hb)
    replace H1 := Lib.hid (H1.out.below hb)
    clear hb
    clear cR
    go_wp2_with fail
    refine (gotSum (a := L0) (b := L1) H0.out i0 H1.out i1 (by omega) (by omega) k0.out k1.out hF.out).mono ?_
    rintro e w16 ⟨As, cs, Ls, ns, rfl, es, qs, gs, is, hs, hb⟩
    replace B := Lib.hid (below_then B.out hb)
    replace H0 := Lib.hid (H0.out.below hb)
    replace H1 := Lib.hid (H1.out.below hb)
    clear hb
    rw [l0.out, l1.out] at qs
    have Hs := Lib.hid hs
    replace is := Lib.hid is
    have Gs := Lib.hid gs
    have ls := Lib.hid es.symm
    clear hs gs es
    go_wp2_with fail
    refine (gotSum (a := L1) (b := L0) H1.out i1 H0.out i0 (by omega) (by omega) k1.out k0.out fc.out.symm).mono ?_
    rintro e w17 ⟨At, ct, Lt, nt, rfl, et, qt, gt, it, ht, hb⟩
    replace B := Lib.hid (below_then B.out hb)
    replace H0 := Lib.hid (H0.out.below hb)
    replace H1 := Lib.hid (H1.out.below hb)
    replace Hs := Lib.hid (Hs.out.below hb)
    clear hb
    rw [l1.out, l0.out] at qt
    have Ht := Lib.hid ht
    replace it := Lib.hid it
    have Gt := Lib.hid gt
    have lt := Lib.hid et.symm
    clear ht gt et
    obtain ⟨ks, vs⟩ := sum_ok k0.out k1.out hF.out Gs.out
    obtain ⟨kt, vt⟩ := sum_ok k1.out k0.out fc.out.symm Gt.out
    replace ks := Lib.hid ks
    replace vs := Lib.hid vs
    obtain rfl : Lt = Ls := kt.eq_of ks.out fun k => by rw [vt, vs.out]; omega
    clear kt vt
    have cW := Lib.hid (bag_Same As ns cs Lt At nt ct Lt w17 Hs Ht)
    rw [sameR_self ks.out] at cW
    go_wp2_with fail
    refine (cW.out).mono ?_
    rintro e w18 ⟨rfl, hb⟩
    replace B := Lib.hid (below_then B.out hb)
    replace H0 := Lib.hid (H0.out.below hb)
    replace H1 := Lib.hid (H1.out.below hb)
    replace Hs := Lib.hid (Hs.out.below hb)
    replace Ht := Lib.hid (Ht.out.below hb)
    clear hb
    clear cW
    go_wp2_with fail
    refine (gotLess (a := Lt) (b := L1) Hs.out is H1.out i1 (by omega) (by omega) ks.out k1.out (fun k => by rw [vs.out]; have := k0.out.nonneg k; omega)).mono ?_
    rintro e w19 ⟨Al, cl, Ll, nl, rfl, el, ql, gl, il, hl, hb⟩
    replace B := Lib.hid (below_then B.out hb)
    replace H0 := Lib.hid (H0.out.below hb)
    replace H1 := Lib.hid (H1.out.below hb)
    replace Hs := Lib.hid (Hs.out.below hb)
    replace Ht := Lib.hid (Ht.out.below hb)
    clear hb
    rw [ls.out, l1.out] at ql
    have Hl := Lib.hid hl
    replace il := Lib.hid il
    have Gl := Lib.hid gl
    have ll := Lib.hid el.symm
    clear hl gl el
    obtain rfl : Ll = L0 := less_sum k0.out vs.out Gl.out
    go_wp2_with fail
    refine (gotLess (a := Lt) (b := Ll) Hs.out is H0.out i0 (by omega) (by omega) ks.out k0.out (fun k => by rw [vs.out]; have := k1.out.nonneg k; omega)).mono ?_
    rintro e w20 ⟨Ar, cr, Lr, nr, rfl, er, qr, gr, ir, hr, hb⟩
    replace B := Lib.hid (below_then B.out hb)
    replace H0 := Lib.hid (H0.out.below hb)
    replace H1 := Lib.hid (H1.out.below hb)
    replace Hs := Lib.hid (Hs.out.below hb)
    replace Ht := Lib.hid (Ht.out.below hb)
    replace Hl := Lib.hid (Hl.out.below hb)
    clear hb
    rw [ls.out, l0.out] at qr
    have Hr := Lib.hid hr
    replace ir := Lib.hid ir
    have Gr := Lib.hid gr
    have lr := Lib.hid er.symm
    clear hr gr er
    obtain rfl : Lr = L1 := less_sum k1.out (b := Ll) (fun k => by rw [vs.out]; omega) Gr.out
    have cW := Lib.hid (bag_Same Al nl cl Ll A0 n0 c0 Ll w20 Hl H0)
    rw [sameR_self k0.out] at cW
    go_wp2_with fail
    refine (cW.out).mono ?_
    rintro e w21 ⟨rfl, hb⟩
    replace B := Lib.hid (below_then B.out hb)
    replace H0 := Lib.hid (H0.out.below hb)
    replace H1 := Lib.hid (H1.out.below hb)
    replace Hs := Lib.hid (Hs.out.below hb)
    replace Ht := Lib.hid (Ht.out.below hb)
    replace Hl := Lib.hid (Hl.out.below hb)
    replace Hr := Lib.hid (Hr.out.below hb)
    clear hb
    clear cW
    have cW := Lib.hid (bag_Same Ar nr cr Lr A1 n1 c1 Lr w21 Hr H1)
    rw [sameR_self k1.out] at cW
    go_wp2_with fail
    refine (cW.out).mono ?_
    rintro e w22 ⟨rfl, hb⟩
    replace B := Lib.hid (below_then B.out hb)
    replace H0 := Lib.hid (H0.out.below hb)
    replace H1 := Lib.hid (H1.out.below hb)
    replace Hs := Lib.hid (Hs.out.below hb)
    replace Ht := Lib.hid (Ht.out.below hb)
    replace Hl := Lib.hid (Hl.out.below hb)
    replace Hr := Lib.hid (Hr.out.below hb)
    clear hb
    clear cW
    have cW := Lib.hid (bag_Right As ns cs Lt w22 Hs)
    rw [(rightB_iff Lt).2 ks.out] at cW
    go_wp2_with fail
    refine (cW.out).mono ?_
    rintro e w23 ⟨rfl, hb⟩
    replace B := Lib.hid (below_then B.out hb)
    replace H0 := Lib.hid (H0.out.below hb)
    replace H1 := Lib.hid (H1.out.below hb)
    replace Hs := Lib.hid (Hs.out.below hb)
    replace Ht := Lib.hid (Ht.out.below hb)
    replace Hl := Lib.hid (Hl.out.below hb)
    replace Hr := Lib.hid (Hr.out.below hb)
    clear hb
    clear cW
    have ht := tot_sum k0.out k1.out ks.out vs.out
    have hb0 := tot_bound k0.out
    have hb1 := tot_bound k1.out
    rw [l0.out] at hb0
    rw [l1.out] at hb1
    obtain ⟨x, hx⟩ : ∃ x, x = totR Ll := ⟨_, rfl⟩
    obtain ⟨y, hy⟩ : ∃ y, y = totR Lr := ⟨_, rfl⟩
    obtain ⟨z, hz⟩ : ∃ z, z = totR Lt := ⟨_, rfl⟩
    rw [← hx, ← hy, ← hz] at ht
    rw [← hx] at hb0
    rw [← hy] at hb1
    have HX := Lib.hid hx
    have HY := Lib.hid hy
    have HZ := Lib.hid hz
    clear hx hy hz
    obtain ⟨p1, p2⟩ := hb0
    obtain ⟨p3, p4⟩ := hb1
    have cW := Lib.hid (bag_Total As ns cs Lt w23 Hs is (by omega))
    rw [← HZ.out] at cW
    go_wp2_with fail
    refine (cW.out).mono ?_
    rintro e w24 ⟨rfl, hb⟩
    replace B := Lib.hid (below_then B.out hb)
    replace H0 := Lib.hid (H0.out.below hb)
    replace H1 := Lib.hid (H1.out.below hb)
    replace Hs := Lib.hid (Hs.out.below hb)
    replace Ht := Lib.hid (Ht.out.below hb)
    replace Hl := Lib.hid (Hl.out.below hb)
    replace Hr := Lib.hid (Hr.out.below hb)
    clear hb
    clear cW
    have cW := Lib.hid (bag_Total A0 n0 c0 Ll w24 H0 i0 (by omega))
    rw [← HX.out] at cW
    go_wp2_with fail
    refine (cW.out).mono ?_
    rintro e w25 ⟨rfl, hb⟩
    replace B := Lib.hid (below_then B.out hb)
    replace H0 := Lib.hid (H0.out.below hb)
    replace H1 := Lib.hid (H1.out.below hb)
    replace Hs := Lib.hid (Hs.out.below hb)
    replace Ht := Lib.hid (Ht.out.below hb)
    replace Hl := Lib.hid (Hl.out.below hb)
    replace Hr := Lib.hid (Hr.out.below hb)
    clear hb
    clear cW
    have cW := Lib.hid (bag_Total A1 n1 c1 Lr w25 H1 i1 (by omega))
    rw [← HY.out] at cW
    go_wp2_with fail
    refine (cW.out).mono ?_
    rintro e w26 ⟨rfl, hb⟩
    replace B := Lib.hid (below_then B.out hb)
    replace H0 := Lib.hid (H0.out.below hb)
    replace H1 := Lib.hid (H1.out.below hb)
    replace Hs := Lib.hid (Hs.out.below hb)
    replace Ht := Lib.hid (Ht.out.below hb)
    replace Hl := Lib.hid (Hl.out.below hb)
    replace Hr := Lib.hid (Hr.out.below hb)
    clear hb
    clear cW
    have hwrap : IntKind.i64.wrap (x + y) = x + y := by rw [IntKind.wrap_i64]; omega
    subst ht
    go_wp2
    go_ret
    exact ⟨rfl, B.out⟩
end Go.Proofs.Ytfnolejghioodaa
