/- Law BagTells: the walk. -/
import Derived.Test.YtfnolejghioodaaBagRa
import Derived.Test.YtfnolejghioodaaBagRb
namespace Go.Proofs.Ytfnolejghioodaa
open Go.RowKit
structure TelS (w W : World) (A0 : Option Addr) (n0 c0 : Nat) (L0 : Row) (A1 : Option Addr) (n1 c1 : Nat) (L1 : List Int) : Prop where
  bel : Below w.heap.size w W
  s0 : Sl W (.slice A0 n0 c0) n0 2 (pairCells L0)
  s1 : Sl W (.slice A1 n1 c1) n1 1 (intCells L1)
theorem TelS.go {w W W' : World} {A0 : Option Addr} {n0 c0 : Nat} {L0 : Row} {A1 : Option Addr} {n1 c1 : Nat} {L1 : List Int} (h : TelS w W A0 n0 c0 L0 A1 n1 c1 L1) (hb : Below W.heap.size W W') : TelS w W' A0 n0 c0 L0 A1 n1 c1 L1 :=
  ⟨below_then h.bel hb, h.s0.below hb, h.s1.below hb⟩
theorem below_drew (w : World) (q : Nat) : Below w.heap.size w (w.drewN q) := below_drewN' (Below.refl _ w) q
set_option maxRecDepth 100000 in
set_option maxHeartbeats 4000000 in
theorem law_BagTells (A0 : Option Addr) (n0 c0 : Nat) (L0 : Row) (m : Int) (A1 : Option Addr) (n1 c1 : Nat) (L1 : List Int) (most : Int) (w : World) (H0 : Hid (Sl w (.slice A0 n0 c0) n0 2 (pairCells L0))) (i0 : Hid (I64s L0)) (hm : Hid (I64 m)) (H1 : Hid (Sl w (.slice A1 n1 c1) n1 1 (intCells L1))) (i1 : Hid (∀ x ∈ L1, I64 x)) :
    Calls Try.prog 3 #[.slice A0 n0 c0, .int .i64 m, .slice A1 n1 c1, .int .i64 most] w fun e w' => e = .returned (.bool true) ∧ Below w.heap.size w w' := by
  have cS := Lib.hid (law03_small w)
  have b0 := H0.out.bound
  have b1 := H1.out.bound
  have l1 := Lib.hid (show L1.length = n1 by have := H1.out.len; rw [intCells_len] at this; omega)
  by_cases g0 : 60 < n0
  · go_enter Try.func3, Try.ntmps3
    go_wp2_with fail
    refine cS.out.mono ?_
    rintro e w1 ⟨rfl, hb⟩
    have B := Lib.hid hb
    clear hb
    go_wp2
    go_ret
    exact ⟨rfl, B.out⟩
  by_cases g1 : 200 < n1
  · go_enter Try.func3, Try.ntmps3
    go_wp2_with fail
    refine cS.out.mono ?_
    rintro e w1 ⟨rfl, hb⟩
    have B := Lib.hid hb
    clear hb
    go_wp2
    go_ret
    exact ⟨rfl, B.out⟩
  obtain ⟨R, hR⟩ : ∃ R, R = rightB L0 := ⟨_, rfl⟩
  have HR := Lib.hid hR
  obtain ⟨t, ht⟩ : ∃ t, t = totR L0 := ⟨_, rfl⟩
  have HT := Lib.hid ht
  obtain ⟨cn, hcn⟩ : ∃ cn, cn = cntR L0 m := ⟨_, rfl⟩
  have HC := Lib.hid hcn
  obtain ⟨mm, hmm⟩ : ∃ mm, min most 1000 = mm := ⟨_, rfl⟩
  have hm9 : mm ≤ 1000000000000 := by omega
  have hbb : (R == R) = true := by simp
  clear hR ht hcn
  go_enter Try.func3, Try.ntmps3
  go_wp2_with fail
  refine cS.out.mono ?_
  rintro e w1 ⟨rfl, hb⟩
  have S := Lib.hid (show TelS w w1 A0 n0 c0 L0 A1 n1 c1 L1 from ⟨hb, H0.out.below hb, H1.out.below hb⟩)
  clear hb H0 H1 cS
  have cW := Lib.hid (bag_Right A0 n0 c0 L0 w1 (Lib.hid S.out.s0))
  rw [← HR.out] at cW
  go_wp2_with fail
  refine cW.out.mono ?_
  rintro e w2 ⟨rfl, hb⟩
  replace S := Lib.hid (S.out.go hb)
  clear hb cW
  have cW := Lib.hid (ref_Right A0 n0 c0 L0 w2 (Lib.hid S.out.s0))
  rw [← HR.out] at cW
  go_wp2_with fail
  refine cW.out.mono ?_
  rintro e w3 ⟨rfl, q3, h3⟩
  replace S := Lib.hid (show TelS w w3 A0 n0 c0 L0 A1 n1 c1 L1 by rw [h3]; exact S.out.go (below_drew w2 q3))
  clear h3 cW
  have cW := Lib.hid (bag_Count A0 n0 c0 L0 m w3 (Lib.hid S.out.s0) i0 (by omega) hm)
  rw [← HC.out] at cW
  go_wp2_with fail
  refine cW.out.mono ?_
  rintro e w4 ⟨rfl, hb⟩
  replace S := Lib.hid (S.out.go hb)
  clear hb cW
  have cW := Lib.hid (ref_Count A0 n0 c0 L0 m w4 (Lib.hid S.out.s0))
  rw [← HC.out] at cW
  go_wp2_with fail
  refine cW.out.mono ?_
  rintro e w5 ⟨rfl, q5, h5⟩
  replace S := Lib.hid (show TelS w w5 A0 n0 c0 L0 A1 n1 c1 L1 by rw [h5]; exact S.out.go (below_drew w4 q5))
  clear h5 cW
  have cW := Lib.hid (bag_Total A0 n0 c0 L0 w5 (Lib.hid S.out.s0) i0 (by omega))
  rw [← HT.out] at cW
  go_wp2_with fail
  refine cW.out.mono ?_
  rintro e w6 ⟨rfl, hb⟩
  replace S := Lib.hid (S.out.go hb)
  clear hb cW
  have cW := Lib.hid (ref_Total A0 n0 c0 L0 w6 (Lib.hid S.out.s0) (by omega))
  rw [← HT.out] at cW
  go_wp2_with fail
  refine cW.out.mono ?_
  rintro e w7 ⟨rfl, q7, h7⟩
  replace S := Lib.hid (show TelS w w7 A0 n0 c0 L0 A1 n1 c1 L1 by rw [h7]; exact S.out.go (below_drew w6 q7))
  clear h7 cW
  go_wp2_with fail
  refine (gotOf S.out.s1 i1.out (by omega)).mono ?_
  rintro e w8 ⟨A5, c5, O, k5, rfl, e5, q5', g5, i5, h5, hb⟩
  replace S := Lib.hid (S.out.go hb)
  have HO := Lib.hid h5
  have GO := Lib.hid g5
  have EO := Lib.hid e5
  rw [l1.out] at q5'
  clear hb h5 i5 g5 e5
  go_wp2_with fail
  refine (ref_Of A1 n1 c1 L1 w8 (Lib.hid S.out.s1) (by omega)).mono ?_
  rintro e w9 ⟨A6, c6, k6, O2, rfl, e6, q6, g6, h6, hb⟩
  obtain rfl : O2 = O := g6.uniq GO.out
  replace S := Lib.hid (S.out.go hb)
  replace HO := Lib.hid (HO.out.below hb)
  have HO2 := Lib.hid (Sl.of_own h6)
  clear hb h6 g6 e6
  have cW := Lib.hid (ref_Rows A5 A6 k5 k6 c5 c6 O2 O2 w9 HO HO2 (by omega) (by omega))
  simp only [decide_true] at cW
  go_wp2_with fail
  refine cW.out.mono ?_
  rintro e w10 ⟨rfl, q10, h10⟩
  replace S := Lib.hid (show TelS w w10 A0 n0 c0 L0 A1 n1 c1 L1 by rw [h10]; exact S.out.go (below_drew w9 q10))
  clear h10 cW HO HO2
  obtain ⟨X, hX⟩ : ∃ X, X = listM L0 mm := ⟨_, rfl⟩
  have cW := bag_List A0 n0 c0 L0 mm w10 (Lib.hid S.out.s0) hm9
  unfold ListP at cW
  rw [← hX] at cW
  have CW := Lib.hid cW
  clear cW
  go_wp2_with fail
  refine CW.out.mono ?_
  rintro e w11 ⟨A7, c7, rfl, h7, hb⟩
  replace S := Lib.hid (S.out.go hb)
  have HX := Lib.hid (Sl.of_own h7)
  have hxb := (Sl.of_own h7).bound
  clear hb h7 CW
  have cW := ref_List A0 n0 c0 L0 mm w11 (Lib.hid S.out.s0) hm9
  unfold ListP at cW
  rw [← hX] at cW
  have CW := Lib.hid cW
  clear cW hX
  go_wp2_with fail
  refine CW.out.mono ?_
  rintro e w12 ⟨A8, c8, rfl, h8, hb⟩
  replace S := Lib.hid (S.out.go hb)
  replace HX := Lib.hid (HX.out.below hb)
  have HY := Lib.hid (Sl.of_own h8)
  clear hb h8 CW
  have cW := Lib.hid (ref_Ints A7 A8 X.length X.length c7 c8 X X w12 HX HY hxb hxb)
  simp only [decide_true] at cW
  go_wp2_with fail
  refine cW.out.mono ?_
  rintro e w13 ⟨rfl, q13, h13⟩
  replace S := Lib.hid (show TelS w w13 A0 n0 c0 L0 A1 n1 c1 L1 by rw [h13]; exact S.out.go (below_drew w12 q13))
  clear h13 cW
  go_wp2
  go_ret
  exact ⟨rfl, S.out.bel⟩
end Go.Proofs.Ytfnolejghioodaa
