/- Law BagLists: the walk. -/
import Derived.Test.YtfnolejghioodaaBagU
namespace Go.Proofs.Ytfnolejghioodaa
open Go.RowKit
/-- The end of the law, at the bags. -/
structure LstS (w W : World) (A0 : Option Addr) (n0 c0 : Nat) (L0 : Row) (A1 : Option Addr) (n1 c1 : Nat) (L1 : List Int) : Prop where
  bel : Below w.heap.size w W
  s0 : Sl W (.slice A0 n0 c0) n0 2 (pairCells L0)
  s1 : Sl W (.slice A1 n1 c1) n1 1 (intCells L1)
theorem LstS.go {w W W' : World} {A0 : Option Addr} {n0 c0 : Nat} {L0 : Row} {A1 : Option Addr} {n1 c1 : Nat} {L1 : List Int} (h : LstS w W A0 n0 c0 L0 A1 n1 c1 L1) (hb : Below W.heap.size W W') : LstS w W' A0 n0 c0 L0 A1 n1 c1 L1 :=
  ⟨below_then h.bel hb, h.s0.below hb, h.s1.below hb⟩
set_option maxRecDepth 100000 in
set_option maxHeartbeats 4000000 in
theorem law_BagLists (A0 : Option Addr) (n0 c0 : Nat) (L0 : Row) (A1 : Option Addr) (n1 c1 : Nat) (L1 : List Int) (w : World) (H0 : Hid (Sl w (.slice A0 n0 c0) n0 2 (pairCells L0))) (i0 : Hid (I64s L0)) (H1 : Hid (Sl w (.slice A1 n1 c1) n1 1 (intCells L1))) (i1 : Hid (∀ x ∈ L1, I64 x)) :
    Calls Try.prog 8 #[.slice A0 n0 c0, .slice A1 n1 c1] w fun e w' => e = .returned (.bool true) ∧ Below w.heap.size w w' := by
  have cS := Lib.hid (law03_small w)
  have b0 := H0.out.bound
  have b1 := H1.out.bound
  have l0 := Lib.hid (show L0.length = n0 by have := H0.out.len; rw [pairCells_len] at this; omega)
  have l1 := Lib.hid (show L1.length = n1 by have := H1.out.len; rw [intCells_len] at this; omega)
  by_cases g0 : 20 < n0
  · go_enter Try.func8, Try.ntmps8
    go_wp2_with fail
    refine cS.out.mono ?_
    rintro e w1 ⟨rfl, hb⟩
    have B := Lib.hid hb
    clear hb
    go_wp2
    go_ret
    exact ⟨rfl, B.out⟩
  by_cases g1 : 100 < n1
  · go_enter Try.func8, Try.ntmps8
    go_wp2_with fail
    refine cS.out.mono ?_
    rintro e w1 ⟨rfl, hb⟩
    have B := Lib.hid hb
    clear hb
    go_wp2
    go_ret
    exact ⟨rfl, B.out⟩
  obtain ⟨t, ht⟩ : ∃ t, t = totR L0 := ⟨_, rfl⟩
  have HT := Lib.hid ht
  clear ht
  go_enter Try.func8, Try.ntmps8
  go_wp2_with fail
  refine cS.out.mono ?_
  rintro e w1 ⟨rfl, hb⟩
  have S := Lib.hid (show LstS w w1 A0 n0 c0 L0 A1 n1 c1 L1 from ⟨hb, H0.out.below hb, H1.out.below hb⟩)
  clear hb H0 H1 cS
  have cT := Lib.hid (bag_Total A0 n0 c0 L0 w1 (Lib.hid S.out.s0) i0 (by omega))
  rw [← HT.out] at cT
  go_wp2_with fail
  refine cT.out.mono ?_
  rintro e w2 ⟨rfl, hb⟩
  replace S := Lib.hid (S.out.go hb)
  clear hb cT
  by_cases gt : 1000 < t
  · go_wp2
    go_ret
    exact ⟨rfl, S.out.bel⟩
  go_wp2_with fail
  go_loopw [6, 7] (fun o v wr => ∃ (j m : Nat) (A' : Option Addr) (c' : Nat), j ≤ n1 ∧ v = .int .i64 ((j : Int) - 1) ∧ o = .slice A' m c' ∧ m + j = n1 ∧ Hid (wr.ownsRow w2.heap.size 3 1 (.slice A' m c') m (intCells (L1.drop j).reverse)) ∧ Hid (Below w2.heap.size w2 wr)) (fun _ v _ => (RowKit.intOf v + 1).toNat)
  case atStart => exact ⟨n1, 0, none, 0, by omega, rfl, rfl, by omega, (by rw [List.drop_eq_nil_of_le (by rw [l1.out]; omega)]; exact World.ownsRow_nil _ _ _ _), Below.refl _ _⟩
  case round =>
    obtain ⟨j, m, A', c', hj, rfl, rfl, hm, hO, hB⟩ := hrel
    by_cases h0 : j = 0
    · subst h0
      obtain rfl : m = n1 := by omega
      have HBK := Lib.hid (Sl.of_own hO.out)
      rw [List.drop_zero] at HBK
      replace S := Lib.hid (S.out.go hB.out)
      have hmc : m ≤ c' := by
        obtain ⟨_, _, e6, hx6, _⟩ := own_form hO.out
        injection e6 with _ _ e6
        omega
      clear hO hB
      obtain ⟨R, hR⟩ : ∃ R, R = rightB L0 := ⟨_, rfl⟩
      have cR := Lib.hid (bag_Right A0 n0 c0 L0 wr (Lib.hid S.out.s0))
      rw [← hR] at cR
      have HR := Lib.hid hR
      clear hR
      cases R with
      | false =>
        go_wp2_with fail
        refine cR.out.mono ?_
        rintro e w7 ⟨rfl, hb⟩
        replace S := Lib.hid (S.out.go hb)
        replace HBK := Lib.hid (HBK.out.below hb)
        clear hb cR
        go_wp2_with fail
        refine (gotOf S.out.s1 i1.out (by omega)).mono ?_
        rintro e w8 ⟨A5, c5, O, k5, rfl, e5, q5, g5, i5, h5, hb⟩
        replace S := Lib.hid (S.out.go hb)
        replace HBK := Lib.hid (HBK.out.below hb)
        have HO := Lib.hid h5
        have IO := Lib.hid i5
        have GO := Lib.hid g5
        have EO := Lib.hid e5
        rw [l1.out] at q5
        clear hb h5 i5 g5 e5
        go_wp2_with fail
        go_loopw [9, 10] (fun v k wr => ∃ (j : Nat) (z : Int), j ≤ m ∧ k = .int .i64 (j : Int) ∧ v = .int .i64 z ∧ Hid (z = nnC (L1.take j)) ∧ wr = w8) (fun _ k _ => m - (RowKit.intOf k).toNat)
        case atStart => exact ⟨0, 0, by omega, rfl, rfl, (by show (0 : Int) = _; rw [List.take_zero]; rfl), rfl⟩
        case round =>
          obtain ⟨j, z, hj, rfl, rfl, hz, rfl⟩ := hrel
          by_cases hlt : j < m
          · obtain ⟨bb, oo, rfl, p0⟩ := S.out.s1.int_at hlt
            obtain ⟨x, hx⟩ : ∃ x, x = L1.getD j 0 := ⟨_, rfl⟩
            rw [← hx] at p0
            have hts := take_snocI (K := L1) (k := j) (by rw [l1.out]; exact hlt)
            rw [← hx] at hts
            have hsn := nnC_snoc x (L1.take j)
            rw [← hts, ← hz.out] at hsn
            have hbd := nnC_bound (L1.take j)
            rw [← hz.out, List.length_take] at hbd
            obtain ⟨z0, z1⟩ := hbd
            have hlt2 : (j : Int) < (m : Int) := by omega
            have hk0 : (0 : Int) ≤ (j : Int) := by omega
            clear hx hts
            by_cases h0 : 0 ≤ x
            · rw [if_pos h0] at hsn
              have HSN := Lib.hid hsn
              clear hsn
              go_wp2
              go_roundw
              case rel => exact ⟨j + 1, z + 1, by omega, by go_num, by go_num, HSN.out.symm, trivial⟩
              case measure => simp [RowKit.intOf]; omega
            · rw [if_neg h0] at hsn
              have HSN := Lib.hid hsn
              clear hsn
              go_wp2
              go_roundw
              case rel => exact ⟨j + 1, z, by omega, by go_num, rfl, (by show z = _; rw [HSN.out]; omega), trivial⟩
              case measure => simp [RowKit.intOf]; omega
          · have e1 : L1.take j = L1 := List.take_of_length_le (by rw [l1.out]; omega)
            rw [e1] at hz
            clear e1
            have hzt : z = totR O := by rw [hz.out]; exact (of_tot GO.out (by rw [l1.out]; omega)).symm
            have HZ := Lib.hid hzt
            clear hzt
            go_wp2_with fail
            refine (gotOf HBK.out (fun x hx => i1.out x (List.mem_reverse.1 hx)) (by omega)).mono ?_
            rintro e w9 ⟨A6, c6, O2, k6, rfl, e6, q6, g6, i6, h6, hb⟩
            rw [ofG_rev] at g6
            obtain rfl : O2 = O := g6.uniq GO.out
            replace S := Lib.hid (S.out.go hb)
            replace HO := Lib.hid (HO.out.below hb)
            have HO2 := Lib.hid h6
            have KO := Lib.hid (of_ok GO.out).1
            clear hb h6 i6 g6 e6
            have cW := Lib.hid (bag_Same A5 k5 c5 O2 A6 k6 c6 O2 w9 HO HO2)
            rw [sameR_self KO.out] at cW
            go_wp2_with fail
            refine cW.out.mono ?_
            rintro e w10 ⟨rfl, hb⟩
            replace S := Lib.hid (S.out.go hb)
            replace HO := Lib.hid (HO.out.below hb)
            clear hb cW
            have cW := Lib.hid (bag_Right A5 k5 c5 O2 w10 HO)
            rw [(rightB_iff O2).2 KO.out] at cW
            go_wp2_with fail
            refine cW.out.mono ?_
            rintro e w11 ⟨rfl, hb⟩
            replace S := Lib.hid (S.out.go hb)
            replace HO := Lib.hid (HO.out.below hb)
            clear hb cW
            have cW := Lib.hid (bag_Total A5 k5 c5 O2 w11 HO IO (by omega))
            rw [← HZ.out] at cW
            go_wp2_with fail
            refine cW.out.mono ?_
            rintro e w12 ⟨rfl, hb⟩
            replace S := Lib.hid (S.out.go hb)
            clear hb cW
            go_wp2
            go_ret
            exact ⟨rfl, S.out.bel⟩
      | true =>
        have K0 := Lib.hid ((rightB_iff L0).1 HR.out.symm)
        go_wp2_with fail
        refine cR.out.mono ?_
        rintro e w3 ⟨rfl, hb⟩
        replace S := Lib.hid (S.out.go hb)
        replace HBK := Lib.hid (HBK.out.below hb)
        clear hb cR
        have hfl : listM L0 2000 = flatM L0 := by
          unfold listM
          rw [← HR.out, if_pos rfl]
          refine List.take_of_length_le ?_
          have h1 := flat_length (M := L0) fun p hp => by have := K0.out.2 p hp; omega
          have h2 := HT.out
          unfold totR at h2
          rw [← HR.out, if_pos rfl, ← h1] at h2
          have : (2000 : Int).toNat = 2000 := rfl
          omega
        have hll : (flatM L0).length ≤ 2000 := by
          have h1 := flat_length (M := L0) fun p hp => by have := K0.out.2 p hp; omega
          have h2 := HT.out
          unfold totR at h2
          rw [← HR.out, if_pos rfl, ← h1] at h2
          omega
        have cL := bag_List A0 n0 c0 L0 2000 w3 (Lib.hid S.out.s0) (by omega)
        unfold ListP at cL
        rw [hfl] at cL
        have CL := Lib.hid cL
        obtain ⟨q, hq⟩ : ∃ q, q = (flatM L0).length := ⟨_, rfl⟩
        rw [← hq] at CL hll
        clear cL hfl hq
        go_wp2_with fail
        refine CL.out.mono ?_
        rintro e w4 ⟨A3, c3, rfl, ho, hb⟩
        replace S := Lib.hid (S.out.go hb)
        replace HBK := Lib.hid (HBK.out.below hb)
        have HL := Lib.hid (Sl.of_own ho)
        have hq3 := (Sl.of_own ho).bound
        clear hb ho CL
        go_wp2_with fail
        refine (gotOf HL.out (I64_flat i0.out) (by omega)).mono ?_
        rintro e w5 ⟨A4, c4, M4, k4, rfl, e4, q4, g4, i4, h4, hb⟩
        rw [ofG_flat K0.out] at g4
        obtain rfl : M4 = L0 := g4.uniq K0.out.row
        replace S := Lib.hid (S.out.go hb)
        replace HBK := Lib.hid (HBK.out.below hb)
        have H4 := Lib.hid h4
        clear hb h4 g4 i4 e4 HL
        have cW := Lib.hid (bag_Same A4 k4 c4 M4 A0 n0 c0 M4 w5 H4 (Lib.hid S.out.s0))
        rw [sameR_self K0.out] at cW
        go_wp2_with fail
        refine cW.out.mono ?_
        rintro e w7 ⟨rfl, hb⟩
        replace S := Lib.hid (S.out.go hb)
        replace HBK := Lib.hid (HBK.out.below hb)
        clear hb cW H4
        go_wp2_with fail
        refine (gotOf S.out.s1 i1.out (by omega)).mono ?_
        rintro e w8 ⟨A5, c5, O, k5, rfl, e5, q5, g5, i5, h5, hb⟩
        replace S := Lib.hid (S.out.go hb)
        replace HBK := Lib.hid (HBK.out.below hb)
        have HO := Lib.hid h5
        have IO := Lib.hid i5
        have GO := Lib.hid g5
        have EO := Lib.hid e5
        rw [l1.out] at q5
        clear hb h5 i5 g5 e5
        go_wp2_with fail
        go_loopw [9, 10] (fun v k wr => ∃ (j : Nat) (z : Int), j ≤ m ∧ k = .int .i64 (j : Int) ∧ v = .int .i64 z ∧ Hid (z = nnC (L1.take j)) ∧ wr = w8) (fun _ k _ => m - (RowKit.intOf k).toNat)
        case atStart => exact ⟨0, 0, by omega, rfl, rfl, (by show (0 : Int) = _; rw [List.take_zero]; rfl), rfl⟩
        case round =>
          obtain ⟨j, z, hj, rfl, rfl, hz, rfl⟩ := hrel
          by_cases hlt : j < m
          · obtain ⟨bb, oo, rfl, p0⟩ := S.out.s1.int_at hlt
            obtain ⟨x, hx⟩ : ∃ x, x = L1.getD j 0 := ⟨_, rfl⟩
            rw [← hx] at p0
            have hts := take_snocI (K := L1) (k := j) (by rw [l1.out]; exact hlt)
            rw [← hx] at hts
            have hsn := nnC_snoc x (L1.take j)
            rw [← hts, ← hz.out] at hsn
            have hbd := nnC_bound (L1.take j)
            rw [← hz.out, List.length_take] at hbd
            obtain ⟨z0, z1⟩ := hbd
            have hlt2 : (j : Int) < (m : Int) := by omega
            have hk0 : (0 : Int) ≤ (j : Int) := by omega
            clear hx hts
            by_cases h0 : 0 ≤ x
            · rw [if_pos h0] at hsn
              have HSN := Lib.hid hsn
              clear hsn
              go_wp2
              go_roundw
              case rel => exact ⟨j + 1, z + 1, by omega, by go_num, by go_num, HSN.out.symm, trivial⟩
              case measure => simp [RowKit.intOf]; omega
            · rw [if_neg h0] at hsn
              have HSN := Lib.hid hsn
              clear hsn
              go_wp2
              go_roundw
              case rel => exact ⟨j + 1, z, by omega, by go_num, rfl, (by show z = _; rw [HSN.out]; omega), trivial⟩
              case measure => simp [RowKit.intOf]; omega
          · have e1 : L1.take j = L1 := List.take_of_length_le (by rw [l1.out]; omega)
            rw [e1] at hz
            clear e1
            have hzt : z = totR O := by rw [hz.out]; exact (of_tot GO.out (by rw [l1.out]; omega)).symm
            have HZ := Lib.hid hzt
            clear hzt
            go_wp2_with fail
            refine (gotOf HBK.out (fun x hx => i1.out x (List.mem_reverse.1 hx)) (by omega)).mono ?_
            rintro e w9 ⟨A6, c6, O2, k6, rfl, e6, q6, g6, i6, h6, hb⟩
            rw [ofG_rev] at g6
            obtain rfl : O2 = O := g6.uniq GO.out
            replace S := Lib.hid (S.out.go hb)
            replace HO := Lib.hid (HO.out.below hb)
            have HO2 := Lib.hid h6
            have KO := Lib.hid (of_ok GO.out).1
            clear hb h6 i6 g6 e6
            have cW := Lib.hid (bag_Same A5 k5 c5 O2 A6 k6 c6 O2 w9 HO HO2)
            rw [sameR_self KO.out] at cW
            go_wp2_with fail
            refine cW.out.mono ?_
            rintro e w10 ⟨rfl, hb⟩
            replace S := Lib.hid (S.out.go hb)
            replace HO := Lib.hid (HO.out.below hb)
            clear hb cW
            have cW := Lib.hid (bag_Right A5 k5 c5 O2 w10 HO)
            rw [(rightB_iff O2).2 KO.out] at cW
            go_wp2_with fail
            refine cW.out.mono ?_
            rintro e w11 ⟨rfl, hb⟩
            replace S := Lib.hid (S.out.go hb)
            replace HO := Lib.hid (HO.out.below hb)
            clear hb cW
            have cW := Lib.hid (bag_Total A5 k5 c5 O2 w11 HO IO (by omega))
            rw [← HZ.out] at cW
            go_wp2_with fail
            refine cW.out.mono ?_
            rintro e w12 ⟨rfl, hb⟩
            replace S := Lib.hid (S.out.go hb)
            clear hb cW
            go_wp2
            go_ret
            exact ⟨rfl, S.out.bel⟩
    · obtain ⟨bb, oo, rfl, p0⟩ := S.out.s1.int_at (k := j - 1) (by omega)
      replace p0 := cell_kept hB.out p0
      have hdr := Lib.hid (drop_rev (l := L1) (j := j - 1) (by rw [l1.out]; omega))
      rw [show j - 1 + 1 = j by omega] at hdr
      obtain ⟨x, hx⟩ : ∃ x, x = L1.getD (j - 1) 0 := ⟨_, rfl⟩
      rw [← hx] at p0 hdr
      have hone := Lib.hid (show ∀ u ∈ [Value.int .i64 x], u.oneCell' = true by
        intro u hu
        simp only [List.mem_cons, List.not_mem_nil, or_false] at hu
        subst hu
        rfl)
      have hjc : ((j : Int) - 1) = ((j - 1 : Nat) : Int) := by omega
      obtain ⟨k, hk⟩ : ∃ k, k = j - 1 := ⟨_, rfl⟩
      rw [← hk] at p0 hjc hdr
      have hjk : j = k + 1 := by omega
      subst hjk
      rw [hjc]
      have hkn : (k : Int) < (n1 : Int) := by omega
      have hk0 : (0 : Int) ≤ (k : Int) := by omega
      have hsz := hB.out.size
      clear hx hk hjc h0
      go_wp2_with (at_builtin; refine wpList_append_sl ints_ty rfl (.tmp 33) (.tmp 38) rfl w2.heap.size rfl (by exact (World.ownsRow.alloc hO.out _)) rfl (by exact Sl.new _ _ [Value.int .i64 x] 1 1 rfl (by omega)) hone.out (by omega) (by omega) (by simp; omega) ?_; intro v4 w4 hown4 hg4 hat4; obtain ⟨A4, c4, rfl, _, _⟩ := own_form hown4; have HO4 := Lib.hid hown4; have HB4 := Lib.hid ((hB.out.alloc hsz (.cells #[.int .i64 x] 3)).grown hg4 (by simp; omega) (fun q hq => (hO.out.lt q hq).1)); clear hown4 hg4 hat4 p0)
      go_roundw
      case rel => exact ⟨k, m + 1, A4, c4, by omega, rfl, rfl, by omega, by rw [hdr.out, intCells_app]; exact HO4.out, HB4.out⟩
      case measure => simp [RowKit.intOf]
end Go.Proofs.Ytfnolejghioodaa
