/- Law CheckParts. Printed by gen_ckC.py. -/
import Derived.Test.YtaeeblceedklnaaGreatDoorCkM
import Derived.Test.YtaeeblceedklnaaGreatDoorCkX
namespace Go.Proofs.YtaeeblceedklnaaGreatDoor
open Go.RowKit
section
variable {A1 A2 A3 : Option Addr} {n1 c1 n2 c2 n3 c3 : Nat} {N : Nt}
set_option maxRecDepth 100000 in
set_option maxHeartbeats 8000000 in
theorem law_CheckParts (w : World) (ht : Hid (TabOk w)) (hN : Hid (NetAt w A1 n1 c1 A2 n2 c2 A3 n3 c3 N)) (hL : Hid (NetLen N)) : Calls Tryz.prog 5 #[netV A1 n1 c1 A2 n2 c2 A3 n3 c3 N.from_ N.to_] w fun e w' => e = .returned (.bool true) ∧ Below w.heap.size w w' := by
  have hn1 := Nat.le_trans hN.out.cols.1 hN.out.cols.2.1
  have hn2 := Nat.le_trans hN.out.pls.1 hN.out.pls.2.1
  have hn3 := Nat.le_trans hN.out.tks.1 hN.out.tks.2.1
  have HLC := Lib.hid hN.out.cols.2.2.1
  have HLP := Lib.hid hN.out.pls.2.2.1
  have HLT := Lib.hid hN.out.tks.2.2.1
  obtain ⟨w1, hw1⟩ : ∃ x, x = w.alloc (.cells #[.slice A1 n1 c1, .slice A2 n2 c2, .slice A3 n3 c3, .int .i64 N.from_, .int .i64 N.to_] 26) := ⟨_, rfl⟩
  have HB1 := Lib.hid (show Below w.heap.size w w1 by rw [hw1]; exact alr w _)
  have NB1 := Lib.hid (show NBox w1 w.heap.size A1 n1 c1 A2 n2 c2 A3 n3 c3 N.from_ N.to_ by rw [hw1]; exact NBox.new w A1 n1 c1 A2 n2 c2 A3 n3 c3 N.from_ N.to_ 26)
  have HW := Lib.hid hw1.symm
  clear hw1
  go_enter Tryz.func5, Tryz.ntmps5
  go_upto_region 1 with fail
  rw [HW.out]
  go_wp2_with fail
  refine (law_small w1 (Lib.hid (ht.out.below HB1.out))).mono ?_
  rintro e w2 ⟨rfl, hb⟩
  have HB2 := Lib.hid (below_then HB1.out hb)
  have HC2 := Lib.hid hb
  clear hb
  obtain ⟨x0, x1, x2, x3, x4⟩ := NB1.out.below HC2.out
  go_wp2_with fail
  refine (law_NetFew w2 (Lib.hid (hN.out.below HB2.out)) hL).mono ?_
  rintro e w3 ⟨b, rfl, hfew, hb⟩
  have HF := Lib.hid hfew
  have HB3 := Lib.hid (below_then HB2.out hb)
  have HC3 := Lib.hid (below_then HC2.out hb)
  clear hb hfew x0 x1 x2 x3 x4
  cases b with
  | false =>
    go_wp2_with fail
    go_ret
    exact ⟨rfl, HB3.out⟩
  | true =>
  obtain ⟨x0, x1, x2, x3, x4⟩ := NB1.out.below HC3.out
  have HFEW := Lib.hid (HF.out rfl)
  have HSM := Lib.hid HFEW.out.small
  obtain ⟨z1, z2, z3⟩ : n1 ≤ 40 ∧ n2 ≤ 70 ∧ n3 ≤ 70 := ⟨HLC.out ▸ HFEW.out.cols, HLP.out ▸ HFEW.out.pls, HLT.out ▸ HFEW.out.tks⟩
  have eP := fun W : World => (show (binOp .eql 30 (.agg #[.int .i64 0, .int .i64 0]) (.agg #[.int .i64 0, .int .i64 0])).run Tryz.prog W = .ok (.bool true) W by kernel_rfl)
  have EP := Lib.hid eP
  clear eP
  obtain ⟨E, hEE⟩ : ∃ E, E = netE N := ⟨_, rfl⟩
  have cN := ck_Net w3 (Lib.hid (ht.out.below HB3.out)) (Lib.hid (hN.out.below HB3.out)) HSM
  rw [← hEE] at cN
  have HE := Lib.hid hEE
  obtain ⟨E1, E2, E3⟩ := E
  have CN := Lib.hid cN
  clear cN hEE
  go_wp2_with fail
  refine CN.out.mono ?_
  rintro e w4 ⟨rfl, hb⟩
  have PA := Lib.hid (And.intro (cell_new w4 #[.int .i64 E1, .int .i64 E2] 30 0 _ rfl) (cell_new w4 #[.int .i64 E1, .int .i64 E2] 30 1 _ rfl))
  have HB5 := Lib.hid (below_then (below_then HB3.out hb) (alr w4 (.cells #[.int .i64 E1, .int .i64 E2] 30)))
  have HC5 := Lib.hid (below_then (below_then HC3.out hb) (alr w4 (.cells #[.int .i64 E1, .int .i64 E2] 30)))
  obtain ⟨w5, hw5⟩ : ∃ y, y = w4.alloc (.cells #[.int .i64 E1, .int .i64 E2] 30) := ⟨_, rfl⟩
  obtain ⟨g4, hg4⟩ : ∃ y, y = w4.heap.size := ⟨_, rfl⟩
  rw [← hw5] at HB5 HC5 PA
  rw [← hg4] at PA
  have HW5 := Lib.hid hw5.symm
  have HG4 := Lib.hid hg4.symm
  clear hb hw5 hg4 x0 x1 x2 x3 x4 CN
  go_upto_region 6 with fail
  rw [HW5.out, HG4.out]
  by_cases h0 : E3 = 0
  · subst h0
    have hz : netE N = (0, 0, 0) := netE_zero (by rw [← HE.out])
    have he := HE.out.trans hz
    injection he with e1 e2
    injection e2 with e2 _
    subst e1
    subst e2
    have HOK := Lib.hid (netE_ok.1 (show (netE N).2.2 = 0 by rw [hz]))
    have HNE := Lib.hid HOK.out.head.ne
    have HCO := Lib.hid (colsE_some HOK.out.cols)
    clear hz HE HF
    go_wp2_with fail
    go_loopw [7] (fun v7 wr => ∃ (k : Nat), k ≤ n2 ∧ v7 = .int .i64 (k : Int) ∧ Hid (Below w5.heap.size w5 wr)) (fun v7 _ => n2 - (intOf v7).toNat)
    case atStart => exact ⟨0, by omega, rfl, Lib.hid (Below.refl _ _)⟩
    case round =>
      obtain ⟨k, hk, rfl, hB⟩ := hrel
      have HBR := Lib.hid (below_then HB5.out hB.out)
      obtain ⟨x0, x1, x2, x3, x4⟩ := NB1.out.below (below_then HC5.out hB.out)
      by_cases hkt : k < n2
      · have k1 : (k : Int) < (n2 : Int) := by omega
        have cP := ck_Place (k : Int) wr (Lib.hid (ht.out.below HBR.out)) (Lib.hid (hN.out.below HBR.out))
        rw [HOK.out.pls k (by rw [HLP.out]; exact hkt)] at cP
        have CP := Lib.hid cP
        clear cP
        go_wp2_with fail
        refine CP.out.mono ?_
        rintro e w6 ⟨rfl, hb⟩
        have HB6 := Lib.hid (below_then hB.out hb)
        clear hb x0 x1 x2 x3 x4
        go_wp2_with fail
        go_roundw
        case rel => exact ⟨k + 1, by omega, by go_num, HB6⟩
        case measure => simp [intOf]; omega
      · have ek : k = n2 := by omega
        subst ek
        go_wp2_with fail
        clear x0 x1 x2 x3 x4
        go_loopw [8] (fun v8 ws => ∃ (i : Nat), i ≤ n3 ∧ v8 = .int .i64 (i : Int) ∧ Hid (Below w5.heap.size w5 ws)) (fun v8 _ => n3 - (intOf v8).toNat)
        case atStart => exact ⟨0, by omega, rfl, hB⟩
        case round =>
          obtain ⟨i, hi, rfl, hB2⟩ := hrel
          have HBS := Lib.hid (below_then HB5.out hB2.out)
          have HCS := Lib.hid (below_then HC5.out hB2.out)
          obtain ⟨x0, x1, x2, x3, x4⟩ := NB1.out.below HCS.out
          by_cases hit : i < n3
          · have i1 : (i : Int) < (n3 : Int) := by omega
            have hil : i < N.tks.length := by rw [HLT.out]; exact hit
            obtain ⟨b1, b2⟩ := binds_ok HOK.out hil
            have cT := ck_Task (i : Int) _ (Lib.hid (ht.out.below HBS.out)) (Lib.hid (hN.out.below HBS.out)) HSM
            rw [taskE_at hil, taskB_ok.2 ⟨HOK.out.cols, HOK.out.tks i hil⟩] at cT
            have CT := Lib.hid cT
            have CB := Lib.hid (fun W (h : Below w.heap.size w W) => ck_Binds (i : Int) W (Lib.hid (hN.out.below h)))
            obtain ⟨bb, hbb⟩ : ∃ y, y = bindsE N (i : Int) := ⟨_, rfl⟩
            rw [← hbb] at CB b1 b2
            clear cT hbb hil
            go_wp2_with fail
            refine CT.out.mono ?_
            rintro e w6 ⟨rfl, hb⟩
            have HB6 := Lib.hid (below_then hB2.out hb)
            have HA6 := Lib.hid (below_then HBS.out hb)
            clear x0 x1 x2 x3 x4
            obtain ⟨x0, x1, x2, x3, x4⟩ := NB1.out.below (below_then HCS.out hb)
            clear hb
            go_wp2_with fail
            refine (CB.out w6 HA6.out).mono ?_
            rintro e w7 ⟨rfl, hb⟩
            have HB7 := Lib.hid (below_then HB6.out hb)
            have HA7 := Lib.hid (below_then HA6.out hb)
            clear x0 x1 x2 x3 x4
            obtain ⟨x0, x1, x2, x3, x4⟩ := NB1.out.below (below_then HC5.out HB7.out)
            clear hb
            go_wp2_with fail
            refine (CB.out w7 HA7.out).mono ?_
            rintro e w8 ⟨rfl, hb⟩
            have HB8 := Lib.hid (below_then HB7.out hb)
            clear hb x0 x1 x2 x3 x4
            go_wp2_with fail
            go_roundw
            case rel => exact ⟨i + 1, by omega, by go_num, HB8⟩
            case measure => simp [intOf]; omega
          · have ei : i = n3 := by omega
            subst ei
            have p0 := cell_kept hB2.out PA.out.1
            have p1 := cell_kept hB2.out PA.out.2
            have eP := EP.out
            have hne := HNE.out
            have hne2 : (N.from_ != N.to_) = true := by simpa using hne
            have cR := col_Right A1 n1 c1 N.cols _ (Lib.hid (hN.out.cols.below HBS.out))
            rw [HCO.out] at cR
            have CR := Lib.hid cR
            clear cR
            go_wp2_with fail
            refine CR.out.mono ?_
            rintro e w6 ⟨rfl, hb⟩
            have HZ := Lib.hid (below_then HBS.out hb)
            clear hb
            go_wp2_with fail
            go_ret
            exact ⟨rfl, HZ.out⟩
  · have hE := HE.out
    have hne := netE_told (N := N) (by rw [← hE]; exact h0)
    rw [← hE] at hne
    have HT := Lib.hid hne
    clear hE HE hne
    have z0 : (E3 == 0) = false := by simpa using h0
    clear HF
    obtain ⟨x0, x1, x2, x3, x4⟩ := NB1.out.below HC5.out
    obtain ⟨p0, p1⟩ := PA.out
    rcases HT.out with h | ⟨h, h2⟩ | ⟨h, h2⟩ | ⟨h, h2⟩
    · simp only at h
      subst h
      clear HT
      go_wp2_with fail
      go_ret
      exact ⟨rfl, HB5.out⟩
    · simp only at h h2
      subst h
      subst h2
      clear HT
      go_wp2_with fail
      go_ret
      exact ⟨rfl, HB5.out⟩
    · simp only at h h2
      subst h
      have CP := Lib.hid (h2 ▸ ck_Place E2 w5 (Lib.hid (ht.out.below HB5.out)) (Lib.hid (hN.out.below HB5.out)))
      clear HT h2
      go_wp2_with fail
      refine CP.out.mono ?_
      rintro e w6 ⟨rfl, hb⟩
      have HZ := Lib.hid (below_then HB5.out hb)
      clear hb
      go_wp2_with fail
      go_ret
      exact ⟨rfl, HZ.out⟩
    · simp only at h h2
      subst h
      have CT := Lib.hid (h2 ▸ ck_Task E2 w5 (Lib.hid (ht.out.below HB5.out)) (Lib.hid (hN.out.below HB5.out)) HSM)
      clear HT h2
      go_wp2_with fail
      refine CT.out.mono ?_
      rintro e w6 ⟨rfl, hb⟩
      have HZ := Lib.hid (below_then HB5.out hb)
      clear hb
      go_wp2_with fail
      go_ret
      exact ⟨rfl, HZ.out⟩
end
end Go.Proofs.YtaeeblceedklnaaGreatDoor
