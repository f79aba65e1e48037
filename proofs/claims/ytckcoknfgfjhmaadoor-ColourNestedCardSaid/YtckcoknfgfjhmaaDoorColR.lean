/- The law ColourNested, walked. -/
import Derived.Test.YtckcoknfgfjhmaaDoorColQ
import Derived.Deep.RegionHeld3
import Derived.Deep.DeepCutAuto
namespace Go.Proofs.YtckcoknfgfjhmaaDoor
open Go.RowKit
theorem wrap_i64_64 (x : Int) : IntKind.i64.wrap x = wrap64 x := IntWalk.i64_left x
theorem sizesG_few : ∀ (L : List Col) (had : List (List UInt8)) (out ss : List Int), Few1024 out → sizesG had out L = some ss → Few1024 ss
  | [], had, out, ss, h, e => by
    rw [sizesG] at e
    injection e with e
    exact e ▸ h
  | c :: r, had, out, ss, h, e => by
    rw [sizesG] at e
    split at e
    · rename_i hg
      simp only [Bool.and_eq_true, decide_eq_true_eq] at hg
      exact sizesG_few r _ _ ss (h.snoc hg.1.2 hg.2) e
    · cases e
theorem sizesF_few {L : List Col} {ss : List Int} (h : sizesF L = some ss) : Few1024 ss := by
  unfold sizesF at h
  split at h
  · cases h
  · exact sizesG_few L [] [] ss (fun x hx => by cases hx) h
theorem partsV_form (L : List Col) (k m : Int) : ∃ a b t, partsV L k m = .tuple #[.int .i64 a, .int .i64 b, .bool t] := by
  unfold partsV
  rcases partsP L k m with _ | ⟨a, b⟩
  · exact ⟨0, 0, false, rfl⟩
  · exact ⟨a, b, true, rfl⟩
set_option maxRecDepth 100000 in
set_option maxHeartbeats 8000000 in
theorem law_ColourNested (A : Option Addr) (n c : Nat) (L : List Col) (k m : Int) (w : World) (hC : Hid (Cols w A n c L)) (hm : I64 m) :
    Calls Tryd.prog 3 #[.slice A n c, .int .i64 k, .int .i64 m] w fun e w' => e = .returned (.bool true) ∧ Below w.heap.size w w' := by
  have hl := Lib.hid hC.out.2.2.1
  go_enter Tryd.func3, Tryd.ntmps3
  go_wp2_with fail
  refine (law02_small w).mono ?_
  rintro e w1 ⟨rfl, hb1⟩
  have HB1 := Lib.hid hb1
  have H1 := Lib.hid (hC.out.below hb1)
  clear hb1
  go_wp2_with fail
  refine (col_Few A n c L w1 H1).mono ?_
  rintro e w2 ⟨ok, rfl, hb2⟩
  have HB2 := Lib.hid (below_then HB1.out hb2)
  have H2 := Lib.hid (H1.out.below hb2)
  clear hb2 H1 HB1
  cases ok with
  | false =>
    go_wp2
    go_ret
    exact ⟨rfl, HB2.out⟩
  | true =>
    by_cases k0 : k < 0
    · go_wp2
      go_ret
      exact ⟨rfl, HB2.out⟩
    · have k0' : 0 ≤ k := by omega
      clear k0
      by_cases k1 : (n : Int) ≤ k
      · go_wp2
        go_ret
        exact ⟨rfl, HB2.out⟩
      · have k1' : k < (n : Int) := by omega
        clear k1
        obtain ⟨p, rfl⟩ : ∃ p : Nat, k = (p : Int) := ⟨k.toNat, by omega⟩
        have hp : p < n := by omega
        obtain ⟨b, off, rfl, N, nn, nd, hCA⟩ := H2.out.at_ hp
        obtain ⟨kd, hkd⟩ : ∃ kd, (L.getD p default).kind = kd := ⟨_, rfl⟩
        have x1 := hCA.c1
        have x5 := hCA.c5
        have x6 := hCA.c6
        rw [hkd] at x1
        clear hCA
        by_cases k3 : kd = 3
        · subst k3
          rcases hz : sizesF L with _ | ss
          · have cR := col_Right (some ⟨b, off, none⟩) n c L w2 H2
            rw [hz] at cR
            have CR := Lib.hid cR
            clear hz cR
            go_wp2_with (go_at_call 6; refine CR.out.mono ?_; rintro e w3 ⟨rfl, hb3⟩; have HB3 := Lib.hid (below_then HB2.out hb3); clear hb3)
            go_ret
            exact ⟨rfl, HB3.out⟩
          · have cR := col_Right (some ⟨b, off, none⟩) n c L w2 H2
            rw [hz] at cR
            have CR := Lib.hid cR
            have HZ := Lib.hid hz
            obtain ⟨r, q, hr, hq, hrp, hqp, hprod⟩ := pair_at_ hz (k := p) (by rw [hl.out]; exact hp) hkd
            have hat := sizesF_at hz
            have hs1 := (hat.2 q (by rw [hl.out]; omega)).2
            have hs2 := (hat.2 r (by rw [hl.out]; omega)).2
            have hs3 := (hat.2 p (by rw [hl.out]; omega)).2
            have z1 := sizeAt_ok hz (p := p) (by rw [hl.out]; exact hp)
            have z2 := sizeAt_ok hz (p := r) (by rw [hl.out]; omega)
            have z3 := sizeAt_ok hz (p := q) (by rw [hl.out]; omega)
            rw [hr] at x5
            rw [hq] at x6
            have c1 := fun W h => col_Size (some ⟨b, off, none⟩) n c L (p : Int) W h
            have c2 := fun W h => col_Size (some ⟨b, off, none⟩) n c L (r : Int) W h
            have c3 := fun W h => col_Size (some ⟨b, off, none⟩) n c L (q : Int) W h
            rw [z1] at c1
            rw [z2] at c2
            rw [z3] at c3
            have hfew := (sizesF_few hz).at_ (k := p) (by rw [hat.1, hl.out]; exact hp)
            have hpq : ∀ m', 0 ≤ m' → m' < ss.getD p 0 → partsV L (p : Int) m' = .tuple #[.int .i64 (m' / ss.getD q 0), .int .i64 (m' % ss.getD q 0), .bool true] := by
              intro m' h0 h1
              unfold partsV
              rw [partsP_ok hz (by rw [hl.out]; exact hp) h0 h1 hkd hq]
            have hpn : ∀ m', ¬ (0 ≤ m' ∧ m' < ss.getD p 0) → partsV L (p : Int) m' = .tuple #[.int .i64 0, .int .i64 0, .bool false] := by
              intro m' h0
              unfold partsV
              rw [partsP_no hz (.inl h0)]
            obtain ⟨sp, hsp⟩ : ∃ sp, sp = ss.getD p 0 := ⟨_, rfl⟩
            obtain ⟨sr, hsr⟩ : ∃ sr, sr = ss.getD r 0 := ⟨_, rfl⟩
            obtain ⟨sq, hsq⟩ : ∃ sq, sq = ss.getD q 0 := ⟨_, rfl⟩
            rw [← hsp] at c1 hprod hs3 hfew hpq hpn
            rw [← hsr] at c2 hprod hs2
            rw [← hsq] at c3 hprod hs1 hpq
            have hsqp : sq ≤ sp := by
              have : 1 * sq ≤ sr * sq := Int.mul_le_mul_of_nonneg_right hs2 (by omega)
              omega
            have d1 : IntKind.i64.wrap (sr * sq) = sp := by rw [← hprod]; exact IntWalk.i64_in _ (by omega)
            have cP := fun m' (h9 : m' ≤ 9223372036854775807) W h => col_Parts (some ⟨b, off, none⟩) n c L (p : Int) m' W h h9
            have C1 := Lib.hid c1
            have C2 := Lib.hid c2
            have C3 := Lib.hid c3
            have CP := Lib.hid cP
            have HPQ := Lib.hid hpq
            have HPN := Lib.hid hpn
            clear c1 c2 c3 cP hpq hpn cR hz hkd hr hq hprod hat z1 z2 z3 hsp hsr hsq
            go_wp2_with (first
              | (go_at_call 6; refine CR.out.mono ?_; rintro e w3 ⟨rfl, hb3⟩; have HB3 := Lib.hid (below_then HB2.out hb3); have H3 := Lib.hid (H2.out.below hb3); have y5 := cell_kept hb3 x5; have y6 := cell_kept hb3 x6; clear hb3 x1 x5 x6)
              | (go_at_call 7; refine (C1.out _ H3).mono ?_; rintro e w4 ⟨rfl, hb4⟩; have HB4 := Lib.hid (below_then HB3.out hb4); have H4 := Lib.hid (H3.out.below hb4); have z5 := cell_kept hb4 y5; have z6 := cell_kept hb4 y6; clear hb4 y5 y6))
            have HC := Lib.hid (show ∀ W, Below w4.heap.size w4 W → W.cell? ⟨b, off + p * 7 + 5, none⟩ = some (.int .i64 (r : Int)) ∧ W.cell? ⟨b, off + p * 7 + 6, none⟩ = some (.int .i64 (q : Int)) from fun W h => ⟨cell_kept h z5, cell_kept h z6⟩)
            have BD := Lib.hid (below_drewN' (Below.refl w4.heap.size w4) 1)
            go_upto_region 6 with fail
            go_cut [64] (fun s wx => s = .bool false ∧ Below w4.heap.size w4 wx)
            case first =>
              go_region_held3 (fun W => W.cell? ⟨b, off + p * 7 + 5, none⟩ = some (.int .i64 (r : Int)) ∧ W.cell? ⟨b, off + p * 7 + 6, none⟩ = some (.int .i64 (q : Int)))
                (first | exact HC.out _ BD2.out | exact HC.out _ BD1.out | exact HC.out _ BD.out)
                (first
                  | (go_at_call_of 7 (Value.int .i64 (r : Int)); refine (C2.out _ (H4.out.below BD.out)).mono ?_; rintro e w5 ⟨rfl, hb5⟩; have BD1 := Lib.hid (below_then (show Below w4.heap.size w4 w4.drew from BD.out) hb5); clear hb5)
                  | (go_at_call_of 7 (Value.int .i64 (q : Int)); refine (C3.out _ (H4.out.below BD1.out)).mono ?_; rintro e w6 ⟨rfl, hb6⟩; have BD2 := Lib.hid (below_then BD1.out hb6); clear hb6))
              all_goals
                go_wp2
                go_meet
                exact ⟨rfl, BD2.out⟩
            case rest =>
              obtain ⟨rfl, hbc⟩ := hcut
              have HB6 := Lib.hid (below_then HB4.out hbc)
              have H6 := Lib.hid (H4.out.below hbc)
              have z5 := cell_kept hbc z5
              have z6 := cell_kept hbc z6
              clear hbc HC BD
              by_cases hin : 0 ≤ m ∧ m < sp
              · obtain ⟨m0, m1⟩ := hin
                have hm1 : IntKind.i64.wrap (m + 1) = m + 1 := IntWalk.i64_in _ (by omega)
                have hm2 : wrap64 (m + 1) = m + 1 := by unfold wrap64; omega
                have hnx := parts_next (m := m) hs1
                obtain ⟨m', hmd⟩ : ∃ m', m' = m + 1 := ⟨_, rfl⟩
                rw [← hmd] at hnx
                rw [show IntKind.i64.wrap (m + 1) = m + 1 ↔ IntKind.i64.wrap (m + 1) = m' by rw [hmd]] at hm1
                rw [show wrap64 (m + 1) = m + 1 ↔ wrap64 (m + 1) = m' by rw [hmd]] at hm2
                have CP1 := CP.out m hm.2 wc H6
                rw [HPQ.out m m0 m1] at CP1
                have CP2 := CP.out m' (by omega)
                have hb0 := Int.emod_nonneg m (show sq ≠ 0 by omega)
                have hb1 := Int.emod_lt_of_pos m (show 0 < sq by omega)
                have ha0 := Int.ediv_nonneg m0 (show 0 ≤ sq by omega)
                have ha1 := Int.ediv_le_self sq m0
                by_cases hin2 : m' < sp
                · rw [HPQ.out m' (by omega) hin2] at CP2
                  obtain ⟨a, ha⟩ : ∃ a, a = m / sq := ⟨_, rfl⟩
                  obtain ⟨bb, hbb⟩ : ∃ bb, bb = m % sq := ⟨_, rfl⟩
                  rw [← ha] at CP1 hnx ha0 ha1
                  rw [← hbb] at CP1 hnx hb0 hb1
                  have w1' : wrap64 (bb + 1) = bb + 1 := by unfold wrap64; omega
                  have w3' : IntKind.i64.wrap (bb + 1) = bb + 1 := IntWalk.i64_in _ (by omega)
                  have w4' : IntKind.i64.wrap (a + 1) = a + 1 := IntWalk.i64_in _ (by omega)
                  have w2' : wrap64 (a + 1) = a + 1 := by unfold wrap64; omega
                  have hp0 : (0 : Int) ≤ (p : Int) := by omega
                  rcases hnx with ⟨e1, e2, e3⟩ | ⟨e1, e2, e3⟩
                  · rw [e2, e3] at CP2
                    have HCP1 := Lib.hid CP1
                    have HCP2 := Lib.hid CP2
                    have HMD := Lib.hid hmd
                    clear CP1 CP2 ha hbb e2 e3 hmd
                    go_wp2_with (first
                      | (go_at_call_of 8 (Value.int .i64 m); refine HCP1.out.mono ?_; rintro e w7 ⟨rfl, hb7⟩; have HB7 := Lib.hid (below_then HB6.out hb7); have H7 := Lib.hid (H6.out.below hb7); clear hb7)
                      | (go_at_call_of 8 (Value.int .i64 m'); refine (HCP2.out _ H7).mono ?_; rintro e w8 ⟨rfl, hb8⟩; have HB8 := Lib.hid (below_then HB7.out hb8); clear hb8))
                    go_ret
                    exact ⟨rfl, HB8.out⟩
                  · rw [e2, e3] at CP2
                    have HCP1 := Lib.hid CP1
                    have HCP2 := Lib.hid CP2
                    have n1 : (a + 1 == a) = false := by rw [beq_eq_false_iff_ne]; omega
                    have n2 : (bb + 1 == sq) = true := by simp [e1]
                    have HMD := Lib.hid hmd
                    clear CP1 CP2 ha hbb e2 e3 hmd
                    go_wp2_with (first
                      | (go_at_call_of 8 (Value.int .i64 m); refine HCP1.out.mono ?_; rintro e w7 ⟨rfl, hb7⟩; have HB7 := Lib.hid (below_then HB6.out hb7); have H7 := Lib.hid (H6.out.below hb7); have q6 := cell_kept hb7 z6; clear hb7)
                      | (go_at_call_of 8 (Value.int .i64 m'); refine (HCP2.out _ H7).mono ?_; rintro e w8 ⟨rfl, hb8⟩; have HB8 := Lib.hid (below_then HB7.out hb8); have H8 := Lib.hid (H7.out.below hb8); have r6 := cell_kept hb8 q6; clear hb8)
                      | (go_at_call_of 7 (Value.int .i64 (q : Int)); refine (C3.out _ H8).mono ?_; rintro e w9 ⟨rfl, hb9⟩; have HB9 := Lib.hid (below_then HB8.out hb9); clear hb9))
                    go_ret
                    exact ⟨rfl, HB9.out⟩
                · rw [HPN.out m' (fun h => hin2 h.2)] at CP2
                  have HCP1 := Lib.hid CP1
                  have HCP2 := Lib.hid CP2
                  clear CP1 CP2 hnx hmd
                  go_wp2_with (first
                    | (go_at_call_of 8 (Value.int .i64 m); refine HCP1.out.mono ?_; rintro e w7 ⟨rfl, hb7⟩; have HB7 := Lib.hid (below_then HB6.out hb7); have H7 := Lib.hid (H6.out.below hb7); clear hb7)
                    | (go_at_call_of 8 (Value.int .i64 m'); refine (HCP2.out _ H7).mono ?_; rintro e w8 ⟨rfl, hb8⟩; have HB8 := Lib.hid (below_then HB7.out hb8); clear hb8))
                  go_ret
                  exact ⟨rfl, HB8.out⟩
              · have CP1 := CP.out m hm.2 wc H6
                rw [HPN.out m hin] at CP1
                obtain ⟨m', hm2⟩ : ∃ m', wrap64 (m + 1) = m' := ⟨_, rfl⟩
                have hm1 : IntKind.i64.wrap (m + 1) = m' := by rw [← hm2, wrap_i64_64]
                have hm9 : m' ≤ 9223372036854775807 := by rw [← hm2]; unfold wrap64; omega
                obtain ⟨a', b', t', hV⟩ := partsV_form L (p : Int) m'
                have CP2 := CP.out m' hm9
                rw [hV] at CP2
                have HCP1 := Lib.hid CP1
                have HCP2 := Lib.hid CP2
                clear CP1 CP2 hV
                go_wp2_with (first
                  | (go_at_call_of 8 (Value.int .i64 m); refine HCP1.out.mono ?_; rintro e w7 ⟨rfl, hb7⟩; have HB7 := Lib.hid (below_then HB6.out hb7); have H7 := Lib.hid (H6.out.below hb7); clear hb7)
                  | (go_at_call_of 8 (Value.int .i64 m'); refine (HCP2.out _ H7).mono ?_; rintro e w8 ⟨rfl, hb8⟩; have HB8 := Lib.hid (below_then HB7.out hb8); clear hb8))
                go_ret
                exact ⟨rfl, HB8.out⟩
        · have b3 : (kd == 3) = false := by simpa using k3
          have b4 : (kd != 3) = true := by simpa using k3
          go_wp2
          go_ret
          exact ⟨rfl, HB2.out⟩
end Go.Proofs.YtckcoknfgfjhmaaDoor
