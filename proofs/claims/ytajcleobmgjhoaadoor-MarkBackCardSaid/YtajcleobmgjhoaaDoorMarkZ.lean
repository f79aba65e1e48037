/- Law MarkBack: the walk. -/
import Derived.Test.YtajcleobmgjhoaaDoorMarkY
import Derived.Deep.RegionHeld3
namespace Go.Proofs.YtajcleobmgjhoaaDoor
open Go.RowKit
theorem beq_bytes {a b : ByteArray} (h : a = b) : (a.toList == b.toList) = true := by subst h; simp
theorem bne_bytes {a b : ByteArray} (h : a ≠ b) : (a.toList == b.toList) = false := by
  rw [beq_eq_false_iff_ne, ByteArray.toList_eq, ByteArray.toList_eq]
  intro e
  apply h
  cases a; cases b
  simp only at e
  congr 1
  exact Array.toList_inj.1 e
theorem few_sum {xs : List Bg} (h : fewB xs = true) : xs.length ≤ 70 ∧ sumN xs ≤ 300 := by
  unfold fewB at h
  simp only [Bool.and_eq_true, decide_eq_true_eq] at h
  have h2 := h.2
  rw [List.take_of_length_le (by omega)] at h2
  exact ⟨h.1, h2⟩
theorem encBags_len : ∀ {xs : List Bg} {w : World}, (∀ b ∈ xs, BgOk w b) → (encBags (rowsB xs)).length = 2 * xs.length + 8 * sumN xs
  | [], _, _ => rfl
  | b :: r, w, h => by
    have ih := encBags_len (xs := r) (w := w) fun q hq => h q (List.mem_cons_of_mem _ hq)
    have hl := (h b (by simp)).len
    have e : encBags (rowsB (b :: r)) = encBag b.l ++ encBags (rowsB r) := by simp [encBags, rowsB]
    rw [e, List.length_append, ih, encBag, List.length_append, be_len, encRows_len, List.length_cons, sumN]
    omega
theorem encM_len {xs : List Bg} {w : World} {A : Option Addr} {n c : Nat} (h : Mk w A n c xs) (hf : fewB xs = true) : (encM (rowsB xs)).length ≤ 3000 := by
  obtain ⟨h1, h2⟩ := few_sum hf
  unfold encM
  rw [List.length_append, be_len, encBags_len h.bag]
  omega
set_option maxRecDepth 100000 in
set_option maxHeartbeats 40000000 in
theorem law_MarkBack (hT : Hid Text1) (A0 : Option Addr) (n0 c0 : Nat) (X0 : List Bg) (A1 : Option Addr) (n1 c1 : Nat) (X1 : List Bg) (A2 : Option Addr) (n2 c2 : Nat) (L : List Int) (w : World) (H0 : Hid (Mk w A0 n0 c0 X0)) (z0 : Hid (∀ b ∈ X0, b.n ≤ 8796093022208)) (H1 : Hid (Mk w A1 n1 c1 X1)) (z1 : Hid (∀ b ∈ X1, b.n ≤ 8796093022208)) (H2 : Hid (Sl w (.slice A2 n2 c2) n2 1 (u8Cells L))) (u2 : Hid (U8s L)) :
    Calls Tryd.prog 4 #[.slice A0 n0 c0, .slice A1 n1 c1, .slice A2 n2 c2] w fun e w' => e = .returned (.bool true) ∧ Below w.heap.size w w' := by
  have b0 := H0.out.sl.bound
  have b1 := H1.out.sl.bound
  have b2 := H2.out.bound
  have hlL := Lib.hid (show L.length = n2 by have := H2.out.len; rw [u8_len] at this; omega)
  go_enter Tryd.func4, Tryd.ntmps4
  go_wp2_with fail
  refine (law09_small' hT w).mono ?_
  rintro e w1 ⟨rfl, hb⟩
  have S := Lib.hid (show BkS w A0 n0 c0 X0 A1 n1 c1 X1 A2 n2 c2 L w1 from ⟨hb, H0.out.below hb, H1.out.below hb, H2.out.below hb⟩)
  clear hb H0 H1 H2
  obtain ⟨F0, hF0⟩ : ∃ F, F = fewB X0 := ⟨_, rfl⟩
  obtain ⟨F1, hF1⟩ : ∃ F, F = fewB X1 := ⟨_, rfl⟩
  have cF0 := law_Few A0 n0 c0 X0 w1 (Lib.hid S.out.m0) z0
  have cF1 := law_Few A1 n1 c1 X1 w1 (Lib.hid S.out.m1) z1
  rw [← hF0] at cF0
  rw [← hF1] at cF1
  have CF0 := Lib.hid cF0
  have CF1 := Lib.hid cF1
  have HF0 := Lib.hid hF0
  have HF1 := Lib.hid hF1
  clear hF0 hF1 cF0 cF1
  go_wp2_with fail
  refine CF0.out.mono ?_
  rintro e w' ⟨rfl, rfl⟩
  go_wp2_with fail
  refine CF1.out.mono ?_
  rintro e w' ⟨rfl, rfl⟩
  clear CF0 CF1
  cases F0 with
  | false =>
    go_wp2
    go_ret
    exact ⟨rfl, S.out.bel⟩
  | true =>
  cases F1 with
  | false =>
    go_wp2
    go_ret
    exact ⟨rfl, S.out.bel⟩
  | true =>
  by_cases h2000 : 2000 < n2
  · have h2b : (2000 : Int) < (n2 : Int) := by omega
    go_wp2
    go_ret
    exact ⟨rfl, S.out.bel⟩
  have h2b : (n2 : Int) ≤ 2000 := by omega
  have h2c : n2 ≤ 2000 := by omega
  have K0 := Lib.hid (few_ok HF0.out.symm)
  have K1 := Lib.hid (few_ok HF1.out.symm)
  have y0 := Lib.hid (show ∀ b ∈ X0, b.n ≤ 1000 from fun b hb => by have := K0.out.2 b hb; omega)
  have y1 := Lib.hid (show ∀ b ∈ X1, b.n ≤ 1000 from fun b hb => by have := K1.out.2 b hb; omega)
  have Y0 := Lib.hid (show ∀ b ∈ X0, b.n < 100000 from fun b hb => by have := K0.out.2 b hb; omega)
  have n70 : n0 ≤ 70 := by have := K0.out.1; rw [S.out.m0.len] at this; exact this
  have n71 : n1 ≤ 70 := by have := K1.out.1; rw [S.out.m1.len] at this; exact this
  have l0 := Lib.hid (lens_of S.out.m0 K0.out.2)
  have l1 := Lib.hid (lens_of S.out.m1 K1.out.2)
  have e0 := Lib.hid (encM_len S.out.m0 HF0.out.symm)
  have e1 := Lib.hid (encM_len S.out.m1 HF1.out.symm)
  go_wp2_with fail
  refine (mark_Decode A2 n2 c2 L w' (Lib.hid S.out.sc) u2 (by omega)).mono ?_
  rintro e w2 ⟨hb, ⟨hd, rfl⟩ | ⟨A5, n5, c5, zs, hd, rfl, hn5, hm5, hz5⟩⟩
  · replace S := Lib.hid (S.out.go hb)
    clear hd hb
    go_wp2_with fail
    refine (mark_Encode A0 n0 c0 X0 _ (Lib.hid S.out.m0) y0 (by omega)).mono ?_
    rintro e w10 ⟨hb, hE0⟩
    replace S := Lib.hid (S.out.go hb)
    clear hb
    rcases hE0 with ⟨_, rfl⟩ | ⟨hok0, A7, c7, j7, rfl, hj7, ho7⟩
    · go_wp2_with fail
      refine (mark_Encode A1 n1 c1 X1 _ (Lib.hid S.out.m1) y1 (by omega)).mono ?_
      rintro e w11 ⟨hb, hE1⟩
      replace S := Lib.hid (S.out.go hb)
      clear hb
      rcases hE1 with ⟨_, rfl⟩ | ⟨_, A8, c8, j8, rfl, _, _⟩
      · go_wp2
        go_ret
        exact ⟨rfl, S.out.bel⟩
      · go_wp2
        go_ret
        exact ⟨rfl, S.out.bel⟩
    · have OK0 := Lib.hid hok0
      have J7 := Lib.hid hj7
      have S7 := Lib.hid (Sl.of_own ho7)
      clear hok0 hj7 ho7
      go_wp2_with fail
      refine (mark_Encode A1 n1 c1 X1 _ (Lib.hid S.out.m1) y1 (by omega)).mono ?_
      rintro e w11 ⟨hb, hE1⟩
      replace S := Lib.hid (S.out.go hb)
      replace S7 := Lib.hid (S7.out.below hb)
      clear hb
      rcases hE1 with ⟨_, rfl⟩ | ⟨hok1, A8, c8, j8, rfl, hj8, ho8⟩
      · go_wp2
        go_ret
        exact ⟨rfl, S.out.bel⟩
      · have OK1 := Lib.hid hok1
        have J8 := Lib.hid hj8
        have S8 := Lib.hid (Sl.of_own ho8)
        clear hok1 hj8 ho8
        have j7b : j7 ≤ 3000 := by have := J7.out; have := e0.out; omega
        go_wp2_with fail
        refine (mark_Decode A7 j7 c7 (encM (rowsB X0)) _ S7 (Lib.hid (u8s_enc _)) (by omega)).mono ?_
        rintro e w12 ⟨hb, ⟨hbad, _⟩ | ⟨A9, n9, c9, vs, hd, rfl, _, hm9, hz9⟩⟩
        · rw [dec_enc OK0.out l0.out] at hbad; cases hbad
        · rw [dec_enc OK0.out l0.out] at hd
          have RV := Lib.hid (Option.some.inj hd)
          replace S := Lib.hid (S.out.go hb)
          replace S7 := Lib.hid (S7.out.below hb)
          replace S8 := Lib.hid (S8.out.below hb)
          have M9 := Lib.hid hm9
          clear hb hd hm9 hz9
          go_wp2_with fail
          refine (mark_Copy A0 n0 c0 X0 _ (Lib.hid S.out.m0) Y0 (by omega)).mono ?_
          rintro e w13 ⟨B, d, ys, rfl, ho, hys, hry, hyz, hb⟩
          replace S := Lib.hid (S.out.go hb)
          replace S7 := Lib.hid (S7.out.below hb)
          replace S8 := Lib.hid (S8.out.below hb)
          replace M9 := Lib.hid (M9.out.below hb)
          have MB := Lib.hid (show Mk w13 B n0 d ys from ⟨Sl.of_own ho, hys⟩)
          have RY := Lib.hid hry
          clear ho hys hry hyz hb
          have s1 := Lib.hid (show allF sameR (rowsB vs) (rowsB X0) = true by rw [← RV.out]; exact (allF_same (okl_enc OK0.out) (okl_enc OK0.out)).2 rfl)
          have s2 := Lib.hid (show allF sameR (rowsB ys) (rowsB X0) = true by rw [RY.out]; exact (allF_same (okl_enc OK0.out) (okl_enc OK0.out)).2 rfl)
          obtain ⟨sm, hsm⟩ : ∃ q, q = allF sameR (rowsB X0) (rowsB X1) := ⟨_, rfl⟩
          have q1 : ∀ V, Below w13.heap.size w13 V → Hid (Calls Tryd.prog 10 #[.slice A9 n9 c9, .slice A0 n0 c0] V fun e w' => e = .returned (.bool true) ∧ Below w13.heap.size w13 w') := fun V hV => by
            have h := mark_Same A9 n9 c9 vs A0 n0 c0 X0 V (Lib.hid (M9.out.below hV)) (Lib.hid (S.out.m0.below hV))
            rw [s1.out] at h
            exact h.mono fun e w' ⟨h1, h2⟩ => ⟨h1, below_then hV h2⟩
          have q2 : ∀ V, Below w13.heap.size w13 V → Hid (Calls Tryd.prog 10 #[.slice B n0 d, .slice A0 n0 c0] V fun e w' => e = .returned (.bool true) ∧ Below w13.heap.size w13 w') := fun V hV => by
            have h := mark_Same B n0 d ys A0 n0 c0 X0 V (Lib.hid (MB.out.below hV)) (Lib.hid (S.out.m0.below hV))
            rw [s2.out] at h
            exact h.mono fun e w' ⟨h1, h2⟩ => ⟨h1, below_then hV h2⟩
          have q3 : ∀ V, Below w13.heap.size w13 V → Hid (Calls Tryd.prog 10 #[.slice A0 n0 c0, .slice A1 n1 c1] V fun e w' => e = .returned (.bool sm) ∧ Below w13.heap.size w13 w') := fun V hV => by
            have h := mark_Same A0 n0 c0 X0 A1 n1 c1 X1 V (Lib.hid (S.out.m0.below hV)) (Lib.hid (S.out.m1.below hV))
            rw [← hsm] at h
            exact h.mono fun e w' ⟨h1, h2⟩ => ⟨h1, below_then hV h2⟩
          have p7 : 0 < j7 := by rw [J7.out]; exact enc_pos _
          have p8 : 0 < j8 := by rw [J8.out]; exact enc_pos _
          obtain ⟨t7, ht7⟩ : ∃ t, t = strOfNums (encM (rowsB X0)) := ⟨_, rfl⟩
          obtain ⟨t8, ht8⟩ : ∃ t, t = strOfNums (encM (rowsB X1)) := ⟨_, rfl⟩
          have v7 : ∀ V, Below w13.heap.size w13 V → Hid ((convert 33 9 (.slice A7 j7 c7)).run Tryd.prog V = .ok (.string t7) V) := fun V hV => by
            rw [ht7]; exact conv_u8 (S7.out.below hV) p7
          have v8 : ∀ V, Below w13.heap.size w13 V → Hid ((convert 33 9 (.slice A8 j8 c8)).run Tryd.prog V = .ok (.string t8) V) := fun V hV => by
            rw [ht8]; exact conv_u8 (S8.out.below hV) p8
          have hq : (t7.toList == t8.toList) = sm := by
            rw [ht7, ht8, hsm]
            by_cases e : rowsB X0 = rowsB X1
            · rw [e, beq_bytes rfl, ← e]
              exact ((allF_same (okl_enc OK0.out) (okl_enc OK0.out)).2 rfl).symm
            · rw [bne_bytes fun h => e (enc_inj OK0.out OK1.out l0.out l1.out (str_inj (u8s_enc _) (u8s_enc _) h))]
              symm
              rw [Bool.eq_false_iff]
              exact fun h => e ((allF_same (okl_enc OK0.out) (okl_enc OK1.out)).1 h)
          have V7 := Lib.hid v7
          have V8 := Lib.hid v8
          have SB := Lib.hid (fun (W : World) (h : Below w13.heap.size w13 W) => below_then S.out.bel h)
          clear hsm ht7 ht8 s1 s2 v7 v8 S7 S8 M9 MB RV RY J7 J8 OK0 OK1 e0 e1 l0 l1 y0 y1 Y0 K0 K1 HF0 HF1 u2 hlL
          have hss : (sm == sm) = true := by simp
          have BD := Lib.hid (show Below w13.heap.size w13 w13.drew from below_drewN' (Below.refl _ w13) 1)
          have KS := Lib.hid (show ∀ W, Below w13.heap.size w13 W → Below w13.heap.size w13 W ∧ (convert 33 9 (.slice A7 j7 c7)).run Tryd.prog W = .ok (.string t7) W ∧ (convert 33 9 (.slice A8 j8 c8)).run Tryd.prog W = .ok (.string t8) W from fun W h => ⟨h, (V7.out W h).out, (V8.out W h).out⟩)
          clear V7 V8
          go_wp2
          go_region_held3 (fun W => Below w13.heap.size w13 W ∧ (convert 33 9 (.slice A7 j7 c7)).run Tryd.prog W = .ok (.string t7) W ∧ (convert 33 9 (.slice A8 j8 c8)).run Tryd.prog W = .ok (.string t8) W)
            (first | exact KS.out _ HBc.out | exact KS.out _ HBb.out | exact KS.out _ HBa.out | exact KS.out _ BD.out)
            (first
              | (go_at_call_of 10 (Value.slice A9 n9 c9); go_split_ands; refine (q1 _ (by assumption)).out.mono ?_; rintro e wa ⟨rfl, hba⟩; have HBa := Lib.hid hba; clear hba)
              | (go_at_call_of 10 (Value.slice B n0 d); go_split_ands; refine (q2 _ (by assumption)).out.mono ?_; rintro e wb ⟨rfl, hbb⟩; have HBb := Lib.hid hbb; clear hbb)
              | (go_at_call_of 10 (Value.slice A0 n0 c0); go_split_ands; refine (q3 _ (by assumption)).out.mono ?_; rintro e wc ⟨rfl, hbc⟩; have HBc := Lib.hid hbc; clear hbc))
          all_goals
            go_wp2
            go_ret
            exact ⟨rfl, SB.out _ HBc.out⟩
  · replace S := Lib.hid (S.out.go hb)
    obtain ⟨g1, g2, g3⟩ := enc_dec u2.out hd
    have hpos : 0 < L.length := by rw [← g2]; exact enc_pos _
    have zs1 := Lib.hid (dec_small_bags hm5 g3 (by rw [hlL.out]; exact h2c))
    have M5 := Lib.hid hm5
    have G1 := Lib.hid g1
    have G2 := Lib.hid g2
    have hn2p : 0 < n2 := by have := hlL.out; omega
    clear hd hb hm5 hz5 g1 g2 g3 hpos
    go_wp2_with fail
    refine (mark_Encode A5 n5 c5 zs w2 M5 zs1 (by omega)).mono ?_
    rintro e w3 ⟨hb, ⟨hbad, _⟩ | ⟨_, A6, c6, j6, rfl, hj6, ho6⟩⟩
    · rw [G1.out] at hbad; cases hbad
    · replace S := Lib.hid (S.out.go hb)
      rw [G2.out] at hj6 ho6
      have hj : j6 = n2 := by rw [hj6, hlL.out]
      subst hj
      have cv1 := conv_u8 (Sl.of_own ho6) hn2p
      have cv2 := conv_u8 S.out.sc hn2p
      obtain ⟨st, hst⟩ : ∃ st, st = strOfNums L := ⟨_, rfl⟩
      rw [← hst] at cv1 cv2
      clear hb hj6 ho6 hst M5
      obtain ⟨wq, hwq⟩ : ∃ W, W = w3 := ⟨_, rfl⟩
      rw [← hwq] at S cv1 cv2 ⊢
      clear hwq
      go_wp2_with fail
      clear cv1 cv2
      refine (mark_Encode A0 n0 c0 X0 _ (Lib.hid S.out.m0) y0 (by omega)).mono ?_
      rintro e w10 ⟨hb, hE0⟩
      replace S := Lib.hid (S.out.go hb)
      clear hb
      rcases hE0 with ⟨_, rfl⟩ | ⟨hok0, A7, c7, j7, rfl, hj7, ho7⟩
      · go_wp2_with fail
        refine (mark_Encode A1 n1 c1 X1 _ (Lib.hid S.out.m1) y1 (by omega)).mono ?_
        rintro e w11 ⟨hb, hE1⟩
        replace S := Lib.hid (S.out.go hb)
        clear hb
        rcases hE1 with ⟨_, rfl⟩ | ⟨_, A8, c8, j8, rfl, _, _⟩
        · go_wp2
          go_ret
          exact ⟨rfl, S.out.bel⟩
        · go_wp2
          go_ret
          exact ⟨rfl, S.out.bel⟩
      · have OK0 := Lib.hid hok0
        have J7 := Lib.hid hj7
        have S7 := Lib.hid (Sl.of_own ho7)
        clear hok0 hj7 ho7
        go_wp2_with fail
        refine (mark_Encode A1 n1 c1 X1 _ (Lib.hid S.out.m1) y1 (by omega)).mono ?_
        rintro e w11 ⟨hb, hE1⟩
        replace S := Lib.hid (S.out.go hb)
        replace S7 := Lib.hid (S7.out.below hb)
        clear hb
        rcases hE1 with ⟨_, rfl⟩ | ⟨hok1, A8, c8, j8, rfl, hj8, ho8⟩
        · go_wp2
          go_ret
          exact ⟨rfl, S.out.bel⟩
        · have OK1 := Lib.hid hok1
          have J8 := Lib.hid hj8
          have S8 := Lib.hid (Sl.of_own ho8)
          clear hok1 hj8 ho8
          have j7b : j7 ≤ 3000 := by have := J7.out; have := e0.out; omega
          go_wp2_with fail
          refine (mark_Decode A7 j7 c7 (encM (rowsB X0)) _ S7 (Lib.hid (u8s_enc _)) (by omega)).mono ?_
          rintro e w12 ⟨hb, ⟨hbad, _⟩ | ⟨A9, n9, c9, vs, hd, rfl, _, hm9, hz9⟩⟩
          · rw [dec_enc OK0.out l0.out] at hbad; cases hbad
          · rw [dec_enc OK0.out l0.out] at hd
            have RV := Lib.hid (Option.some.inj hd)
            replace S := Lib.hid (S.out.go hb)
            replace S7 := Lib.hid (S7.out.below hb)
            replace S8 := Lib.hid (S8.out.below hb)
            have M9 := Lib.hid hm9
            clear hb hd hm9 hz9
            go_wp2_with fail
            refine (mark_Copy A0 n0 c0 X0 _ (Lib.hid S.out.m0) Y0 (by omega)).mono ?_
            rintro e w13 ⟨B, d, ys, rfl, ho, hys, hry, hyz, hb⟩
            replace S := Lib.hid (S.out.go hb)
            replace S7 := Lib.hid (S7.out.below hb)
            replace S8 := Lib.hid (S8.out.below hb)
            replace M9 := Lib.hid (M9.out.below hb)
            have MB := Lib.hid (show Mk w13 B n0 d ys from ⟨Sl.of_own ho, hys⟩)
            have RY := Lib.hid hry
            clear ho hys hry hyz hb
            have s1 := Lib.hid (show allF sameR (rowsB vs) (rowsB X0) = true by rw [← RV.out]; exact (allF_same (okl_enc OK0.out) (okl_enc OK0.out)).2 rfl)
            have s2 := Lib.hid (show allF sameR (rowsB ys) (rowsB X0) = true by rw [RY.out]; exact (allF_same (okl_enc OK0.out) (okl_enc OK0.out)).2 rfl)
            obtain ⟨sm, hsm⟩ : ∃ q, q = allF sameR (rowsB X0) (rowsB X1) := ⟨_, rfl⟩
            have q1 : ∀ V, Below w13.heap.size w13 V → Hid (Calls Tryd.prog 10 #[.slice A9 n9 c9, .slice A0 n0 c0] V fun e w' => e = .returned (.bool true) ∧ Below w13.heap.size w13 w') := fun V hV => by
              have h := mark_Same A9 n9 c9 vs A0 n0 c0 X0 V (Lib.hid (M9.out.below hV)) (Lib.hid (S.out.m0.below hV))
              rw [s1.out] at h
              exact h.mono fun e w' ⟨h1, h2⟩ => ⟨h1, below_then hV h2⟩
            have q2 : ∀ V, Below w13.heap.size w13 V → Hid (Calls Tryd.prog 10 #[.slice B n0 d, .slice A0 n0 c0] V fun e w' => e = .returned (.bool true) ∧ Below w13.heap.size w13 w') := fun V hV => by
              have h := mark_Same B n0 d ys A0 n0 c0 X0 V (Lib.hid (MB.out.below hV)) (Lib.hid (S.out.m0.below hV))
              rw [s2.out] at h
              exact h.mono fun e w' ⟨h1, h2⟩ => ⟨h1, below_then hV h2⟩
            have q3 : ∀ V, Below w13.heap.size w13 V → Hid (Calls Tryd.prog 10 #[.slice A0 n0 c0, .slice A1 n1 c1] V fun e w' => e = .returned (.bool sm) ∧ Below w13.heap.size w13 w') := fun V hV => by
              have h := mark_Same A0 n0 c0 X0 A1 n1 c1 X1 V (Lib.hid (S.out.m0.below hV)) (Lib.hid (S.out.m1.below hV))
              rw [← hsm] at h
              exact h.mono fun e w' ⟨h1, h2⟩ => ⟨h1, below_then hV h2⟩
            have p7 : 0 < j7 := by rw [J7.out]; exact enc_pos _
            have p8 : 0 < j8 := by rw [J8.out]; exact enc_pos _
            obtain ⟨t7, ht7⟩ : ∃ t, t = strOfNums (encM (rowsB X0)) := ⟨_, rfl⟩
            obtain ⟨t8, ht8⟩ : ∃ t, t = strOfNums (encM (rowsB X1)) := ⟨_, rfl⟩
            have v7 : ∀ V, Below w13.heap.size w13 V → Hid ((convert 33 9 (.slice A7 j7 c7)).run Tryd.prog V = .ok (.string t7) V) := fun V hV => by
              rw [ht7]; exact conv_u8 (S7.out.below hV) p7
            have v8 : ∀ V, Below w13.heap.size w13 V → Hid ((convert 33 9 (.slice A8 j8 c8)).run Tryd.prog V = .ok (.string t8) V) := fun V hV => by
              rw [ht8]; exact conv_u8 (S8.out.below hV) p8
            have hq : (t7.toList == t8.toList) = sm := by
              rw [ht7, ht8, hsm]
              by_cases e : rowsB X0 = rowsB X1
              · rw [e, beq_bytes rfl, ← e]
                exact ((allF_same (okl_enc OK0.out) (okl_enc OK0.out)).2 rfl).symm
              · rw [bne_bytes fun h => e (enc_inj OK0.out OK1.out l0.out l1.out (str_inj (u8s_enc _) (u8s_enc _) h))]
                symm
                rw [Bool.eq_false_iff]
                exact fun h => e ((allF_same (okl_enc OK0.out) (okl_enc OK1.out)).1 h)
            have V7 := Lib.hid v7
            have V8 := Lib.hid v8
            have SB := Lib.hid (fun (W : World) (h : Below w13.heap.size w13 W) => below_then S.out.bel h)
            clear hsm ht7 ht8 s1 s2 v7 v8 S7 S8 M9 MB RV RY J7 J8 OK0 OK1 e0 e1 l0 l1 y0 y1 Y0 K0 K1 HF0 HF1 u2 hlL
            have hss : (sm == sm) = true := by simp
            have BD := Lib.hid (show Below w13.heap.size w13 w13.drew from below_drewN' (Below.refl _ w13) 1)
            have KS := Lib.hid (show ∀ W, Below w13.heap.size w13 W → Below w13.heap.size w13 W ∧ (convert 33 9 (.slice A7 j7 c7)).run Tryd.prog W = .ok (.string t7) W ∧ (convert 33 9 (.slice A8 j8 c8)).run Tryd.prog W = .ok (.string t8) W from fun W h => ⟨h, (V7.out W h).out, (V8.out W h).out⟩)
            clear V7 V8
            go_wp2
            go_region_held3 (fun W => Below w13.heap.size w13 W ∧ (convert 33 9 (.slice A7 j7 c7)).run Tryd.prog W = .ok (.string t7) W ∧ (convert 33 9 (.slice A8 j8 c8)).run Tryd.prog W = .ok (.string t8) W)
              (first | exact KS.out _ HBc.out | exact KS.out _ HBb.out | exact KS.out _ HBa.out | exact KS.out _ BD.out)
              (first
                | (go_at_call_of 10 (Value.slice A9 n9 c9); go_split_ands; refine (q1 _ (by assumption)).out.mono ?_; rintro e wa ⟨rfl, hba⟩; have HBa := Lib.hid hba; clear hba)
                | (go_at_call_of 10 (Value.slice B n0 d); go_split_ands; refine (q2 _ (by assumption)).out.mono ?_; rintro e wb ⟨rfl, hbb⟩; have HBb := Lib.hid hbb; clear hbb)
                | (go_at_call_of 10 (Value.slice A0 n0 c0); go_split_ands; refine (q3 _ (by assumption)).out.mono ?_; rintro e wc ⟨rfl, hbc⟩; have HBc := Lib.hid hbc; clear hbc))
            all_goals
              go_wp2
              go_ret
              exact ⟨rfl, SB.out _ HBc.out⟩
end Go.Proofs.YtajcleobmgjhoaaDoor
