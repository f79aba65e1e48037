/- The document's answer of layer 03: Same, Compare. -/
import Derived.Test.YtajcleobmgjhoaaGreatDoorBagRe
namespace Go.Proofs.YtajcleobmgjhoaaGreatDoor
open Go.RowKit
theorem withR_both (a b : Row) : (withR a b && withR b a) = sameR a b := by
  unfold sameR
  cases h1 : rightB a with
  | false => simp [withR, h1]
  | true =>
    cases h2 : rightB b with
    | false => simp [withR, h2]
    | true =>
      have ha := (rightB_iff a).1 h1
      have hb := (rightB_iff b).1 h2
      rw [Bool.eq_iff_iff, Bool.and_eq_true, withR_iff ha hb, withR_iff hb ha]
      simp only [Bool.and_self, Bool.true_and, decide_eq_true_eq]
      constructor
      · rintro ⟨h3, h4⟩
        exact ha.eq_of hb fun k => by have := h3 k; have := h4 k; omega
      · rintro rfl
        exact ⟨fun k => Int.le_refl _, fun k => Int.le_refl _⟩
set_option maxRecDepth 100000 in
set_option maxHeartbeats 1000000 in
theorem ref_Same (A : Option Addr) (n c : Nat) (l : Row) (A2 : Option Addr) (n2 c2 : Nat) (l2 : Row) (w : World) (hA : Hid (Sl w (.slice A n c) n 2 (pairCells l))) (hA2 : Hid (Sl w (.slice A2 n2 c2) n2 2 (pairCells l2))) :
    Calls Tryz.prog 27 #[.slice A n c, .slice A2 n2 c2] w fun e w' => e = .returned (.bool (sameR l l2)) ∧ ∃ q, w' = w.drewN q := by
  rw [← withR_both]
  obtain ⟨r1, h1⟩ : ∃ r, r = withR l l2 := ⟨_, rfl⟩
  obtain ⟨r2, h2⟩ : ∃ r, r = withR l2 l := ⟨_, rfl⟩
  have c1 := fun q => Lib.hid (ref_Within A n c l A2 n2 c2 l2 (w.drewN q) hA hA2)
  have c3 := fun q => Lib.hid (ref_Within A2 n2 c2 l2 A n c l (w.drewN q) hA2 hA)
  rw [← h1] at c1 ⊢
  rw [← h2] at c3 ⊢
  clear h1 h2
  cases r1 with
  | false =>
    go_enter Tryz.func27, Tryz.ntmps27
    go_wp2_with fail
    refine (c1 0).out.mono ?_
    rintro e w1 ⟨rfl, q, rfl⟩
    go_wp2
    go_ret
    exact ⟨rfl, _, by first | rfl | exact drew2 _ _ _⟩
  | true =>
    go_enter Tryz.func27, Tryz.ntmps27
    go_wp2_with fail
    refine (c1 0).out.mono ?_
    rintro e w1 ⟨rfl, q, rfl⟩
    rw [drew2]
    go_wp2_with fail
    refine (c3 _).out.mono ?_
    rintro e w2 ⟨rfl, q2, rfl⟩
    go_wp2
    go_ret
    exact ⟨ret_b (by simp), _, by first | rfl | exact drew2 _ _ _⟩
set_option maxRecDepth 100000 in
set_option maxHeartbeats 4000000 in
theorem ref_Compare (A : Option Addr) (n c : Nat) (l : Row) (A2 : Option Addr) (n2 c2 : Nat) (l2 : Row) (w : World) (hA : Hid (Sl w (.slice A n c) n 2 (pairCells l))) (hA2 : Hid (Sl w (.slice A2 n2 c2) n2 2 (pairCells l2))) (hmax : n < 100000000) (hmax2 : n2 < 100000000) :
    Calls Tryz.prog 33 #[.slice A n c, .slice A2 n2 c2] w fun e w' => (∃ z, e = .returned (.int .i64 z) ∧ CmpR l l2 z) ∧ Below w.heap.size w w' := by
  obtain ⟨r1, h1⟩ : ∃ r, rightB l = r := ⟨_, rfl⟩
  obtain ⟨r2, h2⟩ : ∃ r, rightB l2 = r := ⟨_, rfl⟩
  have HR1 := Lib.hid h1
  have HR2 := Lib.hid h2
  have c1 := fun q => Lib.hid (ref_Right A n c l (w.drewN q) hA)
  have c3 := fun q => Lib.hid (ref_Right A2 n2 c2 l2 (w.drewN q) hA2)
  rw [h1] at c1
  rw [h2] at c3
  clear h1 h2
  cases r1 with
  | false =>
    go_enter Tryz.func33, Tryz.ntmps33
    go_wp2_with fail
    refine (c1 0).out.mono ?_
    rintro e w1 ⟨rfl, q, rfl⟩
    go_wp2
    go_ret
    exact ⟨⟨0, rfl, .inl ⟨by rw [HR1.out]; rfl, rfl⟩⟩, (by first | exact below_drewN' (Below.refl _ w) _ | exact below_drewN' (below_drewN' (Below.refl _ w) _) _)⟩
  | true =>
    cases r2 with
    | false =>
      go_enter Tryz.func33, Tryz.ntmps33
      go_wp2_with fail
      refine (c1 0).out.mono ?_
      rintro e w1 ⟨rfl, q, rfl⟩
      rw [drew2]
      go_wp2_with fail
      refine (c3 _).out.mono ?_
      rintro e w2 ⟨rfl, q2, rfl⟩
      go_wp2
      go_ret
      exact ⟨⟨0, rfl, .inl ⟨by rw [HR1.out, HR2.out]; rfl, rfl⟩⟩, (by first | exact below_drewN' (Below.refl _ w) _ | exact below_drewN' (below_drewN' (Below.refl _ w) _) _)⟩
    | true =>
      have ok1 := Lib.hid ((rightB_iff l).1 HR1.out)
      have ok2 := Lib.hid ((rightB_iff l2).1 HR2.out)
      go_enter Tryz.func33, Tryz.ntmps33
      go_wp2_with fail
      refine (c1 0).out.mono ?_
      rintro e w1 ⟨rfl, q, rfl⟩
      rw [drew2]
      go_wp2_with fail
      refine (c3 _).out.mono ?_
      rintro e w2 ⟨rfl, q2, rfl⟩
      rw [drew2]
      clear c1 c3
      obtain ⟨w1, hw1⟩ : ∃ w1, w1 = w.drewN (q + q2) := ⟨_, rfl⟩
      have HB := Lib.hid (show Below w.heap.size w w1 by rw [hw1]; exact below_drewN' (Below.refl _ w) _)
      rw [← hw1]
      have S1 := Lib.hid (hA.out.below HB.out)
      have S2 := Lib.hid (hA2.out.below HB.out)
      clear hw1
      go_wp2_with fail
      refine (ref_Most A n c l A2 n2 c2 l2 w1 S1 S2 hmax hmax2).mono ?_
      rintro e w2 ⟨hb2, ⟨hr, rfl⟩ | ⟨hr, v, rfl, A3, c3, m, M, rfl, hm, q3, q1, q4⟩⟩
      · rw [HR1.out, HR2.out] at hr; cases hr
      · have HB2 := Lib.hid (below_then HB.out hb2)
        have T1 := Lib.hid (S1.out.below hb2)
        have T2 := Lib.hid (S2.out.below hb2)
        have HM := Lib.hid hm
        have HQ1 := Lib.hid q1
        have HS := Lib.hid (Sl.of_own q4)
        have hm3 : m ≤ 9223372036854775807 := HS.out.bound
        clear hr hm q1 q3 q4 hb2
        go_wp2_with fail
        go_loopw [6, 7, 8] (fun v _ _ wr => ∃ (k q : Nat), k ≤ m ∧ v = .int .i64 (k : Int) ∧ wr = w2.drewN q ∧ Hid (∀ p ∈ M.take k, getM l p.1 = getM l2 p.1)) (fun v _ _ _ => m - (RowKit.intOf v).toNat)
        case atStart => exact ⟨0, 0, by omega, rfl, rfl, fun p hp => (by cases hp)⟩
        case round =>
          obtain ⟨k, q5, hk, rfl, rfl, hz⟩ := hrel
          by_cases hlt : k < m
          · obtain ⟨b1, o1, rfl, d1, d2⟩ := HS.out.pair_at hlt
            obtain ⟨p, hp⟩ : ∃ p, p = M.getD k (0, 0) := ⟨_, rfl⟩
            rw [← hp] at d1 d2
            have hts := Lib.hid (take_snoc (M := M) (k := k) (by rw [← HM.out]; exact hlt))
            have hfs := Lib.hid (cmp_first HQ1.out (fun k => (ok1.out.nonneg k).1) (fun k => (ok2.out.nonneg k).1) (k := k) (by rw [← HM.out]; exact hlt) hz.out)
            rw [← hp] at hts hfs
            clear hp
            obtain ⟨p1, p2⟩ := p
            simp only at d1 d2 hfs
            obtain ⟨u, hu⟩ : ∃ u, u = getM l p1 := ⟨_, rfl⟩
            obtain ⟨v, hv⟩ : ∃ v, v = getM l2 p1 := ⟨_, rfl⟩
            have hcu : cntR l p1 = u := by rw [cnt_ok ok1.out, hu]
            have hcv : cntR l2 p1 = v := by rw [cnt_ok ok2.out, hv]
            have cC : ∀ t, Hid (Calls Tryz.prog 51 #[.slice A n c, .int .i64 p1] (w2.drewN t) fun e w' => e = .returned (.int .i64 u) ∧ ∃ q', w' = w2.drewN q') := fun t => by
              have h := ref_Count A n c l p1 (w2.drewN t) (Lib.hid (T1.out.below (below_drewN' (Below.refl _ w2) t)))
              rw [hcu] at h
              exact h.mono fun e w' ⟨h1, q2, h2⟩ => ⟨h1, t + q2, by rw [h2, drew2]⟩
            have cD : ∀ t, Hid (Calls Tryz.prog 51 #[.slice A2 n2 c2, .int .i64 p1] (w2.drewN t) fun e w' => e = .returned (.int .i64 v) ∧ ∃ q', w' = w2.drewN q') := fun t => by
              have h := ref_Count A2 n2 c2 l2 p1 (w2.drewN t) (Lib.hid (T2.out.below (below_drewN' (Below.refl _ w2) t)))
              rw [hcv] at h
              exact h.mono fun e w' ⟨h1, q2, h2⟩ => ⟨h1, t + q2, by rw [h2, drew2]⟩
            have HU := Lib.hid hu
            have HV := Lib.hid hv
            have hlt2 : (k : Int) < (m : Int) := by omega
            have hk0 : (0 : Int) ≤ (k : Int) := by omega
            clear hu hv hcu hcv
            go_wp2_with fail
            refine (cC _).out.mono ?_
            rintro e w4 ⟨rfl, q6, rfl⟩
            go_wp2_with fail
            refine (cD _).out.mono ?_
            rintro e w4 ⟨rfl, q7, rfl⟩
            clear cC cD
            by_cases h1 : v < u
            · have hcm := Lib.hid (show Cmp (getM l) (getM l2) 1 by
                refine .inr ⟨p1, by rw [← HU.out, ← HV.out]; omega, hfs.out, ?_⟩
                rw [← HU.out, ← HV.out, if_neg (by omega)])
              go_wp2
              go_ret
              exact ⟨⟨1, rfl, .inr ⟨by rw [HR1.out, HR2.out]; rfl, hcm.out⟩⟩, below_drewN' HB2.out _⟩
            · by_cases h2 : u < v
              · have hcm := Lib.hid (show Cmp (getM l) (getM l2) (-1) by
                  refine .inr ⟨p1, by rw [← HU.out, ← HV.out]; omega, hfs.out, ?_⟩
                  rw [← HU.out, ← HV.out, if_pos h2])
                go_wp2
                go_ret
                exact ⟨⟨-1, rfl, .inr ⟨by rw [HR1.out, HR2.out]; rfl, hcm.out⟩⟩, below_drewN' HB2.out _⟩
              · go_wp2
                go_roundw
                case rel =>
                  refine ⟨k + 1, _, by omega, by go_num, rfl, fun p hp => ?_⟩
                  rw [hts.out] at hp
                  rcases List.mem_append.1 hp with hp | hp
                  · exact hz.out p hp
                  · rw [List.mem_singleton] at hp
                    subst hp
                    have := HU.out
                    have := HV.out
                    simp only
                    omega
                case measure => simp [RowKit.intOf]; omega
          · go_wp2
            go_ret
            have e1 : M.take k = M := List.take_of_length_le (by rw [← HM.out]; omega)
            have h9 := hz.out
            rw [e1] at h9
            exact ⟨⟨0, rfl, .inr ⟨by rw [HR1.out, HR2.out]; rfl, .inl ⟨rfl, cmp_all HQ1.out (fun k => (ok1.out.nonneg k).1) (fun k => (ok2.out.nonneg k).1) h9⟩⟩⟩, below_drewN' HB2.out _⟩
end Go.Proofs.YtajcleobmgjhoaaGreatDoor
