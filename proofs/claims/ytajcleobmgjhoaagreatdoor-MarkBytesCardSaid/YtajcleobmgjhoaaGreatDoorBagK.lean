/- Contracts of package bag: Same, Compare. -/
import Derived.Test.YtajcleobmgjhoaaGreatDoorBagI
import Derived.Test.YtajcleobmgjhoaaGreatDoorBagJ
namespace Go.Proofs.YtajcleobmgjhoaaGreatDoor
open Go.RowKit
def sameR (a b : Row) : Bool := (rightB a && rightB b) && decide (a = b)
set_option maxRecDepth 100000 in
set_option maxHeartbeats 1000000 in
theorem bag_Same (A : Option Addr) (n c : Nat) (l : Row) (A2 : Option Addr) (n2 c2 : Nat) (l2 : Row) (w : World) (hA : Hid (Sl w (.slice A n c) n 2 (pairCells l)))
    (hA2 : Hid (Sl w (.slice A2 n2 c2) n2 2 (pairCells l2))) :
    Calls Tryz.prog 26 #[.slice A n c, .slice A2 n2 c2] w fun e w' => e = .returned (.bool (sameR l l2)) ∧ Below w.heap.size w w' := by
  have c1 := Lib.hid (bag_Right A n c l w hA)
  have hn := hA.out.bound
  have hn2 := hA2.out.bound
  obtain ⟨R1, hR1⟩ : ∃ R, R = rightB l := ⟨_, rfl⟩
  rw [← hR1] at c1
  have HR1 := Lib.hid hR1
  clear hR1
  obtain ⟨R2, hR2⟩ : ∃ R, R = rightB l2 := ⟨_, rfl⟩
  have HR2 := Lib.hid hR2
  obtain ⟨R3, hR3⟩ : ∃ R, R = decide (l = l2) := ⟨_, rfl⟩
  have HR3 := Lib.hid hR3
  cases R1 with
  | false =>
    go_enter Tryz.func26, Tryz.ntmps26
    clear hR2 hR3
    go_wp2_with fail
    refine c1.out.mono ?_
    rintro e w1 ⟨rfl, hb1⟩
    have HB1 := Lib.hid hb1
    clear hb1
    go_wp2
    go_ret
    refine ⟨ret_b ?_, HB1.out⟩
    unfold sameR
    rw [← HR1.out]; rfl
  | true =>
    cases R2 with
    | false =>
      go_enter Tryz.func26, Tryz.ntmps26
      clear hR2 hR3
      go_wp2_with fail
      refine c1.out.mono ?_
      rintro e w1 ⟨rfl, hb1⟩
      have HB1 := Lib.hid hb1
      have cR2 := Lib.hid (bag_Right A2 n2 c2 l2 w1 (hA2.out.below hb1))
      rw [← HR2.out] at cR2
      clear hb1
      go_wp2_with fail
      refine cR2.out.mono ?_
      rintro e w2 ⟨rfl, hb2⟩
      have HB2 := Lib.hid hb2
      clear hb2
      go_wp2
      go_ret
      refine ⟨ret_b ?_, below_then HB1.out HB2.out⟩
      unfold sameR
      rw [← HR1.out, ← HR2.out]; rfl
    | true =>
      go_enter Tryz.func26, Tryz.ntmps26
      clear hR2 hR3
      go_wp2_with fail
      refine c1.out.mono ?_
      rintro e w1 ⟨rfl, hb1⟩
      have HB1 := Lib.hid hb1
      have cR2 := Lib.hid (bag_Right A2 n2 c2 l2 w1 (hA2.out.below hb1))
      rw [← HR2.out] at cR2
      clear hb1
      go_wp2_with fail
      refine cR2.out.mono ?_
      rintro e w2 ⟨rfl, hb2⟩
      have HB2 := Lib.hid (below_then HB1.out hb2)
      clear hb2
      have cE := Lib.hid (slices_EqualP A A2 n n2 c c2 l l2 w2 (hA.out.below HB2.out) (hA2.out.below HB2.out) hn hn2)
      rw [← HR3.out] at cE
      go_wp2_with fail
      refine cE.out.mono ?_
      rintro e w3 ⟨rfl, k, rfl⟩
      go_wp2
      go_ret
      refine ⟨ret_b ?_, below_drewN' HB2.out k⟩
      unfold sameR
      rw [← HR1.out, ← HR2.out, ← HR3.out]; rfl
/-- How two counts compare. -/
def Cmp (f g : Int → Int) (z : Int) : Prop := (z = 0 ∧ ∀ k, f k = g k) ∨ ∃ k, f k ≠ g k ∧ (∀ j, j < k → f j = g j) ∧ z = if f k < g k then -1 else 1
theorem Cmp.uniq {f g : Int → Int} {z y : Int} (h : Cmp f g z) (h2 : Cmp f g y) : z = y := by
  rcases h with ⟨rfl, h⟩ | ⟨k, h3, h4, rfl⟩
  · rcases h2 with ⟨rfl, _⟩ | ⟨k, h3, _⟩
    · rfl
    · exact absurd (h k) h3
  · rcases h2 with ⟨rfl, h⟩ | ⟨j, h5, h6, rfl⟩
    · exact absurd (h k) h3
    · have : k = j := by
        rcases Int.lt_trichotomy k j with hlt | rfl | hlt
        · exact absurd (h6 k hlt) h3
        · rfl
        · exact absurd (h4 j hlt) h5
      rw [this]
def CmpR (a b : Row) (z : Int) : Prop := ((rightB a && rightB b) = false ∧ z = 0) ∨ ((rightB a && rightB b) = true ∧ Cmp (getM a) (getM b) z)
theorem cmp_first {M : Row} {f g : Int → Int} (hM : RowG M fun k => max (f k) (g k)) (hf : ∀ k, 0 ≤ f k) (hg : ∀ k, 0 ≤ g k) {k : Nat} (hk : k < M.length) (h : ∀ p ∈ M.take k, f p.1 = g p.1) :
    (∀ j, j < (M.getD k (0, 0)).1 → f j = g j) := by
  intro j hj
  have h1 := hf j
  have h2 := hg j
  by_cases h0 : 0 < max (f j) (g j)
  · have hm := hM.2.2 j h0
    obtain ⟨i, hi, e⟩ := List.getElem_of_mem hm
    have hik : i < k := by
      rcases Nat.lt_or_ge i k with h3 | h3
      · exact h3
      · exfalso
        have e3 : M.getD k (0, 0) = M[k] := by rw [List.getD, List.getElem?_eq_getElem hk]; rfl
        rw [e3] at hj
        have e4 : M[i].1 = j := by rw [e]
        rcases Nat.eq_or_lt_of_le h3 with rfl | h3
        · omega
        · have := List.pairwise_iff_getElem.1 hM.1 k i hk hi h3
          omega
    have h5 := h M[i] (List.mem_take_iff_getElem.2 ⟨i, by omega, rfl⟩)
    rw [e] at h5
    exact h5
  · omega
theorem cmp_all {M : Row} {f g : Int → Int} (hM : RowG M fun k => max (f k) (g k)) (hf : ∀ k, 0 ≤ f k) (hg : ∀ k, 0 ≤ g k) (h : ∀ p ∈ M, f p.1 = g p.1) (j : Int) : f j = g j := by
  have h1 := hf j
  have h2 := hg j
  by_cases h0 : 0 < max (f j) (g j)
  · exact h _ (hM.2.2 j h0)
  · omega
set_option maxRecDepth 100000 in
set_option maxHeartbeats 2000000 in
theorem bag_Compare (A : Option Addr) (n c : Nat) (l : Row) (A2 : Option Addr) (n2 c2 : Nat) (l2 : Row) (w : World) (hA : Hid (Sl w (.slice A n c) n 2 (pairCells l))) (hi : Hid (I64s l)) (hmax : n < 100000000000)
    (hA2 : Hid (Sl w (.slice A2 n2 c2) n2 2 (pairCells l2))) (hi2 : Hid (I64s l2)) (hmax2 : n2 < 100000000000) :
    Calls Tryz.prog 32 #[.slice A n c, .slice A2 n2 c2] w fun e w' => (∃ z, e = .returned (.int .i64 z) ∧ CmpR l l2 z) ∧ Below w.heap.size w w' := by
  have cB := Lib.hid (bag_both A n c l A2 n2 c2 l2 w hA hi (by omega) hA2 hi2 (by omega))
  go_enter Tryz.func32, Tryz.ntmps32
  go_wp2_with fail
  refine cB.out.mono ?_
  rintro e w1 ⟨hb1, ⟨hr1, hr2, x, y, rfl, hx, hxy, hM1, hM2⟩ | ⟨hr, x, y, rfl⟩⟩
  · have HB1 := Lib.hid hb1
    have HR := Lib.hid (show (rightB l && rightB l2) = true by rw [hr1, hr2]; rfl)
    have hok1 := (rightB_iff l).1 hr1
    have hok2 := (rightB_iff l2).1 hr2
    have HK1 := Lib.hid hok1
    have HK2 := Lib.hid hok2
    have HM1 := Lib.hid (hM1.get hok1.1)
    have HM2 := Lib.hid (hM2.get hok2.1)
    have cM := Lib.hid (bag_Most A n c l A2 n2 c2 l2 w1 (hA.out.below hb1) hi hmax (hA2.out.below hb1) hi2 hmax2)
    have hbx := hM1.lt
    have hby := hM2.lt
    clear hb1 hr1 hr2 hM1 hM2 hok1 hok2
    go_wp2_with fail
    refine cM.out.mono ?_
    rintro e w2 ⟨hb2, ⟨hr, rfl⟩ | ⟨hr, v, rfl, A3, c3, M, rfl, q1, q2, q3, q4⟩⟩
    · rw [HR.out] at hr; cases hr
    · have HB2 := Lib.hid hb2
      obtain ⟨m, hm⟩ : ∃ m, m = M.length := ⟨_, rfl⟩
      rw [← hm] at q4 q3
      have HM := Lib.hid hm
      have HQ1 := Lib.hid q1
      have HQ2 := Lib.hid q2
      have HS := Lib.hid (Sl.of_own q4)
      have hm3 : m ≤ 9223372036854775807 := HS.out.bound
      have HX := Lib.hid (HM1.out.below hb2 hbx)
      have HY := Lib.hid (HM2.out.below hb2 hby)
      have hx2 := HX.out.lt
      have hy2 := HY.out.lt
      rw [← hm]
      clear hr hm q1 q2 q3 q4 hb2
      go_wp2_with fail
      go_loopw [24] (fun v wr => ∃ (k : Nat), k ≤ m ∧ v = .int .i64 (k : Int) ∧ Hid (∀ p ∈ M.take k, getM l p.1 = getM l2 p.1) ∧ Hid (Below w2.heap.size w2 wr)) (fun v _ => m - (RowKit.intOf v).toNat)
      case atStart => exact ⟨0, by omega, rfl, fun p hp => (by cases hp), Below.refl _ _⟩
      case round =>
        obtain ⟨k, hk, rfl, hz, hB⟩ := hrel
        by_cases hlt : k < m
        · obtain ⟨b1, o1, rfl, c1, c2⟩ := HS.out.pair_at hlt
          replace c1 := cell_kept hB.out c1
          replace c2 := cell_kept hB.out c2
          obtain ⟨p, hp⟩ : ∃ p, p = M.getD k (0, 0) := ⟨_, rfl⟩
          rw [← hp] at c1 c2
          have hts := Lib.hid (take_snoc (M := M) (k := k) (by rw [← HM.out]; exact hlt))
          have hfs := Lib.hid (cmp_first HQ1.out (fun k => (HK1.out.nonneg k).1) (fun k => (HK2.out.nonneg k).1) (k := k) (by rw [← HM.out]; exact hlt) hz.out)
          have hpi : I64 p.1 ∧ I64 p.2 := HQ2.out p (by rw [hp, List.getD, List.getElem?_eq_getElem (by rw [← HM.out]; exact hlt)]; exact List.getElem_mem _)
          rw [← hp] at hts hfs
          clear hp
          obtain ⟨p1, p2⟩ := p
          simp only at c1 c2 hfs hpi
          have hBx := hB.out.alloc hB.out.size (.cells #[.int .i64 p1, .int .i64 p2] 45)
          have lk1 := (HX.out.below hBx hx2).look hpi.1
          have lk2 := (HY.out.below hBx hy2).look hpi.1
          have HBX := Lib.hid hBx
          obtain ⟨u, hu⟩ : ∃ u, u = getM l p1 := ⟨_, rfl⟩
          obtain ⟨v, hv⟩ : ∃ v, v = getM l2 p1 := ⟨_, rfl⟩
          rw [← hu] at lk1
          rw [← hv] at lk2
          have HU := Lib.hid hu
          have HV := Lib.hid hv
          have hlt2 : (k : Int) < (m : Int) := by omega
          have hk0 : (0 : Int) ≤ (k : Int) := by omega
          clear hu hv hpi hBx
          have cC := Lib.hid (fun W => Tryz.cmp_Compare_int u v W)
          obtain ⟨z, hz2⟩ : ∃ z, z = Lib.compareInt u v := ⟨_, rfl⟩
          rw [← hz2] at cC
          have HZ := Lib.hid hz2
          clear hz2
          by_cases hz0 : z = 0
          · subst hz0
            have huv := Lib.hid (show u = v by
              have := HZ.out
              unfold Lib.compareInt at this
              split at this
              · cases this
              · split at this
                · cases this
                · omega)
            go_wp2_with fail
            refine (cC.out _).mono ?_
            rintro e w4 ⟨rfl, rfl⟩
            go_wp2
            go_roundw
            case rel =>
              refine ⟨k + 1, by omega, by go_num, fun p hp => ?_, HBX.out⟩
              rw [hts.out] at hp
              rcases List.mem_append.1 hp with hp | hp
              · exact hz.out p hp
              · rw [List.mem_singleton] at hp
                subst hp
                exact HU.out.symm.trans (huv.out.trans HV.out)
            case measure => simp [RowKit.intOf]; omega
          · have hcm := Lib.hid (show Cmp (getM l) (getM l2) z by
              refine .inr ⟨p1, ?_, hfs.out, ?_⟩
              · rw [← HU.out, ← HV.out]
                intro e
                refine hz0 ?_
                rw [HZ.out, e]
                unfold Lib.compareInt
                simp
              · rw [← HU.out, ← HV.out, HZ.out]
                have h9 := hz0
                rw [HZ.out] at h9
                unfold Lib.compareInt at h9 ⊢
                split
                · rfl
                · split
                  · rfl
                  · rename_i h1 h2
                    rw [if_neg h1, if_neg h2] at h9
                    exact absurd rfl h9)
            go_wp2_with fail
            refine (cC.out _).mono ?_
            rintro e w4 ⟨rfl, rfl⟩
            go_wp2
            go_ret
            exact ⟨⟨z, rfl, .inr ⟨HR.out, hcm.out⟩⟩, below_then (below_then HB1.out HB2.out) HBX.out⟩
        · go_wp2
          go_ret
          have e1 : M.take k = M := List.take_of_length_le (by rw [← HM.out]; omega)
          have h9 := hz.out
          rw [e1] at h9
          exact ⟨⟨0, rfl, .inr ⟨HR.out, .inl ⟨rfl, cmp_all HQ1.out (fun k => (HK1.out.nonneg k).1) (fun k => (HK2.out.nonneg k).1) h9⟩⟩⟩, below_then (below_then HB1.out HB2.out) hB.out⟩
  · have HB1 := Lib.hid hb1
    have HR := Lib.hid hr
    clear hb1 hr
    go_wp2
    go_ret
    exact ⟨⟨0, rfl, .inl ⟨HR.out, rfl⟩⟩, HB1.out⟩
end Go.Proofs.YtajcleobmgjhoaaGreatDoor
