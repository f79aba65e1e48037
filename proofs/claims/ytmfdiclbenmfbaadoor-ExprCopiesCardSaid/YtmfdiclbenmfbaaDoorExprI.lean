/- two and choice, the program's. Printed by gen_exprI.py. -/
import Derived.Test.YtmfdiclbenmfbaaDoorExprH
namespace Go.Proofs.YtmfdiclbenmfbaaDoor
open Go.RowKit
set_option maxRecDepth 100000 in
set_option maxHeartbeats 4000000 in
theorem ex_choice (env : List Int) (N : Nat) (IH : Hid (EvAt 45 env N)) (t : Tr) (hN : t.sz ≤ N + 1) (A : Option Addr) (m c : Nat) (w : World) (EA : Option Addr) (en ec : Nat) (h : Hid (TrAt w A m c t)) (he : Hid (EnvAt w EA en ec env)) (hp : Hid (partsT en t = true)) (hk : t.kind = 6) :
    Calls Tryd.prog 83 #[.slice EA en ec, t.val A m c] w (EvP w (evT env t)) := by
  obtain ⟨hl, hc, hc9⟩ := h.out.len
  have hm : m = 3 := by
    have := ok_len (parts_ok hp.out)
    rw [hl, hk] at this
    simp [kidsN] at this
    omega
  subst hm
  have hb1 := (Below.refl w.heap.size w).alloc (Nat.le_refl _) (.cells #[.int .i64 t.kind, .int .i64 t.num, .slice A 3 c] 24)
  have HB1 := Lib.hid hb1
  have HE1 := Lib.hid (he.out.kept hb1)
  have s1 := cell_new w #[.int .i64 t.kind, .int .i64 t.num, .slice A 3 c] 24 1 _ rfl
  have s2 := cell_new w #[.int .i64 t.kind, .int .i64 t.num, .slice A 3 c] 24 2 _ rfl
  obtain ⟨b, off, rfl, A0, m0, c0, hK0⟩ := (h.out.kept hb1).kid (j := 0) (by omega)
  have hkd0 := Tr.kid_lt (t := t) (j := 0) (by omega)
  have hpk0 := parts_kid hp.out (j := 0) (by omega)
  have hev0 := evL_get env t.kids 0 (by omega)
  obtain ⟨q0, hq0⟩ : ∃ q, q = t.kids.getD 0 default := ⟨_, rfl⟩
  rw [← hq0] at hK0 hkd0 hpk0 hev0
  have c00 := hK0.c0
  have c01 := hK0.c1
  have c02 := hK0.c2
  simp only [Nat.zero_mul, Nat.add_zero] at c00 c01 c02
  have hI0 := ev_in en he.out.ok q0.sz q0 (Nat.le_refl _) hK0.tr hpk0
  have hT0 := Lib.hid hK0.tr
  have cQ0 := fun W T E => IH.out q0 (by omega) A0 m0 c0 W EA en ec T E (Lib.hid hpk0)
  unfold EvP at cQ0
  obtain ⟨bx, ox, ex, A1, m1, c1, hK1⟩ := (h.out.kept hb1).kid (j := 1) (by omega)
  injection ex with ex
  injection ex with e1 e2
  subst e1; subst e2
  have hkd1 := Tr.kid_lt (t := t) (j := 1) (by omega)
  have hpk1 := parts_kid hp.out (j := 1) (by omega)
  have hev1 := evL_get env t.kids 1 (by omega)
  obtain ⟨q1, hq1⟩ : ∃ q, q = t.kids.getD 1 default := ⟨_, rfl⟩
  rw [← hq1] at hK1 hkd1 hpk1 hev1
  have c10 := hK1.c0
  have c11 := hK1.c1
  have c12 := hK1.c2
  simp only [Nat.one_mul] at c10 c11 c12
  have hI1 := ev_in en he.out.ok q1.sz q1 (Nat.le_refl _) hK1.tr hpk1
  have hT1 := Lib.hid hK1.tr
  have cQ1 := fun W T E => IH.out q1 (by omega) A1 m1 c1 W EA en ec T E (Lib.hid hpk1)
  unfold EvP at cQ1
  obtain ⟨bx, ox, ex, A2, m2, c2, hK2⟩ := (h.out.kept hb1).kid (j := 2) (by omega)
  injection ex with ex
  injection ex with e1 e2
  subst e1; subst e2
  have hkd2 := Tr.kid_lt (t := t) (j := 2) (by omega)
  have hpk2 := parts_kid hp.out (j := 2) (by omega)
  have hev2 := evL_get env t.kids 2 (by omega)
  obtain ⟨q2, hq2⟩ : ∃ q, q = t.kids.getD 2 default := ⟨_, rfl⟩
  rw [← hq2] at hK2 hkd2 hpk2 hev2
  have c20 := hK2.c0
  have c21 := hK2.c1
  have c22 := hK2.c2
  simp only [Nat.reduceMul] at c20 c21 c22
  have hI2 := ev_in en he.out.ok q2.sz q2 (Nat.le_refl _) hK2.tr hpk2
  have hT2 := Lib.hid hK2.tr
  have cQ2 := fun W T E => IH.out q2 (by omega) A2 m2 c2 W EA en ec T E (Lib.hid hpk2)
  unfold EvP at cQ2
  have hV := evT_eq env t
  unfold evN at hV
  rw [hev0, hev1, hev2, hk] at hV
  obtain ⟨⟨v0, e0⟩, hve0⟩ : ∃ r, r = evT env q0 := ⟨_, rfl⟩
  rw [← hve0] at hV cQ0 hI0
  simp only at hV cQ0 hI0
  have CQ0 := Lib.hid cQ0
  obtain ⟨⟨v1, e1⟩, hve1⟩ : ∃ r, r = evT env q1 := ⟨_, rfl⟩
  rw [← hve1] at hV cQ1 hI1
  simp only at hV cQ1 hI1
  have CQ1 := Lib.hid cQ1
  obtain ⟨⟨v2, e2⟩, hve2⟩ : ∃ r, r = evT env q2 := ⟨_, rfl⟩
  rw [← hve2] at hV cQ2 hI2
  simp only at hV cQ2 hI2
  have CQ2 := Lib.hid cQ2
  have HV := Lib.hid hV
  obtain ⟨w1, hw1⟩ : ∃ w1, w1 = w.alloc (.cells #[.int .i64 t.kind, .int .i64 t.num, .slice (some ⟨b, off, none⟩) 3 c] 24) := ⟨_, rfl⟩
  obtain ⟨g, hg⟩ : ∃ g, g = w.heap.size := ⟨_, rfl⟩
  have HW1 := Lib.hid hw1
  have HG := Lib.hid hg
  rw [← hw1] at s1 s2 HB1 HE1
  rw [← hw1] at c00 c01 c02 hT0
  rw [← hw1] at c10 c11 c12 hT1
  rw [← hw1] at c20 c21 c22 hT2
  rw [← hg] at s1 s2
  have i0 : I64 0 := by decide
  obtain ⟨n, hn⟩ : ∃ n, n = t.num := ⟨_, rfl⟩
  have hv : t.val (some ⟨b, off, none⟩) 3 c = .agg #[.int .i64 6, .int .i64 n, .slice (some ⟨b, off, none⟩) 3 c] := by rw [hn, ← hk]
  rw [hv]
  rw [← hn] at HW1 HV s1 s2
  rw [hk] at HW1
  clear hb1 hv hl hw1 hg hV hk hn hpk0 hev0 hq0 hK0 hve0 cQ0 hpk1 hev1 hq1 hK1 hve1 cQ1 hpk2 hev2 hq2 hK2 hve2 cQ2
  by_cases z0 : e0 = 0
  · subst z0
    by_cases a0 : v0 = 0
    · subst a0
      go_enter Tryd.func83, Tryd.ntmps83
      go_upto_region 1 with fail
      rw [← HG.out, ← HW1.out]
      go_wp2_with fail
      refine (CQ0.out _ hT0 HE1).mono ?_
      rintro e w5 ⟨rfl, hb5⟩
      have HB5 := Lib.hid (below_then HB1.out hb5)
      have HT1 := Lib.hid (hT1.out.kept hb5)
      have HT2 := Lib.hid (hT2.out.kept hb5)
      have HE5 := Lib.hid (HE1.out.kept hb5)
      have rs1 := cell_kept hb5 s1
      have rs2 := cell_kept hb5 s2
      have rc10 := cell_kept hb5 c10
      have rc11 := cell_kept hb5 c11
      have rc12 := cell_kept hb5 c12
      have rc20 := cell_kept hb5 c20
      have rc21 := cell_kept hb5 c21
      have rc22 := cell_kept hb5 c22
      clear hb5 s1 s2 c10 c11 c12 c20 c21 c22
      go_wp2_with fail
      refine (CQ2.out _ HT2 HE5).mono ?_
      rintro e w6 ⟨rfl, hb6⟩
      have HB6 := Lib.hid (below_then HB5.out hb6)
      have u1 := cell_kept hb6 rs1
      clear hb6
      go_wp2_with fail
      go_ret2
      refine EvP.mk ?_ HB6.out
      rw [HV.out]
      simp
    · have ba : (v0 != 0) = true := by simpa using a0
      have HA := Lib.hid a0
      clear a0
      go_enter Tryd.func83, Tryd.ntmps83
      go_upto_region 1 with fail
      rw [← HG.out, ← HW1.out]
      go_wp2_with fail
      refine (CQ0.out _ hT0 HE1).mono ?_
      rintro e w5 ⟨rfl, hb5⟩
      have HB5 := Lib.hid (below_then HB1.out hb5)
      have HT1 := Lib.hid (hT1.out.kept hb5)
      have HT2 := Lib.hid (hT2.out.kept hb5)
      have HE5 := Lib.hid (HE1.out.kept hb5)
      have rs1 := cell_kept hb5 s1
      have rs2 := cell_kept hb5 s2
      have rc10 := cell_kept hb5 c10
      have rc11 := cell_kept hb5 c11
      have rc12 := cell_kept hb5 c12
      have rc20 := cell_kept hb5 c20
      have rc21 := cell_kept hb5 c21
      have rc22 := cell_kept hb5 c22
      clear hb5 s1 s2 c10 c11 c12 c20 c21 c22
      go_wp2_with fail
      refine (CQ1.out _ HT1 HE5).mono ?_
      rintro e w6 ⟨rfl, hb6⟩
      have HB6 := Lib.hid (below_then HB5.out hb6)
      have u1 := cell_kept hb6 rs1
      clear hb6
      go_wp2_with fail
      go_ret2
      refine EvP.mk ?_ HB6.out
      rw [HV.out]
      have := HA.out
      simp [this]
  · have be : (e0 != 0) = true := by simpa using z0
    have HE := Lib.hid z0
    clear z0
    go_enter Tryd.func83, Tryd.ntmps83
    go_upto_region 1 with fail
    rw [← HG.out, ← HW1.out]
    go_wp2_with fail
    refine (CQ0.out _ hT0 HE1).mono ?_
    rintro e w5 ⟨rfl, hb5⟩
    have HB5 := Lib.hid (below_then HB1.out hb5)
    have HT1 := Lib.hid (hT1.out.kept hb5)
    have HT2 := Lib.hid (hT2.out.kept hb5)
    have HE5 := Lib.hid (HE1.out.kept hb5)
    have rs1 := cell_kept hb5 s1
    have rs2 := cell_kept hb5 s2
    have rc10 := cell_kept hb5 c10
    have rc11 := cell_kept hb5 c11
    have rc12 := cell_kept hb5 c12
    have rc20 := cell_kept hb5 c20
    have rc21 := cell_kept hb5 c21
    have rc22 := cell_kept hb5 c22
    clear hb5 s1 s2 c10 c11 c12 c20 c21 c22
    go_wp2_with fail
    go_ret2
    refine EvP.mk ?_ HB5.out
    rw [HV.out]
    have := HE.out
    simp [this]
set_option maxRecDepth 100000 in
set_option maxHeartbeats 4000000 in
theorem ex_two (env : List Int) (N : Nat) (IH : Hid (EvAt 45 env N)) (t : Tr) (hN : t.sz ≤ N + 1) (A : Option Addr) (m c : Nat) (w : World) (EA : Option Addr) (en ec : Nat) (h : Hid (TrAt w A m c t)) (he : Hid (EnvAt w EA en ec env)) (hp : Hid (partsT en t = true)) (hk : t.kind = 5) :
    Calls Tryd.prog 82 #[.slice EA en ec, t.val A m c] w (EvP w (evT env t)) := by
  obtain ⟨hl, hc, hc9⟩ := h.out.len
  have hm : m = 2 := by
    have := ok_len (parts_ok hp.out)
    rw [hl, hk] at this
    simp [kidsN] at this
    omega
  subst hm
  have hb1 := (Below.refl w.heap.size w).alloc (Nat.le_refl _) (.cells #[.int .i64 t.kind, .int .i64 t.num, .slice A 2 c] 24)
  have HB1 := Lib.hid hb1
  have HE1 := Lib.hid (he.out.kept hb1)
  have s1 := cell_new w #[.int .i64 t.kind, .int .i64 t.num, .slice A 2 c] 24 1 _ rfl
  have s2 := cell_new w #[.int .i64 t.kind, .int .i64 t.num, .slice A 2 c] 24 2 _ rfl
  obtain ⟨b, off, rfl, A0, m0, c0, hK0⟩ := (h.out.kept hb1).kid (j := 0) (by omega)
  have hkd0 := Tr.kid_lt (t := t) (j := 0) (by omega)
  have hpk0 := parts_kid hp.out (j := 0) (by omega)
  have hev0 := evL_get env t.kids 0 (by omega)
  obtain ⟨q0, hq0⟩ : ∃ q, q = t.kids.getD 0 default := ⟨_, rfl⟩
  rw [← hq0] at hK0 hkd0 hpk0 hev0
  have c00 := hK0.c0
  have c01 := hK0.c1
  have c02 := hK0.c2
  simp only [Nat.zero_mul, Nat.add_zero] at c00 c01 c02
  have hI0 := ev_in en he.out.ok q0.sz q0 (Nat.le_refl _) hK0.tr hpk0
  have hT0 := Lib.hid hK0.tr
  have cQ0 := fun W T E => IH.out q0 (by omega) A0 m0 c0 W EA en ec T E (Lib.hid hpk0)
  unfold EvP at cQ0
  obtain ⟨bx, ox, ex, A1, m1, c1, hK1⟩ := (h.out.kept hb1).kid (j := 1) (by omega)
  injection ex with ex
  injection ex with e1 e2
  subst e1; subst e2
  have hkd1 := Tr.kid_lt (t := t) (j := 1) (by omega)
  have hpk1 := parts_kid hp.out (j := 1) (by omega)
  have hev1 := evL_get env t.kids 1 (by omega)
  obtain ⟨q1, hq1⟩ : ∃ q, q = t.kids.getD 1 default := ⟨_, rfl⟩
  rw [← hq1] at hK1 hkd1 hpk1 hev1
  have c10 := hK1.c0
  have c11 := hK1.c1
  have c12 := hK1.c2
  simp only [Nat.one_mul] at c10 c11 c12
  have hI1 := ev_in en he.out.ok q1.sz q1 (Nat.le_refl _) hK1.tr hpk1
  have hT1 := Lib.hid hK1.tr
  have cQ1 := fun W T E => IH.out q1 (by omega) A1 m1 c1 W EA en ec T E (Lib.hid hpk1)
  unfold EvP at cQ1
  have hV := evT_eq env t
  unfold evN at hV
  rw [hev0, hev1, hk] at hV
  obtain ⟨⟨v0, e0⟩, hve0⟩ : ∃ r, r = evT env q0 := ⟨_, rfl⟩
  rw [← hve0] at hV cQ0 hI0
  simp only at hV cQ0 hI0
  have CQ0 := Lib.hid cQ0
  obtain ⟨⟨v1, e1⟩, hve1⟩ : ∃ r, r = evT env q1 := ⟨_, rfl⟩
  rw [← hve1] at hV cQ1 hI1
  simp only at hV cQ1 hI1
  have CQ1 := Lib.hid cQ1
  have HV := Lib.hid hV
  obtain ⟨w1, hw1⟩ : ∃ w1, w1 = w.alloc (.cells #[.int .i64 t.kind, .int .i64 t.num, .slice (some ⟨b, off, none⟩) 2 c] 24) := ⟨_, rfl⟩
  obtain ⟨g, hg⟩ : ∃ g, g = w.heap.size := ⟨_, rfl⟩
  have HW1 := Lib.hid hw1
  have HG := Lib.hid hg
  rw [← hw1] at s1 s2 HB1 HE1
  rw [← hw1] at c00 c01 c02 hT0
  rw [← hw1] at c10 c11 c12 hT1
  rw [← hg] at s1 s2
  have i0 : I64 0 := by decide
  obtain ⟨n, hn⟩ : ∃ n, n = t.num := ⟨_, rfl⟩
  have hv : t.val (some ⟨b, off, none⟩) 2 c = .agg #[.int .i64 5, .int .i64 n, .slice (some ⟨b, off, none⟩) 2 c] := by rw [hn, ← hk]
  rw [hv]
  rw [← hn] at HW1 HV s1 s2
  rw [hk] at HW1
  clear hb1 hv hl hw1 hg hV hk hn hpk0 hev0 hq0 hK0 hve0 cQ0 hpk1 hev1 hq1 hK1 hve1 cQ1
  by_cases z0 : e0 = 0
  · subst z0
    by_cases hA : n = 10 ∧ v0 = 0
    · obtain ⟨rfl, rfl⟩ := hA
      go_enter Tryd.func82, Tryd.ntmps82
      go_upto_region 1 with fail
      rw [← HG.out, ← HW1.out]
      go_wp2_with fail
      refine (CQ0.out _ hT0 HE1).mono ?_
      rintro e w5 ⟨rfl, hb5⟩
      have HB5 := Lib.hid (below_then HB1.out hb5)
      have HT1 := Lib.hid (hT1.out.kept hb5)
      have HE5 := Lib.hid (HE1.out.kept hb5)
      have rs1 := cell_kept hb5 s1
      have rs2 := cell_kept hb5 s2
      have rc10 := cell_kept hb5 c10
      have rc11 := cell_kept hb5 c11
      have rc12 := cell_kept hb5 c12
      clear hb5 s1 s2 c10 c11 c12
      go_wp2_with fail
      refine (calc_Do 7 0 0 _ hI0 i0).mono ?_
      rintro e w7 ⟨rfl, n7, rfl⟩
      go_wp2_with fail
      go_ret2
      refine EvP.mk ?_ (below_drewN' HB5.out _)
      rw [HV.out]
      simp [doV, doE, yesI]
    by_cases hO : n = 11 ∧ v0 ≠ 0
    · obtain ⟨rfl, a0⟩ := hO
      have ba : (v0 != 0) = true := by simpa using a0
      have HA := Lib.hid a0
      clear a0 hA
      go_enter Tryd.func82, Tryd.ntmps82
      go_upto_region 1 with fail
      rw [← HG.out, ← HW1.out]
      go_wp2_with fail
      refine (CQ0.out _ hT0 HE1).mono ?_
      rintro e w5 ⟨rfl, hb5⟩
      have HB5 := Lib.hid (below_then HB1.out hb5)
      have HT1 := Lib.hid (hT1.out.kept hb5)
      have HE5 := Lib.hid (HE1.out.kept hb5)
      have rs1 := cell_kept hb5 s1
      have rs2 := cell_kept hb5 s2
      have rc10 := cell_kept hb5 c10
      have rc11 := cell_kept hb5 c11
      have rc12 := cell_kept hb5 c12
      clear hb5 s1 s2 c10 c11 c12
      go_wp2_with fail
      refine (calc_Do 7 v0 0 _ hI0 i0).mono ?_
      rintro e w7 ⟨rfl, n7, rfl⟩
      go_wp2_with fail
      go_ret2
      refine EvP.mk ?_ (below_drewN' HB5.out _)
      rw [HV.out]
      have := HA.out
      simp [doV, doE, yesI, this]
    rw [if_neg hA, if_neg hO] at HV
    have gA : (n == 10) = false ∨ ((n == 10) = true ∧ (v0 == 0) = false) := by
      by_cases h : n = 10
      · exact .inr ⟨by simpa using h, by simpa using fun h0 => hA ⟨h, h0⟩⟩
      · exact .inl (by simpa using h)
    have gO : (n == 11) = false ∨ ((n == 11) = true ∧ (v0 != 0) = false) := by
      by_cases h : n = 11
      · exact .inr ⟨by simpa using h, by simpa using fun h0 => hO ⟨h, h0⟩⟩
      · exact .inl (by simpa using h)
    clear hA hO
    by_cases z1 : e1 = 0
    · subst z1
      rcases gA with gA | ⟨gA, gA2⟩ <;> rcases gO with gO | ⟨gO, gO2⟩
      all_goals
        go_enter Tryd.func82, Tryd.ntmps82
        go_upto_region 1 with fail
        rw [← HG.out, ← HW1.out]
        go_wp2_with fail
        refine (CQ0.out _ hT0 HE1).mono ?_
        rintro e w5 ⟨rfl, hb5⟩
        have HB5 := Lib.hid (below_then HB1.out hb5)
        have HT1 := Lib.hid (hT1.out.kept hb5)
        have HE5 := Lib.hid (HE1.out.kept hb5)
        have rs1 := cell_kept hb5 s1
        have rs2 := cell_kept hb5 s2
        have rc10 := cell_kept hb5 c10
        have rc11 := cell_kept hb5 c11
        have rc12 := cell_kept hb5 c12
        clear hb5 s1 s2 c10 c11 c12
        go_wp2_with fail
        refine (CQ1.out _ HT1 HE5).mono ?_
        rintro e w6 ⟨rfl, hb6⟩
        have HB6 := Lib.hid (below_then HB5.out hb6)
        have u1 := cell_kept hb6 rs1
        clear hb6
        go_wp2_with fail
        refine (calc_Do n v0 v1 _ hI0 hI1).mono ?_
        rintro e w7 ⟨rfl, n7, rfl⟩
        go_wp2_with fail
        go_ret2
        refine EvP.mk ?_ (below_drewN' HB6.out _)
        rw [HV.out]
        simp
    · have be : (e1 != 0) = true := by simpa using z1
      have HE := Lib.hid z1
      clear z1
      rcases gA with gA | ⟨gA, gA2⟩ <;> rcases gO with gO | ⟨gO, gO2⟩
      all_goals
        go_enter Tryd.func82, Tryd.ntmps82
        go_upto_region 1 with fail
        rw [← HG.out, ← HW1.out]
        go_wp2_with fail
        refine (CQ0.out _ hT0 HE1).mono ?_
        rintro e w5 ⟨rfl, hb5⟩
        have HB5 := Lib.hid (below_then HB1.out hb5)
        have HT1 := Lib.hid (hT1.out.kept hb5)
        have HE5 := Lib.hid (HE1.out.kept hb5)
        have rs1 := cell_kept hb5 s1
        have rs2 := cell_kept hb5 s2
        have rc10 := cell_kept hb5 c10
        have rc11 := cell_kept hb5 c11
        have rc12 := cell_kept hb5 c12
        clear hb5 s1 s2 c10 c11 c12
        go_wp2_with fail
        refine (CQ1.out _ HT1 HE5).mono ?_
        rintro e w6 ⟨rfl, hb6⟩
        have HB6 := Lib.hid (below_then HB5.out hb6)
        have u1 := cell_kept hb6 rs1
        clear hb6
        go_wp2_with fail
        go_ret2
        refine EvP.mk ?_ HB6.out
        rw [HV.out]
        have := HE.out
        simp [this]
  · have be : (e0 != 0) = true := by simpa using z0
    have HE := Lib.hid z0
    clear z0
    go_enter Tryd.func82, Tryd.ntmps82
    go_upto_region 1 with fail
    rw [← HG.out, ← HW1.out]
    go_wp2_with fail
    refine (CQ0.out _ hT0 HE1).mono ?_
    rintro e w5 ⟨rfl, hb5⟩
    have HB5 := Lib.hid (below_then HB1.out hb5)
    have HT1 := Lib.hid (hT1.out.kept hb5)
    have HE5 := Lib.hid (HE1.out.kept hb5)
    have rs1 := cell_kept hb5 s1
    have rs2 := cell_kept hb5 s2
    have rc10 := cell_kept hb5 c10
    have rc11 := cell_kept hb5 c11
    have rc12 := cell_kept hb5 c12
    clear hb5 s1 s2 c10 c11 c12
    go_wp2_with fail
    go_ret2
    refine EvP.mk ?_ HB5.out
    rw [HV.out]
    have := HE.out
    simp [this]
end Go.Proofs.YtmfdiclbenmfbaaDoor
