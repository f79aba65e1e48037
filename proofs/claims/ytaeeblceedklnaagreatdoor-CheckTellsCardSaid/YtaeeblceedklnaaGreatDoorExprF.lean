/- parts, Right: the document's. -/
import Derived.Test.YtaeeblceedklnaaGreatDoorExprE
import Derived.Deep.CutBlock
namespace Go.Proofs.YtaeeblceedklnaaGreatDoor
open Go.RowKit
theorem ret1b' {a b : Bool} (h : b = a) : Value.bool a = .bool b := by rw [h]
/-- The same as okN, by kinds. -/
theorem okN_eq (vars k n : Int) (m : Nat) : okN vars k n m = if k = 1 then decide ((m : Int) = 0) else if k = 2 then (decide ((m : Int) = 0) && (decide (0 ≤ n) && decide (n < vars))) else if k = 3 ∨ k = 4 then decide ((m : Int) = 1) else if k = 5 then (decide ((m : Int) = 2) && knownB n) else if k = 6 then decide ((m : Int) = 3) else false := by
  unfold okN kidsN
  by_cases h1 : k = 1
  · subst h1; simp
  by_cases h2 : k = 2
  · subst h2
    by_cases a : n < 0 <;> by_cases b : vars ≤ n <;> simp [a, b] <;> omega
  by_cases h3 : k = 3
  · subst h3; simp
  by_cases h4 : k = 4
  · subst h4; simp
  by_cases h5 : k = 5
  · subst h5; simp
  by_cases h6 : k = 6
  · subst h6; simp
  simp [h1, h2, h3, h4, h5, h6]
/-- The contract of the document's parts. -/
def PartsAtR (vars : Int) (N : Nat) : Prop := ∀ (t : Tr), t.sz ≤ N → ∀ (A : Option Addr) (m c : Nat) (w : World), Hid (TrAt w A m c t) → Calls Tryz.prog 125 #[t.val A m c, .int .i64 vars] w fun e w' => e = .returned (.bool (partsT vars t)) ∧ Below w.heap.size w w'
set_option maxRecDepth 100000 in
set_option maxHeartbeats 4000000 in
theorem r_parts_step (vars : Int) (N : Nat) (IH : Hid (PartsAtR vars N)) : PartsAtR vars (N + 1) := by
  intro t hN A m c w h
  obtain ⟨hl, hc, hc9⟩ := h.out.len
  rw [partsT_eq, hl]
  obtain ⟨k, hk⟩ : ∃ k, k = t.kind := ⟨_, rfl⟩
  obtain ⟨n, hn⟩ : ∃ n, n = t.num := ⟨_, rfl⟩
  obtain ⟨R, hR⟩ : ∃ R, R = partsL vars t.kids := ⟨_, rfl⟩
  have hb1 := ((Below.refl w.heap.size w).alloc (Nat.le_refl _) (.cells #[.int .i64 k, .int .i64 n, .slice A m c] 49))
  have HB1 := Lib.hid hb1
  have s0 := cell_new w #[.int .i64 k, .int .i64 n, .slice A m c] 49 0 _ rfl
  have s1 := cell_new w #[.int .i64 k, .int .i64 n, .slice A m c] 49 1 _ rfl
  have s2 := cell_new w #[.int .i64 k, .int .i64 n, .slice A m c] 49 2 _ rfl
  have hT := Lib.hid (h.out.kept hb1)
  obtain ⟨w1, hw1⟩ : ∃ w1, w1 = w.alloc (.cells #[.int .i64 k, .int .i64 n, .slice A m c] 49) := ⟨_, rfl⟩
  obtain ⟨g, hg⟩ : ∃ g, g = w.heap.size := ⟨_, rfl⟩
  have HW1 := Lib.hid hw1
  have HG := Lib.hid hg
  rw [← hw1] at s0 s1 s2 hT HB1
  rw [← hg] at s0 s1 s2
  have CN := ref01_Known n
  have HR := Lib.hid hR
  have HOK := Lib.hid (okN_eq vars k n m)
  rw [← hk, ← hn, ← hR]
  have hv : t.val A m c = .agg #[.int .i64 k, .int .i64 n, .slice A m c] := by rw [hk, hn]
  rw [hv]
  obtain ⟨x, hx⟩ : ∃ x, x = okN vars k n m := ⟨_, rfl⟩
  rw [← hx] at HOK ⊢
  clear hb1 hw1 hg hk hn hR hv hx
  go_enter Tryz.func125, Tryz.ntmps125
  go_upto_region 1 with fail
  rw [← HW1.out, ← HG.out]
  go_upto_block 0 with fail
  go_cut [6] (fun s6 wx => s6 = .bool x ∧ Hid (Below w1.heap.size w1 wx))
  case first =>
    have hOK := HOK.out
    clear HOK
    by_cases k1 : k = 1
    · subst k1
      rw [if_pos rfl] at hOK
      subst hOK
      go_wp2
      go_meet
      exact ⟨rfl, Lib.hid (Below.refl _ _)⟩
    rw [if_neg k1] at hOK
    have b1 : (k == 1) = false := by simpa using k1
    by_cases k2 : k = 2
    · subst k2
      rw [if_pos rfl] at hOK
      have HOK := Lib.hid hOK
      clear hOK k1
      by_cases m0 : (m : Int) = 0
      · have bm : ((m : Int) == 0) = true := by simpa using m0
        have HM0 := Lib.hid m0
        clear m0
        by_cases n0 : 0 ≤ n
        · go_wp2
          go_meet
          exact ⟨ret1b' (by rw [HOK.out, HM0.out]; simp [n0]), Lib.hid (by first | exact Below.refl _ _ | exact below_drewN' (Below.refl _ _) _)⟩
        · have n0' : n < 0 := by omega
          have HN0 := Lib.hid (decide_eq_false n0)
          clear n0
          go_wp2
          go_meet
          exact ⟨ret1b' (by rw [HOK.out, HN0.out]; simp), Lib.hid (by first | exact Below.refl _ _ | exact below_drewN' (Below.refl _ _) _)⟩
      · have bm : ((m : Int) == 0) = false := by simpa using m0
        have HM0 := Lib.hid (decide_eq_false m0)
        clear m0
        go_wp2
        go_meet
        exact ⟨ret1b' (by rw [HOK.out, HM0.out]; rfl), Lib.hid (by first | exact Below.refl _ _ | exact below_drewN' (Below.refl _ _) _)⟩
    rw [if_neg k2] at hOK
    have b2 : (k == 2) = false := by simpa using k2
    by_cases k3 : k = 3
    · subst k3
      rw [if_pos (.inl rfl)] at hOK
      subst hOK
      clear k1 k2
      go_wp2
      go_meet
      exact ⟨rfl, Lib.hid (Below.refl _ _)⟩
    have b3 : (k == 3) = false := by simpa using k3
    by_cases k4 : k = 4
    · subst k4
      rw [if_pos (.inr rfl)] at hOK
      subst hOK
      clear k1 k2 k3
      go_wp2
      go_meet
      exact ⟨rfl, Lib.hid (Below.refl _ _)⟩
    rw [if_neg (by omega)] at hOK
    have b4 : (k == 4) = false := by simpa using k4
    by_cases k5 : k = 5
    · subst k5
      rw [if_pos rfl] at hOK
      have HOK := Lib.hid hOK
      obtain ⟨y, hy⟩ : ∃ y, y = knownB n := ⟨_, rfl⟩
      rw [← hy] at CN HOK
      have CK := Lib.hid CN
      clear hOK k1 k2 k3 k4 hy CN
      by_cases m2 : (m : Int) = 2
      · have bm : ((m : Int) == 2) = true := by simpa using m2
        have HM2 := Lib.hid m2
        clear m2
        go_wp2_with (go_at_call 144; refine (CK.out _).mono ?_; rintro e w4 ⟨rfl, rfl⟩)
        go_meet
        exact ⟨ret1b' (by rw [HOK.out, HM2.out]; simp), Lib.hid (by first | exact Below.refl _ _ | exact below_drewN' (Below.refl _ _) _)⟩
      · have bm : ((m : Int) == 2) = false := by simpa using m2
        have HM2 := Lib.hid (decide_eq_false m2)
        clear m2
        go_wp2
        go_meet
        exact ⟨ret1b' (by rw [HOK.out, HM2.out]; rfl), Lib.hid (by first | exact Below.refl _ _ | exact below_drewN' (Below.refl _ _) _)⟩
    rw [if_neg k5] at hOK
    have b5 : (k == 5) = false := by simpa using k5
    by_cases k6 : k = 6
    · subst k6
      rw [if_pos rfl] at hOK
      subst hOK
      clear k1 k2 k3 k4 k5
      go_wp2
      go_meet
      exact ⟨rfl, Lib.hid (Below.refl _ _)⟩
    rw [if_neg k6] at hOK
    have b6 : (k == 6) = false := by simpa using k6
    subst hOK
    clear k1 k2 k3 k4 k5 k6
    go_wp2
    go_meet
    exact ⟨rfl, Lib.hid (Below.refl _ _)⟩
  case rest =>
    obtain ⟨rfl, hW⟩ := hcut
    clear CN HOK
    go_wp2
    go_loopw [6, 7] (fun v6 v7 wr => ∃ (j : Nat) (y : Bool), j ≤ m ∧ v7 = .int .i64 (j : Int) ∧ v6 = .bool y ∧ Hid ((y && partsL vars (t.kids.drop j)) = (x && R)) ∧ Hid (Below w1.heap.size w1 wr)) (fun _ v7 _ => m - (intOf v7).toNat)
    case atStart => exact ⟨0, x, by omega, rfl, rfl, Lib.hid (by rw [HR.out]; rfl), hW⟩
    case round =>
      obtain ⟨j, y, hj, rfl, rfl, hP, hB⟩ := hrel
      by_cases hlt : j < m
      · cases y with
        | false =>
          have hP2 := hP.out
          rw [Bool.false_and] at hP2
          have HP2 := Lib.hid hP2
          have hlt2 : (j : Int) < (m : Int) := by omega
          clear hP2
          go_wp2
          go_ret
          exact ⟨ret1b HP2.out, below_then HB1.out hB.out⟩
        | true =>
          obtain ⟨b, off, rfl, A', m', c', hK⟩ := (hT.out.kept hB.out).kid hlt
          have hst := hP.out
          rw [drop_tr (by omega), partsL_cons, Bool.true_and] at hst
          have hkd := Tr.kid_lt (t := t) (j := j) (by omega)
          obtain ⟨q, hq⟩ : ∃ q, q = t.kids.getD j default := ⟨_, rfl⟩
          rw [← hq] at hK hst hkd
          have c0 := hK.c0
          have c1 := hK.c1
          have c2 := hK.c2
          have t2 := cell_kept hB.out s2
          have cQ := Lib.hid (fun W H => IH.out q (by omega) A' m' c' W H)
          have HTQ := Lib.hid hK.tr
          obtain ⟨z, hz⟩ : ∃ z, z = partsT vars q := ⟨_, rfl⟩
          rw [← hz] at hst cQ
          have hlt2 : (j : Int) < (m : Int) := by omega
          have hj0 : (0 : Int) ≤ (j : Int) := by omega
          have HST := Lib.hid hst
          clear hK hq hz hst
          go_wp2_with (go_at_call 125; refine (cQ.out _ (Lib.hid (HTQ.out.kept (by first | exact below_drewN' (Below.refl _ _) _ | exact Below.refl _ _)))).mono ?_; rintro e w5 ⟨rfl, hb5⟩; have HB5 := Lib.hid (below_then hB.out (by first | exact hb5 | exact Below.of_drewN hb5)); clear hb5)
          go_roundw
          case rel => exact ⟨j + 1, z, by omega, by go_num, rfl, HST, HB5⟩
          case measure => simp [intOf]; omega
      · have e1 : t.kids.drop j = [] := List.drop_eq_nil_of_le (by omega)
        have hst := hP.out
        rw [e1, partsL, Bool.and_true] at hst
        have HST := Lib.hid hst
        clear hst e1
        go_wp2
        go_ret
        exact ⟨ret1b HST.out, below_then HB1.out hB.out⟩
theorem r_parts (vars : Int) : ∀ N, PartsAtR vars N
  | 0 => fun t hN _ _ _ _ _ => by have := t.sz_pos; omega
  | N + 1 => r_parts_step vars N (Lib.hid (r_parts vars N))
set_option maxRecDepth 100000 in
set_option maxHeartbeats 2000000 in
theorem r_Right (vars : Int) (t : Tr) (A : Option Addr) (m c : Nat) (w : World) (h : Hid (TrAt w A m c t)) (hsz : sizeT t ≤ 1000000) :
    Calls Tryz.prog 75 #[t.val A m c, .int .i64 vars] w fun e w' => e = .returned (.bool (rightT vars t)) ∧ Below w.heap.size w w' := by
  have hb1 := (Below.refl w.heap.size w).alloc (Nat.le_refl _) (.cells #[.int .i64 t.kind, .int .i64 t.num, .slice A m c] 49)
  have HB1 := Lib.hid hb1
  have hT := Lib.hid (h.out.kept hb1)
  have s0 := cell_new w #[.int .i64 t.kind, .int .i64 t.num, .slice A m c] 49 0 _ rfl
  have s1 := cell_new w #[.int .i64 t.kind, .int .i64 t.num, .slice A m c] 49 1 _ rfl
  have s2 := cell_new w #[.int .i64 t.kind, .int .i64 t.num, .slice A m c] 49 2 _ rfl
  obtain ⟨w1, hw1⟩ : ∃ w1, w1 = w.alloc (.cells #[.int .i64 t.kind, .int .i64 t.num, .slice A m c] 49) := ⟨_, rfl⟩
  obtain ⟨g, hg⟩ : ∃ g, g = w.heap.size := ⟨_, rfl⟩
  have HW1 := Lib.hid hw1
  have HG := Lib.hid hg
  rw [← hw1] at s0 s1 s2 hT HB1
  rw [← hg] at s0 s1 s2
  have cD := Lib.hid (fun W h => ref_Depth t.sz t (Nat.le_refl _) A m c W h hsz)
  have cS := Lib.hid (fun W h => ref_Size t.sz t (Nat.le_refl _) A m c W h hsz)
  have cP := Lib.hid (fun W h => r_parts vars t.sz t (Nat.le_refl _) A m c W h)
  have hd := depth_size t
  unfold rightT
  obtain ⟨x, hx⟩ : ∃ x, x = depthT t := ⟨_, rfl⟩
  obtain ⟨y, hy⟩ : ∃ y, y = sizeT t := ⟨_, rfl⟩
  obtain ⟨z, hz⟩ : ∃ z, z = partsT vars t := ⟨_, rfl⟩
  rw [← hx] at cD hd ⊢
  rw [← hy] at cS hd hsz ⊢
  rw [← hz] at cP ⊢
  clear hb1 hw1 hg hx hy hz
  by_cases x4 : x ≤ 40
  · have x42 : (x : Int) ≤ 40 := by omega
    rw [decide_eq_true x4, Bool.true_and]
    by_cases y4 : y ≤ 400
    · have y42 : (y : Int) ≤ 400 := by omega
      rw [decide_eq_true y4, Bool.true_and]
      go_enter Tryz.func75, Tryz.ntmps75
      go_upto_region 1 with fail
      rw [← HW1.out, ← HG.out]
      go_wp2_with (first
        | (go_at_call 123; refine (cD.out _ hT).mono ?_; rintro e w5 ⟨rfl, hb5⟩; have HB5 := Lib.hid (below_then HB1.out hb5); have hT5 := Lib.hid (hT.out.kept hb5); have t0 := cell_kept hb5 s0; have t1 := cell_kept hb5 s1; have t2 := cell_kept hb5 s2; clear hb5 s0 s1 s2)
        | (go_at_call 124; refine (cS.out _ hT5).mono ?_; rintro e w6 ⟨rfl, hb6⟩; have HB6 := Lib.hid (below_then HB5.out hb6); have hT6 := Lib.hid (hT5.out.kept hb6); have r0 := cell_kept hb6 t0; have r1 := cell_kept hb6 t1; have r2 := cell_kept hb6 t2; clear hb6 t0 t1 t2)
        | (go_at_call 125; refine (cP.out _ hT6).mono ?_; rintro e w7 ⟨rfl, hb7⟩; have HB7 := Lib.hid (below_then HB6.out hb7); clear hb7))
      go_ret
      exact ⟨rfl, HB7.out⟩
    · have y42 : (400 : Int) < (y : Int) := by omega
      rw [decide_eq_false y4, Bool.false_and]
      go_enter Tryz.func75, Tryz.ntmps75
      go_upto_region 1 with fail
      rw [← HW1.out, ← HG.out]
      go_wp2_with (first
        | (go_at_call 123; refine (cD.out _ hT).mono ?_; rintro e w5 ⟨rfl, hb5⟩; have HB5 := Lib.hid (below_then HB1.out hb5); have hT5 := Lib.hid (hT.out.kept hb5); have t0 := cell_kept hb5 s0; have t1 := cell_kept hb5 s1; have t2 := cell_kept hb5 s2; clear hb5 s0 s1 s2)
        | (go_at_call 124; refine (cS.out _ hT5).mono ?_; rintro e w6 ⟨rfl, hb6⟩; have HB6 := Lib.hid (below_then HB5.out hb6); clear hb6 t0 t1 t2))
      go_ret
      exact ⟨rfl, HB6.out⟩
  · have x42 : (40 : Int) < (x : Int) := by omega
    rw [decide_eq_false x4, Bool.false_and]
    go_enter Tryz.func75, Tryz.ntmps75
    go_upto_region 1 with fail
    rw [← HW1.out, ← HG.out]
    go_wp2_with (go_at_call 123; refine (cD.out _ hT).mono ?_; rintro e w5 ⟨rfl, hb5⟩; have HB5 := Lib.hid (below_then HB1.out hb5); clear hb5)
    go_ret
    exact ⟨rfl, HB5.out⟩
end Go.Proofs.YtaeeblceedklnaaGreatDoor
