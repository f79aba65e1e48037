/- parts, Right: the program's. -/
import Derived.Test.YtaeeblceedklnaaGreatDoorExprD
import Derived.Deep.DeepCutAuto
namespace Go.Proofs.YtaeeblceedklnaaGreatDoor
open Go.RowKit
set_option maxRecDepth 100000 in
set_option maxHeartbeats 4000000 in
theorem ex_parts_step (vars : Int) (N : Nat) (IH : Hid (PartsAt vars N)) : PartsAt vars (N + 1) := by
  intro t hN A m c w h
  obtain ⟨hl, hc, hc9⟩ := h.out.len
  rw [partsT_eq, hl]
  obtain ⟨k, hk⟩ : ∃ k, k = t.kind := ⟨_, rfl⟩
  obtain ⟨n, hn⟩ : ∃ n, n = t.num := ⟨_, rfl⟩
  obtain ⟨R, hR⟩ : ∃ R, R = partsL vars t.kids := ⟨_, rfl⟩
  have hb1 := ((Below.refl w.heap.size w).alloc (Nat.le_refl _) (.cells #[.int .i64 k, .int .i64 n, .slice A m c] 49)).alloc (by simp) (.cells #[.int .i64 vars] 3)
  have HB1 := Lib.hid hb1
  have hba := (Below.refl (w.alloc (.cells #[.int .i64 k, .int .i64 n, .slice A m c] 49)).heap.size (w.alloc (.cells #[.int .i64 k, .int .i64 n, .slice A m c] 49))).alloc (Nat.le_refl _) (.cells #[.int .i64 vars] 3)
  have s0 := cell_kept hba (cell_new w #[.int .i64 k, .int .i64 n, .slice A m c] 49 0 _ rfl)
  have s1 := cell_kept hba (cell_new w #[.int .i64 k, .int .i64 n, .slice A m c] 49 1 _ rfl)
  have s2 := cell_kept hba (cell_new w #[.int .i64 k, .int .i64 n, .slice A m c] 49 2 _ rfl)
  have s3 := cell_new (w.alloc (.cells #[.int .i64 k, .int .i64 n, .slice A m c] 49)) #[.int .i64 vars] 3 0 _ rfl
  rw [show (w.alloc (.cells #[.int .i64 k, .int .i64 n, .slice A m c] 49)).heap.size = w.heap.size + 1 by simp] at s3
  have hT := Lib.hid (h.out.kept hb1)
  obtain ⟨w1, hw1⟩ : ∃ w1, w1 = (w.alloc (.cells #[.int .i64 k, .int .i64 n, .slice A m c] 49)).alloc (.cells #[.int .i64 vars] 3) := ⟨_, rfl⟩
  obtain ⟨g, hg⟩ : ∃ g, g = w.heap.size := ⟨_, rfl⟩
  have HW1 := Lib.hid hw1
  have HG := Lib.hid hg
  rw [← hw1] at s0 s1 s2 s3 hT HB1
  rw [← hg] at s0 s1 s2 s3
  have cC := fun q => ex_ContainsFunc vars N (g + 1) IH t hN A m c (w1.drewN q) (Lib.hid (hT.out.kept (below_drewN' (Below.refl _ _) q))) (Lib.hid s3)
  rw [← hR] at cC
  have CC := Lib.hid cC
  have CK := Lib.hid (fun W => ex_kids k W)
  have CN := calc_Known n
  rw [← hk, ← hn, ← hR]
  have hv : t.val A m c = .agg #[.int .i64 k, .int .i64 n, .slice A m c] := by rw [hk, hn]
  rw [hv]
  clear hb1 hba hw1 hg cC hk hn hR hv
  obtain ⟨x, hx⟩ : ∃ x, x = kidsN k := ⟨_, rfl⟩
  rw [← hx] at CK
  have HX := Lib.hid hx
  by_cases hm : (m : Int) = x
  · have bm : ((m : Int) != x) = false := by simpa using hm
    have hmk : (m : Int) = kidsN k := hm.trans hx
    have HMK := Lib.hid hmk
    clear hm hmk hx
    by_cases k2 : k = 2
    · subst k2
      by_cases n0 : n < 0
      · have ok : okN vars 2 n m = false := by simp [okN, n0]
        rw [ok, Bool.false_and]
        clear ok
        go_enter Tryz.func86, Tryz.ntmps86
        go_upto_region 1 with fail
        rw [← HW1.out, ← HG.out]
        go_quiet ((go_at_call 132; exact Calls.quiet_of_same ((CK.out _).mono fun e w' h => ⟨h.1, h.2.symm⟩)))
        go_wp2
        go_ret
        exact ⟨rfl, below_drewN' HB1.out _⟩
      · by_cases n1 : vars ≤ n
        · have ok : okN vars 2 n m = false := by simp [okN, n1]
          have n0' : 0 ≤ n := by omega
          rw [ok, Bool.false_and]
          clear ok n0
          go_enter Tryz.func86, Tryz.ntmps86
          go_upto_region 1 with fail
          rw [← HW1.out, ← HG.out]
          go_quiet ((go_at_call 132; exact Calls.quiet_of_same ((CK.out _).mono fun e w' h => ⟨h.1, h.2.symm⟩)))
          go_wp2
          go_ret
          exact ⟨rfl, below_drewN' HB1.out _⟩
        · have ok : okN vars 2 n m = true := by simp [okN, HMK.out]; omega
          have n0' : 0 ≤ n := by omega
          have n1' : n < vars := by omega
          rw [ok, Bool.true_and]
          clear ok n0 n1
          go_enter Tryz.func86, Tryz.ntmps86
          go_upto_region 1 with fail
          rw [← HW1.out, ← HG.out]
          go_quiet ((go_at_call 132; exact Calls.quiet_of_same ((CK.out _).mono fun e w' h => ⟨h.1, h.2.symm⟩)))
          go_wp2_with (go_at_call 134; refine (CC.out _).mono ?_; rintro e w5 ⟨rfl, hb5⟩; have HB5 := Lib.hid (below_then (below_drewN' HB1.out _) hb5); clear hb5)
          go_ret
          exact ⟨ret1b (by simp), HB5.out⟩
    · have b2 : (k == 2) = false := by simpa using k2
      by_cases k5 : k = 5
      · subst k5
        clear k2
        rcases hkn : knownB n with _ | _
        · have ok : okN vars 5 n m = false := by simp [okN, hkn]
          rw [ok, Bool.false_and]
          rw [hkn] at CN
          clear ok hkn
          go_enter Tryz.func86, Tryz.ntmps86
          go_upto_region 1 with fail
          rw [← HW1.out, ← HG.out]
          go_quiet ((go_at_call 132; exact Calls.quiet_of_same ((CK.out _).mono fun e w' h => ⟨h.1, h.2.symm⟩)))
          go_wp2_with (go_at_call 133; refine (CN _).mono ?_; rintro e w4 ⟨rfl, rfl⟩)
          go_ret
          exact ⟨rfl, below_drewN' HB1.out _⟩
        · have ok : okN vars 5 n m = true := by simp [okN, HMK.out, hkn]
          rw [ok, Bool.true_and]
          rw [hkn] at CN
          clear ok hkn
          go_enter Tryz.func86, Tryz.ntmps86
          go_upto_region 1 with fail
          rw [← HW1.out, ← HG.out]
          go_quiet ((go_at_call 132; exact Calls.quiet_of_same ((CK.out _).mono fun e w' h => ⟨h.1, h.2.symm⟩)))
          go_wp2_with (first
            | (go_at_call 133; refine (CN _).mono ?_; rintro e w4 ⟨rfl, rfl⟩)
            | (go_at_call 134; refine (CC.out _).mono ?_; rintro e w5 ⟨rfl, hb5⟩; have HB5 := Lib.hid (below_then (below_drewN' HB1.out _) hb5); clear hb5))
          go_ret
          exact ⟨ret1b (by simp), HB5.out⟩
      · have b5 : (k == 5) = false := by simpa using k5
        have ok : okN vars k n m = true := by simp [okN, HMK.out, k2, k5]
        rw [ok, Bool.true_and]
        clear ok k2 k5
        go_enter Tryz.func86, Tryz.ntmps86
        go_upto_region 1 with fail
        rw [← HW1.out, ← HG.out]
        go_quiet ((go_at_call 132; exact Calls.quiet_of_same ((CK.out _).mono fun e w' h => ⟨h.1, h.2.symm⟩)))
        go_wp2_with (go_at_call 134; refine (CC.out _).mono ?_; rintro e w5 ⟨rfl, hb5⟩; have HB5 := Lib.hid (below_then (below_drewN' HB1.out _) hb5); clear hb5)
        go_ret
        exact ⟨ret1b (by simp), HB5.out⟩
  · have bm : ((m : Int) != x) = true := by simpa using hm
    have ok : okN vars k n m = false := by simp [okN]; intro h; exact absurd (h.trans hx.symm) hm
    rw [ok, Bool.false_and]
    clear ok hm hx
    go_enter Tryz.func86, Tryz.ntmps86
    go_upto_region 1 with fail
    rw [← HW1.out, ← HG.out]
    go_quiet ((go_at_call 132; exact Calls.quiet_of_same ((CK.out _).mono fun e w' h => ⟨h.1, h.2.symm⟩)))
    go_wp2
    go_ret
    exact ⟨rfl, below_drewN' HB1.out _⟩
theorem ex_parts (vars : Int) : ∀ N, PartsAt vars N
  | 0 => fun t hN _ _ _ _ _ => by have := t.sz_pos; omega
  | N + 1 => ex_parts_step vars N (Lib.hid (ex_parts vars N))
/-- Is an expression right? -/
def rightT (vars : Int) (t : Tr) : Bool := decide (depthT t ≤ 40) && (decide (sizeT t ≤ 400) && partsT vars t)
set_option maxRecDepth 100000 in
set_option maxHeartbeats 2000000 in
theorem ex_Right (vars : Int) (t : Tr) (A : Option Addr) (m c : Nat) (w : World) (h : Hid (TrAt w A m c t)) (hsz : sizeT t ≤ 1000000) :
    Calls Tryz.prog 20 #[t.val A m c, .int .i64 vars] w fun e w' => e = .returned (.bool (rightT vars t)) ∧ Below w.heap.size w w' := by
  have hb1 := (Below.refl w.heap.size w).alloc (Nat.le_refl _) (.cells #[.int .i64 t.kind, .int .i64 t.num, .slice A m c] 49)
  have HB1 := Lib.hid hb1
  have hT := Lib.hid (h.out.kept hb1)
  have s0 := cell_new w #[.int .i64 t.kind, .int .i64 t.num, .slice A m c] 49 0 _ rfl
  have s1 := cell_new w #[.int .i64 t.kind, .int .i64 t.num, .slice A m c] 49 1 _ rfl
  have s2 := cell_new w #[.int .i64 t.kind, .int .i64 t.num, .slice A m c] 49 2 _ rfl
  obtain ⟨w1, hw1⟩ : ∃ w1, w1 = w.alloc (.cells #[.int .i64 t.kind, .int .i64 t.num, .slice A m c] 49) := ⟨_, rfl⟩
  obtain ⟨g, hg⟩ : ∃ g, g = w.heap.size := ⟨_, rfl⟩
  have HW1 := Lib.hid hw1
  have HG := Lib.hid hg
  rw [← hw1] at s0 s1 s2 hT HB1
  rw [← hg] at s0 s1 s2
  have cD := Lib.hid (fun W h => ex_Depth t.sz t (Nat.le_refl _) A m c W h hsz)
  have cS := Lib.hid (fun W h => ex_Size t.sz t (Nat.le_refl _) A m c W h hsz)
  have cP := Lib.hid (fun W h => ex_parts vars t.sz t (Nat.le_refl _) A m c W h)
  have hd := depth_size t
  unfold rightT
  obtain ⟨x, hx⟩ : ∃ x, x = depthT t := ⟨_, rfl⟩
  obtain ⟨y, hy⟩ : ∃ y, y = sizeT t := ⟨_, rfl⟩
  obtain ⟨z, hz⟩ : ∃ z, z = partsT vars t := ⟨_, rfl⟩
  rw [← hx] at cD hd ⊢
  rw [← hy] at cS hd hsz ⊢
  rw [← hz] at cP ⊢
  clear hb1 hw1 hg hx hy hz
  by_cases x4 : x ≤ 40
  · have x42 : (x : Int) ≤ 40 := by omega
    rw [decide_eq_true x4, Bool.true_and]
    by_cases y4 : y ≤ 400
    · have y42 : (y : Int) ≤ 400 := by omega
      rw [decide_eq_true y4, Bool.true_and]
      go_enter Tryz.func20, Tryz.ntmps20
      go_upto_region 1 with fail
      rw [← HW1.out, ← HG.out]
      go_wp2_with (first
        | (go_at_call 84; refine (cD.out _ hT).mono ?_; rintro e w5 ⟨rfl, hb5⟩; have HB5 := Lib.hid (below_then HB1.out hb5); have hT5 := Lib.hid (hT.out.kept hb5); have t0 := cell_kept hb5 s0; have t1 := cell_kept hb5 s1; have t2 := cell_kept hb5 s2; clear hb5 s0 s1 s2)
        | (go_at_call 85; refine (cS.out _ hT5).mono ?_; rintro e w6 ⟨rfl, hb6⟩; have HB6 := Lib.hid (below_then HB5.out hb6); have hT6 := Lib.hid (hT5.out.kept hb6); have r0 := cell_kept hb6 t0; have r1 := cell_kept hb6 t1; have r2 := cell_kept hb6 t2; clear hb6 t0 t1 t2)
        | (go_at_call 86; refine (cP.out _ hT6).mono ?_; rintro e w7 ⟨rfl, hb7⟩; have HB7 := Lib.hid (below_then HB6.out hb7); clear hb7))
      go_ret
      exact ⟨rfl, HB7.out⟩
    · have y42 : (400 : Int) < (y : Int) := by omega
      rw [decide_eq_false y4, Bool.false_and]
      go_enter Tryz.func20, Tryz.ntmps20
      go_upto_region 1 with fail
      rw [← HW1.out, ← HG.out]
      go_wp2_with (first
        | (go_at_call 84; refine (cD.out _ hT).mono ?_; rintro e w5 ⟨rfl, hb5⟩; have HB5 := Lib.hid (below_then HB1.out hb5); have hT5 := Lib.hid (hT.out.kept hb5); have t0 := cell_kept hb5 s0; have t1 := cell_kept hb5 s1; have t2 := cell_kept hb5 s2; clear hb5 s0 s1 s2)
        | (go_at_call 85; refine (cS.out _ hT5).mono ?_; rintro e w6 ⟨rfl, hb6⟩; have HB6 := Lib.hid (below_then HB5.out hb6); clear hb6 t0 t1 t2))
      go_ret
      exact ⟨rfl, HB6.out⟩
  · have x42 : (40 : Int) < (x : Int) := by omega
    rw [decide_eq_false x4, Bool.false_and]
    go_enter Tryz.func20, Tryz.ntmps20
    go_upto_region 1 with fail
    rw [← HW1.out, ← HG.out]
    go_wp2_with (go_at_call 84; refine (cD.out _ hT).mono ?_; rintro e w5 ⟨rfl, hb5⟩; have HB5 := Lib.hid (below_then HB1.out hb5); clear hb5)
    go_ret
    exact ⟨rfl, HB5.out⟩
end Go.Proofs.YtaeeblceedklnaaGreatDoor
