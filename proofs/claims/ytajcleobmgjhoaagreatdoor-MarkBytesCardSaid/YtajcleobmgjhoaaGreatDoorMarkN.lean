/- The small net: Right. -/
import Derived.Test.YtajcleobmgjhoaaGreatDoorMarkN0
import Derived.Deep.RegionWith
namespace Go.Proofs.YtajcleobmgjhoaaGreatDoor
open Go.RowKit Go.Lib
theorem r3_right : rightB [(0, 3)] = true := by decide +kernel
set_option maxRecDepth 100000 in
set_option maxHeartbeats 4000000 in
theorem mark_Right1 (cb fb pb : Nat) (A : Option Addr) (c : Nat) (ys : List Bg) (w : World) (hN : Hid (NetOk w cb fb pb)) (hM : Hid (Mk w A 2 c ys)) (hr : Hid (rowsB ys = [[(0, 3)], []])) :
    Calls Tryz.prog 21 #[net1 cb pb, .slice A 2 c] w fun e w' => e = .returned (.bool true) ∧ Below w.heap.size w w' := by
  have s0 := rts_new hN.out hM.out
  obtain ⟨B, c0, D, c1, b, o, rfl, rfl, t0, t1⟩ := two_bags hM.out hr.out
  clear t0 t1
  obtain ⟨W1, hW1⟩ : ∃ W1, W1 = w.alloc (.cells #[.slice (some ⟨cb, 0, none⟩) 1 1, .slice (some ⟨pb, 0, none⟩) 2 2, .slice none 0 0, .int .i64 0, .int .i64 1] 42) := ⟨_, rfl⟩
  rw [← hW1] at s0
  have S1 := Lib.hid s0
  have HW1 := Lib.hid hW1
  obtain ⟨b2, o2, e2, m0, m1⟩ : ∃ b2 o2, (some ⟨b, o, none⟩ : Option Addr) = some ⟨b2, o2, none⟩ ∧ W1.cell? ⟨b2, o2, none⟩ = some (.slice B 1 c0) ∧ W1.cell? ⟨b2, o2 + 1, none⟩ = some (.slice D 0 c1) := by
    obtain ⟨b2, o2, e, hc⟩ := s0.mkg.sl.at_ (by omega)
    exact ⟨b2, o2, e, hc 0 _ rfl, hc 1 _ rfl⟩
  injection e2 with e2
  injection e2 with e2 e3
  subst e2 e3
  have g0 := s0.b0
  have g1 := s0.b1
  obtain ⟨p0, p1, p2, p3, p4, p5⟩ := s0.net.cells
  clear s0 hW1 hN hM hr
  have cS : ∀ t, Hid (Calls Tryz.prog 46 #[.slice (some ⟨cb, 0, none⟩) 1 1, .int .i64 0] (W1.drewN t) fun e w' => e = .returned (.int .i64 4) ∧ Below W1.heap.size W1 w') := fun t =>
    (col_Size cb (W1.drewN t) S1.out.net.col).mono fun e w' ⟨h1, h2⟩ => ⟨h1, below_then (below_drewN' (Below.refl _ W1) t) h2⟩
  go_enter Tryz.func21, Tryz.ntmps21
  go_wp2
  rw [← HW1.out]
  refine wp_loop_rounds 3 ?_
  rw [rounds_succ]
  go_wp2
  go_region_with (go_at_call 46; refine (cS _).out.mono ?_; rintro e w2 ⟨rfl, hb2⟩; have S2 := Lib.hid (S1.out.go hb2); have HB2 := Lib.hid hb2; clear hb2)
  all_goals
    clear m0 m1 g0 g1 p0 p1 p2 p3 p4 p5 cS
    have cR := Lib.hid (bag_Right B 1 c0 [(0, 3)] w2 (Lib.hid (S2.out.mkg.bag _ List.mem_cons_self).sl))
    rw [r3_right] at cR
    go_wp2_with fail
    refine cR.out.mono ?_
    rintro e w3 ⟨rfl, hb3⟩
    have S3 := Lib.hid (S2.out.go hb3)
    clear hb3 cR
    obtain ⟨bb, oo, rfl, z0, _⟩ := (S3.out.mkg.bag (⟨B, 1, c0, [(0, 3)]⟩ : Bg) List.mem_cons_self).sl.pair_at (k := 0) (show 0 < 1 by omega)
    have k0 : ([(0, 3)] : List (Int × Int)).getD 0 (0, 0) = (0, 3) := rfl
    rw [k0, Nat.zero_mul, Nat.add_zero] at z0
    simp only at z0
    obtain ⟨b2, o2, e2, m0, m1⟩ : ∃ b2 o2, (some ⟨b, o, none⟩ : Option Addr) = some ⟨b2, o2, none⟩ ∧ w3.cell? ⟨b2, o2, none⟩ = some (.slice (some ⟨bb, oo, none⟩) 1 c0) ∧ w3.cell? ⟨b2, o2 + 1, none⟩ = some (.slice D 0 c1) := by
      obtain ⟨b2, o2, e, hc⟩ := S3.out.mkg.sl.at_ (by omega)
      exact ⟨b2, o2, e, hc 0 _ rfl, hc 1 _ rfl⟩
    injection e2 with e2
    injection e2 with e2 e3
    subst e2 e3
    have g0 := S3.out.b0
    have g1 := S3.out.b1
    obtain ⟨p0, p1, p2, p3, p4, p5⟩ := S3.out.net.cells
    have cS : ∀ t, Hid (Calls Tryz.prog 46 #[.slice (some ⟨cb, 0, none⟩) 1 1, .int .i64 0] (w3.drewN t) fun e w' => e = .returned (.int .i64 4) ∧ Below w3.heap.size w3 w') := fun t =>
      (col_Size cb (w3.drewN t) S3.out.net.col).mono fun e w' ⟨h1, h2⟩ => ⟨h1, below_then (below_drewN' (Below.refl _ w3) t) h2⟩
    clear k0
    go_wp2
    rw [rounds_succ]
    go_wp2
    go_region_with (go_at_call 46; refine (cS _).out.mono ?_; rintro e w4 ⟨rfl, hb4⟩; have S4 := Lib.hid (S3.out.go hb4); clear hb4)
    all_goals
      clear m0 m1 g0 g1 p0 p1 p2 p3 p4 p5 cS z0
      have cR := Lib.hid (bag_Right D 0 c1 [] w4 (Lib.hid (S4.out.mkg.bag _ (List.mem_cons_of_mem _ List.mem_cons_self)).sl))
      rw [show rightB [] = true from rfl] at cR
      go_wp2_with fail
      refine cR.out.mono ?_
      rintro e w5 ⟨rfl, hb5⟩
      have S5 := Lib.hid (S4.out.go hb5)
      clear hb5 cR
      go_wp2
      rw [rounds_succ]
      go_wp2
      go_ret
      exact ⟨rfl, S5.out.bel⟩
end Go.Proofs.YtajcleobmgjhoaaGreatDoor
