/- The small net: Text. -/
import Derived.Test.YtajcleobmgjhoaaGreatDoorMarkN0
import Derived.Deep.RegionWith
import Derived.Deep.DeepCutAuto
import Derived.Lib.SmallJoins
namespace Go.Proofs.YtajcleobmgjhoaaGreatDoor
open Go.RowKit Go.Lib
theorem strs_ty : SlTy Tryz.prog 61 9 1 16 := SlTy.mk (z := .string ⟨#[]⟩) (by kernel_rfl) (by kernel_rfl) rfl (by decide)
set_option maxRecDepth 100000 in
set_option maxHeartbeats 40000000 in
theorem mark_Text1 (cb fb pb : Nat) (A : Option Addr) (c : Nat) (ys : List Bg) (w : World) (hN : Hid (NetOk w cb fb pb)) (hM : Hid (Mk w A 2 c ys)) (hr : Hid (rowsB ys = [[(0, 3)], []])) :
    Calls Tryz.prog 20 #[net1 cb pb, .slice A 2 c] w fun e w' => e = .returned (.string ⟨#[123, 97, 58, 32, 48, 42, 51, 125]⟩) ∧ Below w.heap.size w w' := by
  have s0 := rts_new hN.out hM.out
  obtain ⟨B, c0, D, c1, b, o, rfl, rfl, t0, t1⟩ := two_bags hM.out hr.out
  clear t0 t1
  obtain ⟨W1, hW1⟩ : ∃ W1, W1 = w.alloc (.cells #[.slice (some ⟨cb, 0, none⟩) 1 1, .slice (some ⟨pb, 0, none⟩) 2 2, .slice none 0 0, .int .i64 0, .int .i64 1] 42) := ⟨_, rfl⟩
  rw [← hW1] at s0
  have S1 := Lib.hid s0
  have HW1 := Lib.hid hW1
  obtain ⟨p0, p1, p2, p3, p4, p5⟩ := s0.net.cells
  have g1 := s0.b1
  obtain ⟨bb, oo, rfl, y0, y1⟩ := (S1.out.mkg.bag (⟨B, 1, c0, [(0, 3)]⟩ : Bg) List.mem_cons_self).sl.pair_at (k := 0) (show 0 < 1 by omega)
  clear y0 y1
  have al := fun (u : World) (o : Obj) => (Below.refl u.heap.size u).alloc (Nat.le_refl _) o
  have S2 := Lib.hid (S1.out.go (al W1 (.cells #[.string ⟨#[97]⟩, .int .i64 0, .slice (some ⟨fb, 0, none⟩) 1 1] 65)))
  have S3 := Lib.hid (S2.out.go (al _ (.cells #[.int .i64 0, .int .i64 3] 45)))
  have AL := Lib.hid al
  obtain ⟨b2, o2, e2, m0⟩ : ∃ b2 o2, (some ⟨b, o, none⟩ : Option Addr) = some ⟨b2, o2, none⟩ ∧ (W1.alloc (.cells #[.string ⟨#[97]⟩, .int .i64 0, .slice (some ⟨fb, 0, none⟩) 1 1] 65)).cell? ⟨b2, o2, none⟩ = some (.slice (some ⟨bb, oo, none⟩) 1 c0) := by
    obtain ⟨b2, o2, e, hc⟩ := S2.out.mkg.sl.at_ (by omega)
    exact ⟨b2, o2, e, hc 0 _ rfl⟩
  injection e2 with e2
  injection e2 with e2 e3
  subst e2 e3
  obtain ⟨b3, o3, e2, z0, z1⟩ := (S2.out.mkg.bag (⟨some ⟨bb, oo, none⟩, 1, c0, [(0, 3)]⟩ : Bg) List.mem_cons_self).sl.pair_at (k := 0) (show 0 < 1 by omega)
  injection e2 with e2
  injection e2 with e2 e3
  subst e2 e3
  have k0 : ([(0, 3)] : List (Int × Int)).getD 0 (0, 0) = (0, 3) := rfl
  rw [k0, Nat.zero_mul, Nat.add_zero] at z0 z1
  simp only at z0 z1
  have n1 := cell_new W1 #[.string ⟨#[97]⟩, .int .i64 0, .slice (some ⟨fb, 0, none⟩) 1 1] 65 1 _ rfl
  have d1 := cell_kept (al _ (.cells #[.int .i64 0, .int .i64 3] 45)) n1
  have g0 := S3.out.b0
  have cT : ∀ t, Hid (Calls Tryz.prog 43 #[.slice (some ⟨cb, 0, none⟩) 1 1, .int .i64 0, .int .i64 0] (((W1.alloc (.cells #[.string ⟨#[97]⟩, .int .i64 0, .slice (some ⟨fb, 0, none⟩) 1 1] 65)).alloc (.cells #[.int .i64 0, .int .i64 3] 45)).drewN t) fun e w' => e = .returned (.string ⟨#[48]⟩) ∧ Below ((W1.alloc (.cells #[.string ⟨#[97]⟩, .int .i64 0, .slice (some ⟨fb, 0, none⟩) 1 1] 65)).alloc (.cells #[.int .i64 0, .int .i64 3] 45)).heap.size ((W1.alloc (.cells #[.string ⟨#[97]⟩, .int .i64 0, .slice (some ⟨fb, 0, none⟩) 1 1] 65)).alloc (.cells #[.int .i64 0, .int .i64 3] 45)) w') := fun t => by
    have h3 := S3.out.net.col
    exact (col_Text cb (((W1.alloc (.cells #[.string ⟨#[97]⟩, .int .i64 0, .slice (some ⟨fb, 0, none⟩) 1 1] 65)).alloc (.cells #[.int .i64 0, .int .i64 3] 45)).drewN t) h3).mono fun e w' ⟨h1, h2⟩ => ⟨h1, below_then (below_drewN' (Below.refl _ _) t) h2⟩
  have R1 := Lib.hid (show ((W1.alloc (.cells #[.string ⟨#[97]⟩, .int .i64 0, .slice (some ⟨fb, 0, none⟩) 1 1] 65)).alloc (.cells #[.int .i64 0, .int .i64 3] 45)).cell? ⟨W1.heap.size + 1, 1, none⟩ = some (.int .i64 3) by
    have h := cell_new (W1.alloc (.cells #[.string ⟨#[97]⟩, .int .i64 0, .slice (some ⟨fb, 0, none⟩) 1 1] 65)) #[.int .i64 0, .int .i64 3] 45 1 _ rfl
    rwa [show (W1.alloc (.cells #[.string ⟨#[97]⟩, .int .i64 0, .slice (some ⟨fb, 0, none⟩) 1 1] 65)).heap.size = W1.heap.size + 1 by simp] at h)
  have cI := Lib.hid itoa_3
  clear al n1 k0 s0 hW1 hN hM hr
  go_enter Tryz.func20, Tryz.ntmps20
  go_wp2
  rw [← HW1.out]
  refine wp_loop_rounds 3 ?_
  rw [rounds_succ]
  go_wp2
  clear p0 p1 p2 p3 p4 p5 g1 S1 HW1
  go_loopw [8, 40] (fun s v wr => (v = .int .i64 0 ∧ s = .string (⟨#[97]⟩ ++ ⟨#[58]⟩) ∧ wr = (W1.alloc (.cells #[.string ⟨#[97]⟩, .int .i64 0, .slice (some ⟨fb, 0, none⟩) 1 1] 65))) ∨ (v = .int .i64 1 ∧ s = .string ⟨#[97, 58, 32, 48, 42, 51]⟩ ∧ Hid (RtS w cb fb pb (some ⟨b, o, none⟩) c [⟨some ⟨bb, oo, none⟩, 1, c0, [(0, 3)]⟩, ⟨D, 0, c1, []⟩] wr))) (fun _ v _ => 1 - (RowKit.intOf v).toNat)
  case atStart => exact .inl ⟨rfl, rfl, rfl⟩
  case round =>
    rcases hrel with ⟨rfl, rfl, rfl⟩ | ⟨rfl, rfl, S4⟩
    · clear AL m0
      go_wp2
      clear z0 z1 S2
      go_region_with (first
        | (go_at_call 43; refine (cT _).out.mono ?_; rintro e w4 ⟨rfl, hb4⟩; have S4 := Lib.hid (S3.out.go hb4); have q4 := cell_kept hb4 R1.out; clear hb4)
        | (go_at_call 44; refine (cI.out _).mono ?_; rintro e w' ⟨rfl, rfl⟩))
      all_goals
        clear cT d1 g0 S3 R1 cI
        go_wp2
        go_roundw
        case rel => exact .inr ⟨rfl, by rfl, S4.out⟩
        case measure => simp [RowKit.intOf]
    clear m0 z0 z1 S2 d1 g0 S3 R1 cI cT
    obtain ⟨wc, hwc⟩ : ∃ W, W = wr := ⟨_, rfl⟩
    rw [← hwc] at S4 ⊢
    clear hwc
    have hone := Lib.hid (show ∀ u ∈ [Value.string ⟨#[97, 58, 32, 48, 42, 51]⟩], u.oneCell' = true by intro u hu; rw [List.mem_singleton] at hu; subst hu; rfl)
    go_wp2_with (at_builtin; refine wpList_append_sl strs_ty rfl (.tmp 60) (.tmp 62) rfl wc.heap.size rfl (by exact World.ownsRow_nil _ _ _ _) rfl (by exact Sl.new _ _ [Value.string ⟨#[97, 58, 32, 48, 42, 51]⟩] 1 1 rfl (by omega)) hone.out (by omega) (by omega) (by simp) ?_; intro v6 w6 hown6 hg6 hat6; obtain ⟨A7, c7, rfl, _, _⟩ := own_form hown6; have HO6 := Lib.hid hown6; have HB6 := Lib.hid (((Below.refl wc.heap.size wc).alloc (Nat.le_refl _) (.cells #[.string ⟨#[97, 58, 32, 48, 42, 51]⟩] 9)).grown hg6 (by simp) (fun q hq => by cases hq)); clear hown6 hg6 hat6)
    have S6 := Lib.hid (S4.out.go HB6.out)
    obtain ⟨p0, p1, p2, p3, p4, p5⟩ := S6.out.net.cells
    have a7 := AL.out w6 (.cells #[.string ⟨#[98]⟩, .int .i64 0, .slice none 0 0] 65)
    have S7 := Lib.hid (S6.out.go a7)
    have O7 := Lib.hid (own_below HO6.out a7)
    obtain ⟨b2, o2, e2, m1⟩ : ∃ b2 o2, (some ⟨b, o, none⟩ : Option Addr) = some ⟨b2, o2, none⟩ ∧ (w6.alloc (.cells #[.string ⟨#[98]⟩, .int .i64 0, .slice none 0 0] 65)).cell? ⟨b2, o2 + 1, none⟩ = some (.slice D 0 c1) := by
      obtain ⟨b2, o2, e, hc⟩ := S7.out.mkg.sl.at_ (by omega)
      exact ⟨b2, o2, e, hc 1 _ rfl⟩
    injection e2 with e2
    injection e2 with e2 e3
    subst e2 e3
    rw [rounds_succ]
    go_wp2
    rw [rounds_succ]
    clear p0 p1 p2 p3 p4 p5
    obtain ⟨q7, cp7, e7⟩ := Joins.ownsRow_form O7.out (by omega)
    injection e7 with e7 _ e8
    subst e7 e8
    have hcl := O7.out.cells (g := q7) rfl
    have hce := Lib.hid (show ∀ (j : Nat) x, ([⟨#[97, 58, 32, 48, 42, 51]⟩] : List ByteArray)[j]? = some x → (w6.alloc (.cells #[.string ⟨#[98]⟩, .int .i64 0, .slice none 0 0] 65)).cell? ⟨q7, 0 + j, none⟩ = some (.string x) from fun j x hj => by
      have h := hcl j (.string x) (by
        match j, hj with
        | 0, hj =>
          have e := (Option.some.inj hj).symm
          subst e
          rfl
        | j + 1, hj => simp at hj)
      rwa [Go.WideShapes.add_plain] at h)
    have hcap := Lib.hid (show 1 ≤ c7 by
      obtain ⟨_, _, e, h, _⟩ := own_form O7.out
      cases e
      exact h)
    clear hcl
    have hlt7 := (O7.out.lt q7 rfl).2
    go_wp2_with (go_at_call 45; refine (Tryz.strings_Join q7 0 c7 [⟨#[97, 58, 32, 48, 42, 51]⟩] ⟨#[44, 32]⟩ _ hce.out hlt7 (by simp) hcap.out (by decide +kernel)).mono ?_; rintro e w8 ⟨rfl, hb8⟩; have S8 := Lib.hid (S7.out.go hb8); clear hb8)
    go_ret
    exact ⟨by rfl, S8.out.bel⟩
end Go.Proofs.YtajcleobmgjhoaaGreatDoor
