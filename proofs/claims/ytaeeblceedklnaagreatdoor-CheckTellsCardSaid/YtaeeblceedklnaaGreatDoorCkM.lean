/- Law 08: small. Printed by gen_ckC.py. -/
import Derived.Test.YtaeeblceedklnaaGreatDoorCkS
namespace Go.Proofs.YtaeeblceedklnaaGreatDoor
open Go.RowKit
theorem p_net0 : netE (someN 0) = (0, 0, 0) := by decide +kernel
theorem p_net5 : netE (someN 5) = (3, 0, 3) := by decide +kernel
theorem p_binds : bindsE (someN 0) 0 = 4 := by decide +kernel
theorem p_task : taskE (someN 0) 1 = 3 := by decide +kernel
theorem p_takers : usersK (takersB (someN 0) 0) 1 = [0] := by decide +kernel
theorem p_givers : usersK (giversB (someN 0) 0) 1 = [] := by decide +kernel
theorem p_small (c : Int) : SmallN (someN c) := by
  intro k hk
  have e : k = 0 := by have : k < 1 := hk; omega
  subst e
  refine ⟨(show sizeT exOne ≤ 1000000 by decide +kernel), fun j hj => ?_, fun j hj => ?_⟩
  · have e : j = 0 := by have : j < 1 := hj; omega
    subst e
    exact (show sizeT exX ≤ 1000000 by decide +kernel)
  · have e : j = 0 := by have : j < 1 := hj; omega
    subst e
    exact (show sizeT exX ≤ 1000000 by decide +kernel)
theorem p_left : 1 + 3 + leftO (someN 0) [] 1 ≤ 1000000 := by decide +kernel
theorem reach_some {x : Int} : ReachP (someN 0) x ↔ x = 0 ∨ x = 1 := by
  constructor
  · intro h
    induction h with
    | from_ => exact .inl rfl
    | first k hk hf =>
      have h3 : k < 3 := hk
      match k, h3, hf with
      | 0, _, _ => exact .inl rfl
      | 1, _, hf => exact absurd rfl hf
      | 2, _, hf => exact absurd rfl hf
      | k + 3, h3, _ => exact absurd h3 (by omega)
    | step k hk a ha _ c hc _ =>
      have e : k = 0 := by have : k < 1 := hk; omega
      subst e
      have : c = ⟨1, exX⟩ := by simpa [someN] using hc
      rw [this]
      exact .inr rfl
  · rintro (rfl | rfl)
    · exact ReachP.from_ (N := someN 0)
    · exact ReachP.step (N := someN 0) 0 (by decide) ⟨0, exX⟩ (by simp [someN]) (ReachP.from_ (N := someN 0)) ⟨1, exX⟩ (by simp [someN])
theorem p_places {l : List Int} (h : RowOf l (ReachP (someN 0))) : l = [0, 1] :=
  h.uniq ⟨by decide, fun x => by rw [reach_some]; simp⟩
theorem p_tasks {l : List Int} (h : RowOf l (ReachT (someN 0))) : l = [0] :=
  h.uniq ⟨by decide, fun x => by
    rw [List.mem_singleton]
    constructor
    · rintro rfl
      exact ⟨0, rfl, by decide, ⟨0, exX⟩, by simp [someN], reach_some.2 (.inl rfl)⟩
    · rintro ⟨j, rfl, hj, _⟩
      have : j < 1 := hj
      omega⟩
theorem ints_lit (w : World) (l : List Int) (n : Nat) (h : l.length = n) (hn : n ≤ 100) : Sl (w.alloc (.cells (intCells l).toArray 3)) (.slice (some ⟨w.heap.size, 0, none⟩) n n) n 1 (intCells l) := Sl.new w 3 (intCells l) n 1 (by rw [intCells_len, h, Nat.mul_one]) (by omega)
theorem ints_same (A B : Option Addr) (n c d : Nat) (l : List Int) (w : World) (hA : Hid (Sl w (.slice A n c) n 1 (intCells l))) (hB : Hid (Sl w (.slice B n d) n 1 (intCells l))) (hn : n ≤ 100) :
    Calls Tryz.prog 22 #[.slice A n c, .slice B n d] w fun e w' => e = .returned (.bool true) ∧ Below w.heap.size w w' :=
  (ref_Ints A B n n c d l l w hA hB (by omega) (by omega)).mono fun e w' ⟨h1, k, h2⟩ => ⟨by rw [h1]; simp, by rw [h2]; exact below_drewN' (Below.refl _ _) k⟩
theorem new_lit {l m : List Int} {n : Nat} (e : l = m) (hn : m.length = n) {P : Program} {f : FuncId} {args : Array Value} {w : World} (h : Calls P f args w (NewInts l w)) :
    Calls P f args w fun e w' => ∃ A c, e = .returned (.slice A n c) ∧ Hid (Sl w' (.slice A n c) n 1 (intCells m)) ∧ Hid (Below w.heap.size w w') := by
  subst e
  subst hn
  exact h.mono fun e w' ⟨A, c, h1, h2, h3⟩ => ⟨A, c, h1, Lib.hid (Sl.of_own h2), Lib.hid h3⟩
set_option maxRecDepth 100000 in
set_option maxHeartbeats 8000000 in
theorem law_small (w : World) (ht : Hid (TabOk w)) : Calls Tryz.prog 7 #[] w fun e w' => e = .returned (.bool true) ∧ Below w.heap.size w w' := by
  have hz : I64 0 := i64_small (by omega) (by omega)
  have HI5 := Lib.hid (i64_small (x := 5) (by omega) (by omega))
  have HI0 := Lib.hid hz
  have eP := fun W : World => (show (binOp .eql 30 (.agg #[.int .i64 3, .int .i64 0]) (.agg #[.int .i64 3, .int .i64 0])).run Tryz.prog W = .ok (.bool true) W by kernel_rfl)
  clear hz
  go_enter Tryz.func7, Tryz.ntmps7
  go_wp2_with fail
  refine (law_some w).mono ?_
  rintro e w1 ⟨rfl, hS1, hB1⟩
  have HB2 := Lib.hid (below_then hB1.out (alr w1 (.cells #[.slice (some ⟨w.heap.size + 3, 0, none⟩) 1 1, .slice (some ⟨w.heap.size + 5, 0, none⟩) 3 3, .slice (some ⟨w.heap.size + 9, 0, none⟩) 1 1, .int .i64 0, .int .i64 1] 26)))
  have HS2 := Lib.hid (hS1.out.below (alr w1 (.cells #[.slice (some ⟨w.heap.size + 3, 0, none⟩) 1 1, .slice (some ⟨w.heap.size + 5, 0, none⟩) 3 3, .slice (some ⟨w.heap.size + 9, 0, none⟩) 1 1, .int .i64 0, .int .i64 1] 26)))
  have NB2 := Lib.hid (NBox.new w1 (some ⟨w.heap.size + 3, 0, none⟩) 1 1 (some ⟨w.heap.size + 5, 0, none⟩) 3 3 (some ⟨w.heap.size + 9, 0, none⟩) 1 1 0 1 26)
  have LT1 := Lib.hid (show w1.heap.size < (w1.alloc (.cells #[.slice (some ⟨w.heap.size + 3, 0, none⟩) 1 1, .slice (some ⟨w.heap.size + 5, 0, none⟩) 3 3, .slice (some ⟨w.heap.size + 9, 0, none⟩) 1 1, .int .i64 0, .int .i64 1] 26)).heap.size by rw [World.size_alloc]; omega)
  obtain ⟨w2, hw2⟩ : ∃ y, y = w1.alloc (.cells #[.slice (some ⟨w.heap.size + 3, 0, none⟩) 1 1, .slice (some ⟨w.heap.size + 5, 0, none⟩) 3 3, .slice (some ⟨w.heap.size + 9, 0, none⟩) 1 1, .int .i64 0, .int .i64 1] 26) := ⟨_, rfl⟩
  rw [← hw2] at HB2 HS2 NB2 LT1
  obtain ⟨g1, hg1⟩ : ∃ y, y = w1.heap.size := ⟨_, rfl⟩
  rw [← hg1] at NB2 LT1
  have HW2 := Lib.hid hw2.symm
  have HG1 := Lib.hid hg1.symm
  obtain ⟨x0, x1, x2, x3, x4⟩ := NB2.out
  clear hw2 hg1 hS1
  go_upto_region 2 with fail
  rw [HW2.out, HG1.out]
  go_wp2_with fail
  refine (ck_Net (N := someN 0) w2 (Lib.hid (ht.out.below HB2.out)) (Lib.hid (HS2.out.net HI0.out)) (Lib.hid (p_small 0))).mono ?_
  rw [p_net0]
  rintro e w3 ⟨rfl, hb3⟩
  have HB3 := Lib.hid (below_then HB2.out hb3)
  have HC3 := Lib.hid hb3
  clear hb3 x0 x1 x2 x3 x4
  go_wp2_with fail
  refine (law_some (w3.alloc (.cells #[.int .i64 0, .int .i64 0] 30))).mono ?_
  have HB4 := Lib.hid (below_then HB3.out (alr w3 (.cells #[.int .i64 0, .int .i64 0] 30)))
  have HC4 := Lib.hid (below_then HC3.out (alr w3 (.cells #[.int .i64 0, .int .i64 0] 30)))
  obtain ⟨w4, hw4⟩ : ∃ y, y = w3.alloc (.cells #[.int .i64 0, .int .i64 0] 30) := ⟨_, rfl⟩
  rw [← hw4] at HB4 HC4 ⊢
  clear hw4
  rintro e w5 ⟨rfl, hS5, hB5⟩
  have HB6 := Lib.hid (below_then hB5.out (alr w5 (.cells #[.slice (some ⟨w4.heap.size + 3, 0, none⟩) 1 1, .slice (some ⟨w4.heap.size + 5, 0, none⟩) 3 3, .slice (some ⟨w4.heap.size + 9, 0, none⟩) 1 1, .int .i64 0, .int .i64 1] 26)))
  have HS6 := Lib.hid (hS5.out.below (alr w5 (.cells #[.slice (some ⟨w4.heap.size + 3, 0, none⟩) 1 1, .slice (some ⟨w4.heap.size + 5, 0, none⟩) 3 3, .slice (some ⟨w4.heap.size + 9, 0, none⟩) 1 1, .int .i64 0, .int .i64 1] 26)))
  have NB6 := Lib.hid (NBox.new w5 (some ⟨w4.heap.size + 3, 0, none⟩) 1 1 (some ⟨w4.heap.size + 5, 0, none⟩) 3 3 (some ⟨w4.heap.size + 9, 0, none⟩) 1 1 0 1 26)
  have LT5 := Lib.hid (show w4.heap.size + 5 < w5.heap.size from World.block_lt_of_cell? w5 ⟨w4.heap.size + 5, 0, none⟩ (hS5.out.b5 0 _ rfl))
  obtain ⟨w6, hw6⟩ : ∃ y, y = w5.alloc (.cells #[.slice (some ⟨w4.heap.size + 3, 0, none⟩) 1 1, .slice (some ⟨w4.heap.size + 5, 0, none⟩) 3 3, .slice (some ⟨w4.heap.size + 9, 0, none⟩) 1 1, .int .i64 0, .int .i64 1] 26) := ⟨_, rfl⟩
  rw [← hw6] at HB6 HS6 NB6
  obtain ⟨g5, hg5⟩ : ∃ y, y = w5.heap.size := ⟨_, rfl⟩
  rw [← hg5] at NB6 LT5
  have HW6 := Lib.hid hw6.symm
  have HG5 := Lib.hid hg5.symm
  have x1 := NB6.out.c1
  have y1 : w6.cell? ⟨w4.heap.size + 5, 1, none⟩ = some (.int .i64 0) := HS6.out.b5 1 _ rfl
  have y2 := HS6.out.f5
  clear hw6 hg5 hS5
  go_upto_region 4 with fail
  rw [HW6.out, HG5.out]
  go_upto_region 5 with fail
  have HS7 := Lib.hid (HS6.out.set 5)
  have NB7 := Lib.hid (show NBox (w6.setCell ⟨w4.heap.size + 5, 1, none⟩ (.int .i64 5)) g5 (some ⟨w4.heap.size + 3, 0, none⟩) 1 1 (some ⟨w4.heap.size + 5, 0, none⟩) 3 3 (some ⟨w4.heap.size + 9, 0, none⟩) 1 1 0 1 from NB6.out.same (Below.heap_setCell _ _ _ _ (by have := LT5.out; show g5 ≠ w4.heap.size + 5; omega)))
  have HB7 := Lib.hid (show Below w4.heap.size w4 (w6.setCell ⟨w4.heap.size + 5, 1, none⟩ (.int .i64 5)) from HB6.out.setCell (by show w4.heap.size ≤ w4.heap.size + 5; omega) _)
  obtain ⟨w7, hw7⟩ : ∃ y, y = w6.setCell ⟨w4.heap.size + 5, 1, none⟩ (.int .i64 5) := ⟨_, rfl⟩
  rw [← hw7] at HS7 NB7 HB7
  rw [← hw7]
  have HA7 := Lib.hid (below_then HB4.out HB7.out)
  have HC7 := Lib.hid (below_then HC4.out HB7.out)
  clear hw7 x1 y1 y2
  obtain ⟨x0, x1, x2, x3, x4⟩ := NB7.out
  go_wp2_with fail
  refine (ck_Net (N := someN 5) w7 (Lib.hid (ht.out.below HA7.out)) (Lib.hid (HS7.out.net HI5.out)) (Lib.hid (p_small 5))).mono ?_
  rw [p_net5]
  rintro e w8 ⟨rfl, hb8⟩
  have HB8 := Lib.hid (below_then hb8 (alr w8 (.cells #[.int .i64 3, .int .i64 0] 30)))
  have P9 := Lib.hid (And.intro (cell_new w8 #[.int .i64 3, .int .i64 0] 30 0 _ rfl) (cell_new w8 #[.int .i64 3, .int .i64 0] 30 1 _ rfl))
  obtain ⟨w9, hw9⟩ : ∃ y, y = w8.alloc (.cells #[.int .i64 3, .int .i64 0] 30) := ⟨_, rfl⟩
  obtain ⟨g8, hg8⟩ : ∃ y, y = w8.heap.size := ⟨_, rfl⟩
  rw [← hw9] at HB8 P9
  rw [← hg8] at P9
  have HW9 := Lib.hid hw9.symm
  have HG8 := Lib.hid hg8.symm
  have HC9 := Lib.hid (below_then HC7.out HB8.out)
  have HA9 := Lib.hid (below_then HA7.out HB8.out)
  have NB9 := Lib.hid (NB2.out.below HC9.out)
  have HS9 := Lib.hid (HS2.out.below HC9.out)
  clear hb8 hw9 hg8 x0 x1 x2 x3 x4 NB6 NB7 HS6 HS7 HB6 HB7
  go_upto_region 6 with fail
  rw [HW9.out, HG8.out]
  obtain ⟨x0, x1, x2, x3, x4⟩ := NB9.out
  go_wp2_with fail
  refine (ck_Reached (N := someN 0) w9 (Lib.hid (HS9.out.net HI0.out)) (by omega) p_left).mono ?_
  rintro e w10 ⟨A, c, p, B, d, t, rfl, hp, htk, hsp, hst, hb⟩
  have ep := p_places hp
  have et := p_tasks htk
  subst ep
  subst et
  have HSP := Lib.hid hsp
  have HST := Lib.hid hst
  have HC10 := Lib.hid (below_then HC9.out hb)
  have HA10 := Lib.hid (below_then HA9.out hb)
  have q0 := cell_kept hb P9.out.1
  have q1 := cell_kept hb P9.out.2
  have NB10 := Lib.hid (NB2.out.below HC10.out)
  have HS10 := Lib.hid (HS2.out.below HC10.out)
  clear hp htk hsp hst hb x0 x1 x2 x3 x4
  obtain ⟨x0, x1, x2, x3, x4⟩ := NB10.out
  go_wp2_with fail
  refine (ck_Binds (N := someN 0) 0 w10 (Lib.hid (HS10.out.net HI0.out))).mono ?_
  rw [p_binds]
  rintro e w11 ⟨rfl, hb⟩
  have HC11 := Lib.hid (below_then HC10.out hb)
  have HA11 := Lib.hid (below_then HA10.out hb)
  have HS11 := Lib.hid (HS2.out.below HC11.out)
  clear x0 x1 x2 x3 x4
  obtain ⟨x0, x1, x2, x3, x4⟩ := NB2.out.below HC11.out
  have HSP11 := Lib.hid (HSP.out.below hb)
  have HST11 := Lib.hid (HST.out.below hb)
  clear hb q0 q1
  go_wp2_with fail
  refine (new_lit p_takers rfl (ck_takers (N := someN 0) 0 w11 (Lib.hid (HS11.out.net HI0.out)) (by omega))).mono ?_
  rintro e w12 ⟨A1, c1, rfl, hs1, hb⟩
  have HC12 := Lib.hid (below_then HC11.out hb.out)
  have HA12 := Lib.hid (below_then HA11.out hb.out)
  have HS12 := Lib.hid (HS2.out.below HC12.out)
  clear x0 x1 x2 x3 x4
  obtain ⟨x0, x1, x2, x3, x4⟩ := NB2.out.below HC12.out
  have HSP12 := Lib.hid (HSP11.out.below hb.out)
  have HST12 := Lib.hid (HST11.out.below hb.out)
  have al0 := alr w12 (.cells (intCells [0]).toArray 3)
  have cI := Lib.hid (ints_same A1 (some ⟨w12.heap.size, 0, none⟩) 1 c1 1 [0] _ (Lib.hid (hs1.out.below al0)) (Lib.hid (ints_lit w12 [0] 1 rfl (by omega))) (by omega))
  have AL := Lib.hid al0
  clear al0
  go_wp2_with fail
  refine cI.out.mono ?_
  rintro e w13 ⟨rfl, hb2⟩
  have hb3 := below_then AL.out hb2
  have HC13 := Lib.hid (below_then HC12.out hb3)
  have HA13 := Lib.hid (below_then HA12.out hb3)
  have HS13 := Lib.hid (HS2.out.below HC13.out)
  clear x0 x1 x2 x3 x4
  obtain ⟨x0, x1, x2, x3, x4⟩ := NB2.out.below HC13.out
  have HSP13 := Lib.hid (HSP12.out.below hb3)
  have HST13 := Lib.hid (HST12.out.below hb3)
  clear hb2 hb3
  go_wp2_with fail
  refine (new_lit p_givers rfl (ck_givers (N := someN 0) 0 w13 (Lib.hid (HS13.out.net HI0.out)) (by omega))).mono ?_
  rintro e w14 ⟨A2, c2, rfl, hs2, hb4⟩
  have HC14 := Lib.hid (below_then HC13.out hb4.out)
  have HA14 := Lib.hid (below_then HA13.out hb4.out)
  have HS14 := Lib.hid (HS2.out.below HC14.out)
  clear x0 x1 x2 x3 x4
  obtain ⟨x0, x1, x2, x3, x4⟩ := NB2.out.below HC14.out
  have al0 := alr w14 (.cells (intCells [0, 1]).toArray 3)
  have cI2 := Lib.hid (ints_same A (some ⟨w14.heap.size, 0, none⟩) 2 c 2 [0, 1] _ (Lib.hid ((HSP13.out.below hb4.out).below al0)) (Lib.hid (ints_lit w14 [0, 1] 2 rfl (by omega))) (by omega))
  have AL2 := Lib.hid al0
  have HST14 := Lib.hid (HST13.out.below hb4.out)
  clear al0
  go_wp2_with fail
  refine cI2.out.mono ?_
  rintro e w15 ⟨rfl, hb5⟩
  have hb6 := below_then AL2.out hb5
  have HC15 := Lib.hid (below_then HC14.out hb6)
  have HA15 := Lib.hid (below_then HA14.out hb6)
  have HS15 := Lib.hid (HS2.out.below HC15.out)
  clear x0 x1 x2 x3 x4
  obtain ⟨x0, x1, x2, x3, x4⟩ := NB2.out.below HC15.out
  have al0 := alr w15 (.cells (intCells [0]).toArray 3)
  have cI3 := Lib.hid (ints_same B (some ⟨w15.heap.size, 0, none⟩) 1 d 1 [0] _ (Lib.hid ((HST14.out.below hb6).below al0)) (Lib.hid (ints_lit w15 [0] 1 rfl (by omega))) (by omega))
  have AL3 := Lib.hid al0
  clear al0 hb5 hb6
  go_wp2_with fail
  refine cI3.out.mono ?_
  rintro e w16 ⟨rfl, hb7⟩
  have hb8 := below_then AL3.out hb7
  have HC16 := Lib.hid (below_then HC15.out hb8)
  have HA16 := Lib.hid (below_then HA15.out hb8)
  have HS16 := Lib.hid (HS2.out.below HC16.out)
  clear x0 x1 x2 x3 x4
  obtain ⟨x0, x1, x2, x3, x4⟩ := NB2.out.below HC16.out
  clear hb7 hb8
  go_wp2_with fail
  refine (ck_Task (N := someN 0) 1 w16 (Lib.hid (ht.out.below HA16.out)) (Lib.hid (HS16.out.net HI0.out)) (Lib.hid (p_small 0))).mono ?_
  rw [p_task]
  rintro e w17 ⟨rfl, hb9⟩
  have HEND := Lib.hid (below_then HA16.out hb9)
  clear hb9 x0 x1 x2 x3 x4
  go_wp2_with fail
  go_ret
  exact ⟨rfl, HEND.out⟩
end Go.Proofs.YtaeeblceedklnaaGreatDoor
