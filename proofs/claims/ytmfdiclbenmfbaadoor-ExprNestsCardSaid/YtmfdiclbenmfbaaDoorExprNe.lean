/- Law ExprNests: the walk. Printed by gen_law_nests.py. -/
import Derived.Test.YtmfdiclbenmfbaaDoorExprNa
namespace Go.Proofs.YtmfdiclbenmfbaaDoor
open Go.RowKit
theorem one_row {w : World} {k n : Int} (hk : I64 k) (hn : I64 n) {t : Tr} {A : Option Addr} {m c : Nat} (h : TrAt w A m c t) : TrAt (w.alloc (.cells #[.int .i64 t.kind, .int .i64 t.num, .slice A m c] 24)) (some ⟨w.heap.size, 0, none⟩) 1 1 (.mk k n [t]) :=
  tr_new hk hn [(t, A, m, c)] (by simp) (fun x hx => by simp only [List.mem_cons, List.not_mem_nil, or_false] at hx; subst hx; exact h)
theorem two_rows {w : World} (k : Int) (hk : I64 k) {t : Tr} {A : Option Addr} {m c : Nat} (h : TrAt w A m c t) : TrAt ((w.alloc (.cells #[.int .i64 t.kind, .int .i64 t.num, .slice A m c] 24)).alloc (.cells #[.int .i64 k, .int .i64 0, .slice (some ⟨w.heap.size, 0, none⟩) 1 1] 24)) (some ⟨w.heap.size + 1, 0, none⟩) 1 1 (.mk k 0 [.mk k 0 [t]]) := by
  have e : (w.alloc (.cells #[.int .i64 t.kind, .int .i64 t.num, .slice A m c] 24)).heap.size = w.heap.size + 1 := World.size_alloc _ _
  have h2 := one_row (w := w.alloc (.cells #[.int .i64 t.kind, .int .i64 t.num, .slice A m c] 24)) (k := k) (n := 0) hk (by decide) (one_row hk (show I64 0 by decide) h)
  rw [e] at h2
  exact h2
theorem three_row {w : World} {t f : Tr} {A B : Option Addr} {m c n d : Nat} (h : TrAt w A m c t) (h2 : TrAt w B n d f) : TrAt (w.alloc (.cells #[.int .i64 t.kind, .int .i64 t.num, .slice A m c, .int .i64 f.kind, .int .i64 f.num, .slice B n d, .int .i64 t.kind, .int .i64 t.num, .slice A m c] 24)) (some ⟨w.heap.size, 0, none⟩) 3 3 (ifT t f) :=
  tr_new (k := 6) (n := 0) (by decide) (by decide) [(t, A, m, c), (f, B, n, d), (t, A, m, c)] (by simp) (fun x hx => by
    simp only [List.mem_cons, List.not_mem_nil, or_false] at hx
    rcases hx with rfl | rfl | rfl
    · exact h
    · exact h2
    · exact h)
set_option maxRecDepth 100000 in
set_option maxHeartbeats 16000000 in
theorem law_ExprNests (t : Tr) (A : Option Addr) (m c : Nat) (f : Tr) (B : Option Addr) (n d : Nat) (EA : Option Addr) (en ec : Nat) (env : List Int) (w : World) (h : Hid (TrAt w A m c t)) (hb0 : Hid (TrAt w B n d f)) (he : Hid (EnvAt w EA en ec env)) (htab : Hid (∀ W, Below w.heap.size w W → TabT W)) :
    Calls Tryd.prog 7 #[t.val A m c, f.val B n d, .slice EA en ec] w fun e w' => e = .returned (.bool true) ∧ Below w.heap.size w w' := by
  have bal0 := al1 w (.cells #[.int .i64 t.kind, .int .i64 t.num, .slice A m c] 24)
  have hz0 : (w.alloc (.cells #[.int .i64 t.kind, .int .i64 t.num, .slice A m c] 24)).heap.size = w.heap.size + 1 := by rw [World.size_alloc]
  have k00 := cell_new w #[.int .i64 t.kind, .int .i64 t.num, .slice A m c] 24 0 _ rfl
  have k01 := cell_new w #[.int .i64 t.kind, .int .i64 t.num, .slice A m c] 24 1 _ rfl
  have k02 := cell_new w #[.int .i64 t.kind, .int .i64 t.num, .slice A m c] 24 2 _ rfl
  have bal1 := below_then bal0 (al1 (w.alloc (.cells #[.int .i64 t.kind, .int .i64 t.num, .slice A m c] 24)) (.cells #[.int .i64 f.kind, .int .i64 f.num, .slice B n d] 24))
  have hz1 : ((w.alloc (.cells #[.int .i64 t.kind, .int .i64 t.num, .slice A m c] 24)).alloc (.cells #[.int .i64 f.kind, .int .i64 f.num, .slice B n d] 24)).heap.size = w.heap.size + 1 + 1 := by rw [World.size_alloc, hz0]
  have k10 := cell_new (w.alloc (.cells #[.int .i64 t.kind, .int .i64 t.num, .slice A m c] 24)) #[.int .i64 f.kind, .int .i64 f.num, .slice B n d] 24 0 _ rfl
  have k11 := cell_new (w.alloc (.cells #[.int .i64 t.kind, .int .i64 t.num, .slice A m c] 24)) #[.int .i64 f.kind, .int .i64 f.num, .slice B n d] 24 1 _ rfl
  have k12 := cell_new (w.alloc (.cells #[.int .i64 t.kind, .int .i64 t.num, .slice A m c] 24)) #[.int .i64 f.kind, .int .i64 f.num, .slice B n d] 24 2 _ rfl
  rw [hz0] at k10 k11 k12
  have k00 := cell_kept (al1 (w.alloc (.cells #[.int .i64 t.kind, .int .i64 t.num, .slice A m c] 24)) (.cells #[.int .i64 f.kind, .int .i64 f.num, .slice B n d] 24)) k00
  have k01 := cell_kept (al1 (w.alloc (.cells #[.int .i64 t.kind, .int .i64 t.num, .slice A m c] 24)) (.cells #[.int .i64 f.kind, .int .i64 f.num, .slice B n d] 24)) k01
  have k02 := cell_kept (al1 (w.alloc (.cells #[.int .i64 t.kind, .int .i64 t.num, .slice A m c] 24)) (.cells #[.int .i64 f.kind, .int .i64 f.num, .slice B n d] 24)) k02
  obtain ⟨w1, hw1⟩ : ∃ w1, w1 = ((w.alloc (.cells #[.int .i64 t.kind, .int .i64 t.num, .slice A m c] 24)).alloc (.cells #[.int .i64 f.kind, .int .i64 f.num, .slice B n d] 24)) := ⟨_, rfl⟩
  obtain ⟨g, hg⟩ : ∃ g, g = w.heap.size := ⟨_, rfl⟩
  have HW1 := Lib.hid hw1
  have HG := Lib.hid hg
  rw [← hw1] at bal1 k00 k01 k02 k10 k11 k12
  rw [← hg] at k00 k01 k02 k10 k11 k12
  have HB1 := Lib.hid bal1
  have HE := Lib.hid (show ∀ W, Below w1.heap.size w1 W → W.cell? ⟨g, 0, none⟩ = some (.int .i64 t.kind) ∧ W.cell? ⟨g, 1, none⟩ = some (.int .i64 t.num) ∧ W.cell? ⟨g, 2, none⟩ = some (.slice A m c) ∧ W.cell? ⟨g + 1, 0, none⟩ = some (.int .i64 f.kind) ∧ W.cell? ⟨g + 1, 1, none⟩ = some (.int .i64 f.num) ∧ W.cell? ⟨g + 1, 2, none⟩ = some (.slice B n d) from fun W h => ⟨cell_kept h k00, cell_kept h k01, cell_kept h k02, cell_kept h k10, cell_kept h k11, cell_kept h k12⟩)
  clear bal0 hz0 bal1 hz1 hw1 hg
  have RFL := Lib.hid (Below.refl w1.heap.size w1)
  have HT := Lib.hid (fun W (hb : Below w1.heap.size w1 W) => Lib.hid (h.out.kept (below_then HB1.out hb)))
  have HTB := Lib.hid (fun W (hb : Below w1.heap.size w1 W) => Lib.hid (hb0.out.kept (below_then HB1.out hb)))
  have HV := Lib.hid (fun W (hb : Below w1.heap.size w1 W) => Lib.hid (he.out.kept (below_then HB1.out hb)))
  have hel := he.out.len
  by_cases hf : 0 < fewT t 60
  case neg =>
    have df := decide_eq_false hf
    clear hf
    go_enter Tryd.func7, Tryd.ntmps7
    go_upto_region 1 with fail
    rw [← HG.out, ← HW1.out]
    go_wp2_with fail
    refine (law_small w1 (Lib.hid (fun W h => htab.out W (below_then HB1.out h)))).mono ?_
    rintro e u1 ⟨rfl, hb⟩
    have HU1 := Lib.hid (below_then RFL.out hb)
    clear hb
    clear k00 k01 k02 k10 k11 k12
    obtain ⟨k00, k01, k02, k10, k11, k12⟩ := HE.out _ HU1.out
    go_wp2_with fail
    refine (law_Few t A m c u1 (HT.out _ HU1.out)).mono ?_
    rintro e u2 ⟨rfl, hb⟩
    have HU2 := Lib.hid (below_then HU1.out hb)
    clear hb
    clear k00 k01 k02 k10 k11 k12
    obtain ⟨k00, k01, k02, k10, k11, k12⟩ := HE.out _ HU2.out
    go_wp2_with fail
    refine (law_Few f B n d u2 (HTB.out _ HU2.out)).mono ?_
    rintro e u3 ⟨rfl, hb⟩
    have HU3 := Lib.hid (below_then HU2.out hb)
    clear hb
    clear k00 k01 k02 k10 k11 k12
    obtain ⟨k00, k01, k02, k10, k11, k12⟩ := HE.out _ HU3.out
    go_wp2_with fail
    go_ret
    exact ⟨rfl, below_then HB1.out HU3.out⟩
  have hs := few_sz hf
  have df := decide_eq_true hf
  by_cases hf2 : 0 < fewT f 60
  case neg =>
    have df2 := decide_eq_false hf2
    clear hf hf2
    go_enter Tryd.func7, Tryd.ntmps7
    go_upto_region 1 with fail
    rw [← HG.out, ← HW1.out]
    go_wp2_with fail
    refine (law_small w1 (Lib.hid (fun W h => htab.out W (below_then HB1.out h)))).mono ?_
    rintro e u1 ⟨rfl, hb⟩
    have HU1 := Lib.hid (below_then RFL.out hb)
    clear hb
    clear k00 k01 k02 k10 k11 k12
    obtain ⟨k00, k01, k02, k10, k11, k12⟩ := HE.out _ HU1.out
    go_wp2_with fail
    refine (law_Few t A m c u1 (HT.out _ HU1.out)).mono ?_
    rintro e u2 ⟨rfl, hb⟩
    have HU2 := Lib.hid (below_then HU1.out hb)
    clear hb
    clear k00 k01 k02 k10 k11 k12
    obtain ⟨k00, k01, k02, k10, k11, k12⟩ := HE.out _ HU2.out
    go_wp2_with fail
    refine (law_Few f B n d u2 (HTB.out _ HU2.out)).mono ?_
    rintro e u3 ⟨rfl, hb⟩
    have HU3 := Lib.hid (below_then HU2.out hb)
    clear hb
    clear k00 k01 k02 k10 k11 k12
    obtain ⟨k00, k01, k02, k10, k11, k12⟩ := HE.out _ HU3.out
    go_wp2_with fail
    go_ret
    exact ⟨rfl, below_then HB1.out HU3.out⟩
  have hs2 := few_sz hf2
  have df2 := decide_eq_true hf2
  by_cases hn : en ≤ 16
  case neg =>
    have dn : (16 : Int) < (en : Int) := by omega
    clear hn hf hf2
    go_enter Tryd.func7, Tryd.ntmps7
    go_upto_region 1 with fail
    rw [← HG.out, ← HW1.out]
    go_wp2_with fail
    refine (law_small w1 (Lib.hid (fun W h => htab.out W (below_then HB1.out h)))).mono ?_
    rintro e u1 ⟨rfl, hb⟩
    have HU1 := Lib.hid (below_then RFL.out hb)
    clear hb
    clear k00 k01 k02 k10 k11 k12
    obtain ⟨k00, k01, k02, k10, k11, k12⟩ := HE.out _ HU1.out
    go_wp2_with fail
    refine (law_Few t A m c u1 (HT.out _ HU1.out)).mono ?_
    rintro e u2 ⟨rfl, hb⟩
    have HU2 := Lib.hid (below_then HU1.out hb)
    clear hb
    clear k00 k01 k02 k10 k11 k12
    obtain ⟨k00, k01, k02, k10, k11, k12⟩ := HE.out _ HU2.out
    go_wp2_with fail
    refine (law_Few f B n d u2 (HTB.out _ HU2.out)).mono ?_
    rintro e u3 ⟨rfl, hb⟩
    have HU3 := Lib.hid (below_then HU2.out hb)
    clear hb
    clear k00 k01 k02 k10 k11 k12
    obtain ⟨k00, k01, k02, k10, k11, k12⟩ := HE.out _ HU3.out
    go_wp2_with fail
    go_ret
    exact ⟨rfl, below_then HB1.out HU3.out⟩
  have dn : (en : Int) ≤ 16 := by omega
  have CD1 := Lib.hid (fun W (hb : Below w1.heap.size w1 W) => (show Calls Tryd.prog 13 #[t.val A m c] W fun e w' => e = .returned (.int .i64 (depthT t)) ∧ Below W.heap.size W w' from ex_Depth t.sz t (Nat.le_refl _) A m c W (HT.out _ hb) hs))
  have CD2 := Lib.hid (fun W (hb : Below w1.heap.size w1 W) => (show Calls Tryd.prog 13 #[f.val B n d] W fun e w' => e = .returned (.int .i64 (depthT f)) ∧ Below W.heap.size W w' from ex_Depth f.sz f (Nat.le_refl _) B n d W (HTB.out _ hb) hs2))
  have CS1 := Lib.hid (fun W (hb : Below w1.heap.size w1 W) => (show Calls Tryd.prog 15 #[t.val A m c] W fun e w' => e = .returned (.int .i64 (sizeT t)) ∧ Below W.heap.size W w' from ex_Size t.sz t (Nat.le_refl _) A m c W (HT.out _ hb) hs))
  have CS2 := Lib.hid (fun W (hb : Below w1.heap.size w1 W) => (show Calls Tryd.prog 15 #[f.val B n d] W fun e w' => e = .returned (.int .i64 (sizeT f)) ∧ Below W.heap.size W w' from ex_Size f.sz f (Nat.le_refl _) B n d W (HTB.out _ hb) hs2))
  have CR1 := Lib.hid (fun W (hb : Below w1.heap.size w1 W) => ex_Right en t A m c W (HT.out _ hb) hs)
  have CR2 := Lib.hid (fun W (hb : Below w1.heap.size w1 W) => ex_Right en f B n d W (HTB.out _ hb) hs2)
  obtain ⟨x1, hx1⟩ : ∃ x, x = depthT t := ⟨_, rfl⟩
  obtain ⟨x2, hx2⟩ : ∃ x, x = depthT f := ⟨_, rfl⟩
  obtain ⟨x3, hx3⟩ : ∃ x, x = sizeT t := ⟨_, rfl⟩
  obtain ⟨x4, hx4⟩ : ∃ x, x = sizeT f := ⟨_, rfl⟩
  rw [← hx1] at CD1
  rw [← hx2] at CD2
  rw [← hx3] at CS1
  rw [← hx4] at CS2
  have HX1 := Lib.hid hx1
  have HX2 := Lib.hid hx2
  have HX3 := Lib.hid hx3
  have HX4 := Lib.hid hx4
  have HEL := Lib.hid hel
  clear hx1 hx2 hx3 hx4 hel hn hf hf2
  by_cases lx1 : x1 ≤ 35
  case neg =>
    have gx1 : (35 : Int) < (x1 : Int) := by omega
    clear lx1
    go_enter Tryd.func7, Tryd.ntmps7
    go_upto_region 1 with fail
    rw [← HG.out, ← HW1.out]
    go_wp2_with fail
    refine (law_small w1 (Lib.hid (fun W h => htab.out W (below_then HB1.out h)))).mono ?_
    rintro e u1 ⟨rfl, hb⟩
    have HU1 := Lib.hid (below_then RFL.out hb)
    clear hb
    clear k00 k01 k02 k10 k11 k12
    obtain ⟨k00, k01, k02, k10, k11, k12⟩ := HE.out _ HU1.out
    go_wp2_with fail
    refine (law_Few t A m c u1 (HT.out _ HU1.out)).mono ?_
    rintro e u2 ⟨rfl, hb⟩
    have HU2 := Lib.hid (below_then HU1.out hb)
    clear hb
    clear k00 k01 k02 k10 k11 k12
    obtain ⟨k00, k01, k02, k10, k11, k12⟩ := HE.out _ HU2.out
    go_wp2_with fail
    refine (law_Few f B n d u2 (HTB.out _ HU2.out)).mono ?_
    rintro e u3 ⟨rfl, hb⟩
    have HU3 := Lib.hid (below_then HU2.out hb)
    clear hb
    clear k00 k01 k02 k10 k11 k12
    obtain ⟨k00, k01, k02, k10, k11, k12⟩ := HE.out _ HU3.out
    go_wp2_with fail
    refine (CD1.out u3 HU3.out).mono ?_
    rintro e u4 ⟨rfl, hb⟩
    have HU4 := Lib.hid (below_then HU3.out hb)
    clear hb
    clear k00 k01 k02 k10 k11 k12
    obtain ⟨k00, k01, k02, k10, k11, k12⟩ := HE.out _ HU4.out
    go_wp2_with fail
    go_ret
    exact ⟨rfl, below_then HB1.out HU4.out⟩
  have gx1 : (x1 : Int) ≤ 35 := by omega
  by_cases lx2 : x2 ≤ 35
  case neg =>
    have gx2 : (35 : Int) < (x2 : Int) := by omega
    clear lx2
    go_enter Tryd.func7, Tryd.ntmps7
    go_upto_region 1 with fail
    rw [← HG.out, ← HW1.out]
    go_wp2_with fail
    refine (law_small w1 (Lib.hid (fun W h => htab.out W (below_then HB1.out h)))).mono ?_
    rintro e u1 ⟨rfl, hb⟩
    have HU1 := Lib.hid (below_then RFL.out hb)
    clear hb
    clear k00 k01 k02 k10 k11 k12
    obtain ⟨k00, k01, k02, k10, k11, k12⟩ := HE.out _ HU1.out
    go_wp2_with fail
    refine (law_Few t A m c u1 (HT.out _ HU1.out)).mono ?_
    rintro e u2 ⟨rfl, hb⟩
    have HU2 := Lib.hid (below_then HU1.out hb)
    clear hb
    clear k00 k01 k02 k10 k11 k12
    obtain ⟨k00, k01, k02, k10, k11, k12⟩ := HE.out _ HU2.out
    go_wp2_with fail
    refine (law_Few f B n d u2 (HTB.out _ HU2.out)).mono ?_
    rintro e u3 ⟨rfl, hb⟩
    have HU3 := Lib.hid (below_then HU2.out hb)
    clear hb
    clear k00 k01 k02 k10 k11 k12
    obtain ⟨k00, k01, k02, k10, k11, k12⟩ := HE.out _ HU3.out
    go_wp2_with fail
    refine (CD1.out u3 HU3.out).mono ?_
    rintro e u4 ⟨rfl, hb⟩
    have HU4 := Lib.hid (below_then HU3.out hb)
    clear hb
    clear k00 k01 k02 k10 k11 k12
    obtain ⟨k00, k01, k02, k10, k11, k12⟩ := HE.out _ HU4.out
    go_wp2_with fail
    refine (CD2.out u4 HU4.out).mono ?_
    rintro e u5 ⟨rfl, hb⟩
    have HU5 := Lib.hid (below_then HU4.out hb)
    clear hb
    clear k00 k01 k02 k10 k11 k12
    obtain ⟨k00, k01, k02, k10, k11, k12⟩ := HE.out _ HU5.out
    go_wp2_with fail
    go_ret
    exact ⟨rfl, below_then HB1.out HU5.out⟩
  have gx2 : (x2 : Int) ≤ 35 := by omega
  by_cases lx3 : x3 ≤ 120
  case neg =>
    have gx3 : (120 : Int) < (x3 : Int) := by omega
    clear lx3
    go_enter Tryd.func7, Tryd.ntmps7
    go_upto_region 1 with fail
    rw [← HG.out, ← HW1.out]
    go_wp2_with fail
    refine (law_small w1 (Lib.hid (fun W h => htab.out W (below_then HB1.out h)))).mono ?_
    rintro e u1 ⟨rfl, hb⟩
    have HU1 := Lib.hid (below_then RFL.out hb)
    clear hb
    clear k00 k01 k02 k10 k11 k12
    obtain ⟨k00, k01, k02, k10, k11, k12⟩ := HE.out _ HU1.out
    go_wp2_with fail
    refine (law_Few t A m c u1 (HT.out _ HU1.out)).mono ?_
    rintro e u2 ⟨rfl, hb⟩
    have HU2 := Lib.hid (below_then HU1.out hb)
    clear hb
    clear k00 k01 k02 k10 k11 k12
    obtain ⟨k00, k01, k02, k10, k11, k12⟩ := HE.out _ HU2.out
    go_wp2_with fail
    refine (law_Few f B n d u2 (HTB.out _ HU2.out)).mono ?_
    rintro e u3 ⟨rfl, hb⟩
    have HU3 := Lib.hid (below_then HU2.out hb)
    clear hb
    clear k00 k01 k02 k10 k11 k12
    obtain ⟨k00, k01, k02, k10, k11, k12⟩ := HE.out _ HU3.out
    go_wp2_with fail
    refine (CD1.out u3 HU3.out).mono ?_
    rintro e u4 ⟨rfl, hb⟩
    have HU4 := Lib.hid (below_then HU3.out hb)
    clear hb
    clear k00 k01 k02 k10 k11 k12
    obtain ⟨k00, k01, k02, k10, k11, k12⟩ := HE.out _ HU4.out
    go_wp2_with fail
    refine (CD2.out u4 HU4.out).mono ?_
    rintro e u5 ⟨rfl, hb⟩
    have HU5 := Lib.hid (below_then HU4.out hb)
    clear hb
    clear k00 k01 k02 k10 k11 k12
    obtain ⟨k00, k01, k02, k10, k11, k12⟩ := HE.out _ HU5.out
    go_wp2_with fail
    refine (CS1.out u5 HU5.out).mono ?_
    rintro e u6 ⟨rfl, hb⟩
    have HU6 := Lib.hid (below_then HU5.out hb)
    clear hb
    clear k00 k01 k02 k10 k11 k12
    obtain ⟨k00, k01, k02, k10, k11, k12⟩ := HE.out _ HU6.out
    go_wp2_with fail
    go_ret
    exact ⟨rfl, below_then HB1.out HU6.out⟩
  have gx3 : (x3 : Int) ≤ 120 := by omega
  by_cases lx4 : x4 ≤ 120
  case neg =>
    have gx4 : (120 : Int) < (x4 : Int) := by omega
    clear lx4
    go_enter Tryd.func7, Tryd.ntmps7
    go_upto_region 1 with fail
    rw [← HG.out, ← HW1.out]
    go_wp2_with fail
    refine (law_small w1 (Lib.hid (fun W h => htab.out W (below_then HB1.out h)))).mono ?_
    rintro e u1 ⟨rfl, hb⟩
    have HU1 := Lib.hid (below_then RFL.out hb)
    clear hb
    clear k00 k01 k02 k10 k11 k12
    obtain ⟨k00, k01, k02, k10, k11, k12⟩ := HE.out _ HU1.out
    go_wp2_with fail
    refine (law_Few t A m c u1 (HT.out _ HU1.out)).mono ?_
    rintro e u2 ⟨rfl, hb⟩
    have HU2 := Lib.hid (below_then HU1.out hb)
    clear hb
    clear k00 k01 k02 k10 k11 k12
    obtain ⟨k00, k01, k02, k10, k11, k12⟩ := HE.out _ HU2.out
    go_wp2_with fail
    refine (law_Few f B n d u2 (HTB.out _ HU2.out)).mono ?_
    rintro e u3 ⟨rfl, hb⟩
    have HU3 := Lib.hid (below_then HU2.out hb)
    clear hb
    clear k00 k01 k02 k10 k11 k12
    obtain ⟨k00, k01, k02, k10, k11, k12⟩ := HE.out _ HU3.out
    go_wp2_with fail
    refine (CD1.out u3 HU3.out).mono ?_
    rintro e u4 ⟨rfl, hb⟩
    have HU4 := Lib.hid (below_then HU3.out hb)
    clear hb
    clear k00 k01 k02 k10 k11 k12
    obtain ⟨k00, k01, k02, k10, k11, k12⟩ := HE.out _ HU4.out
    go_wp2_with fail
    refine (CD2.out u4 HU4.out).mono ?_
    rintro e u5 ⟨rfl, hb⟩
    have HU5 := Lib.hid (below_then HU4.out hb)
    clear hb
    clear k00 k01 k02 k10 k11 k12
    obtain ⟨k00, k01, k02, k10, k11, k12⟩ := HE.out _ HU5.out
    go_wp2_with fail
    refine (CS1.out u5 HU5.out).mono ?_
    rintro e u6 ⟨rfl, hb⟩
    have HU6 := Lib.hid (below_then HU5.out hb)
    clear hb
    clear k00 k01 k02 k10 k11 k12
    obtain ⟨k00, k01, k02, k10, k11, k12⟩ := HE.out _ HU6.out
    go_wp2_with fail
    refine (CS2.out u6 HU6.out).mono ?_
    rintro e u7 ⟨rfl, hb⟩
    have HU7 := Lib.hid (below_then HU6.out hb)
    clear hb
    clear k00 k01 k02 k10 k11 k12
    obtain ⟨k00, k01, k02, k10, k11, k12⟩ := HE.out _ HU7.out
    go_wp2_with fail
    go_ret
    exact ⟨rfl, below_then HB1.out HU7.out⟩
  have gx4 : (x4 : Int) ≤ 120 := by omega
  rcases hrt : rightT en t with _ | _
  case false =>
    rw [hrt] at CR1
    clear hrt lx1 lx2 lx3 lx4
    go_enter Tryd.func7, Tryd.ntmps7
    go_upto_region 1 with fail
    rw [← HG.out, ← HW1.out]
    go_wp2_with fail
    refine (law_small w1 (Lib.hid (fun W h => htab.out W (below_then HB1.out h)))).mono ?_
    rintro e u1 ⟨rfl, hb⟩
    have HU1 := Lib.hid (below_then RFL.out hb)
    clear hb
    clear k00 k01 k02 k10 k11 k12
    obtain ⟨k00, k01, k02, k10, k11, k12⟩ := HE.out _ HU1.out
    go_wp2_with fail
    refine (law_Few t A m c u1 (HT.out _ HU1.out)).mono ?_
    rintro e u2 ⟨rfl, hb⟩
    have HU2 := Lib.hid (below_then HU1.out hb)
    clear hb
    clear k00 k01 k02 k10 k11 k12
    obtain ⟨k00, k01, k02, k10, k11, k12⟩ := HE.out _ HU2.out
    go_wp2_with fail
    refine (law_Few f B n d u2 (HTB.out _ HU2.out)).mono ?_
    rintro e u3 ⟨rfl, hb⟩
    have HU3 := Lib.hid (below_then HU2.out hb)
    clear hb
    clear k00 k01 k02 k10 k11 k12
    obtain ⟨k00, k01, k02, k10, k11, k12⟩ := HE.out _ HU3.out
    go_wp2_with fail
    refine (CD1.out u3 HU3.out).mono ?_
    rintro e u4 ⟨rfl, hb⟩
    have HU4 := Lib.hid (below_then HU3.out hb)
    clear hb
    clear k00 k01 k02 k10 k11 k12
    obtain ⟨k00, k01, k02, k10, k11, k12⟩ := HE.out _ HU4.out
    go_wp2_with fail
    refine (CD2.out u4 HU4.out).mono ?_
    rintro e u5 ⟨rfl, hb⟩
    have HU5 := Lib.hid (below_then HU4.out hb)
    clear hb
    clear k00 k01 k02 k10 k11 k12
    obtain ⟨k00, k01, k02, k10, k11, k12⟩ := HE.out _ HU5.out
    go_wp2_with fail
    refine (CS1.out u5 HU5.out).mono ?_
    rintro e u6 ⟨rfl, hb⟩
    have HU6 := Lib.hid (below_then HU5.out hb)
    clear hb
    clear k00 k01 k02 k10 k11 k12
    obtain ⟨k00, k01, k02, k10, k11, k12⟩ := HE.out _ HU6.out
    go_wp2_with fail
    refine (CS2.out u6 HU6.out).mono ?_
    rintro e u7 ⟨rfl, hb⟩
    have HU7 := Lib.hid (below_then HU6.out hb)
    clear hb
    clear k00 k01 k02 k10 k11 k12
    obtain ⟨k00, k01, k02, k10, k11, k12⟩ := HE.out _ HU7.out
    go_wp2_with fail
    refine (CR1.out u7 HU7.out).mono ?_
    rintro e u8 ⟨rfl, hb⟩
    have HU8 := Lib.hid (below_then HU7.out hb)
    clear hb
    clear k00 k01 k02 k10 k11 k12
    obtain ⟨k00, k01, k02, k10, k11, k12⟩ := HE.out _ HU8.out
    go_wp2_with fail
    go_ret
    exact ⟨rfl, below_then HB1.out HU8.out⟩
  rw [hrt] at CR1
  have HRt := Lib.hid hrt
  clear hrt
  rcases hrf : rightT en f with _ | _
  case false =>
    rw [hrf] at CR2
    clear hrf lx1 lx2 lx3 lx4
    go_enter Tryd.func7, Tryd.ntmps7
    go_upto_region 1 with fail
    rw [← HG.out, ← HW1.out]
    go_wp2_with fail
    refine (law_small w1 (Lib.hid (fun W h => htab.out W (below_then HB1.out h)))).mono ?_
    rintro e u1 ⟨rfl, hb⟩
    have HU1 := Lib.hid (below_then RFL.out hb)
    clear hb
    clear k00 k01 k02 k10 k11 k12
    obtain ⟨k00, k01, k02, k10, k11, k12⟩ := HE.out _ HU1.out
    go_wp2_with fail
    refine (law_Few t A m c u1 (HT.out _ HU1.out)).mono ?_
    rintro e u2 ⟨rfl, hb⟩
    have HU2 := Lib.hid (below_then HU1.out hb)
    clear hb
    clear k00 k01 k02 k10 k11 k12
    obtain ⟨k00, k01, k02, k10, k11, k12⟩ := HE.out _ HU2.out
    go_wp2_with fail
    refine (law_Few f B n d u2 (HTB.out _ HU2.out)).mono ?_
    rintro e u3 ⟨rfl, hb⟩
    have HU3 := Lib.hid (below_then HU2.out hb)
    clear hb
    clear k00 k01 k02 k10 k11 k12
    obtain ⟨k00, k01, k02, k10, k11, k12⟩ := HE.out _ HU3.out
    go_wp2_with fail
    refine (CD1.out u3 HU3.out).mono ?_
    rintro e u4 ⟨rfl, hb⟩
    have HU4 := Lib.hid (below_then HU3.out hb)
    clear hb
    clear k00 k01 k02 k10 k11 k12
    obtain ⟨k00, k01, k02, k10, k11, k12⟩ := HE.out _ HU4.out
    go_wp2_with fail
    refine (CD2.out u4 HU4.out).mono ?_
    rintro e u5 ⟨rfl, hb⟩
    have HU5 := Lib.hid (below_then HU4.out hb)
    clear hb
    clear k00 k01 k02 k10 k11 k12
    obtain ⟨k00, k01, k02, k10, k11, k12⟩ := HE.out _ HU5.out
    go_wp2_with fail
    refine (CS1.out u5 HU5.out).mono ?_
    rintro e u6 ⟨rfl, hb⟩
    have HU6 := Lib.hid (below_then HU5.out hb)
    clear hb
    clear k00 k01 k02 k10 k11 k12
    obtain ⟨k00, k01, k02, k10, k11, k12⟩ := HE.out _ HU6.out
    go_wp2_with fail
    refine (CS2.out u6 HU6.out).mono ?_
    rintro e u7 ⟨rfl, hb⟩
    have HU7 := Lib.hid (below_then HU6.out hb)
    clear hb
    clear k00 k01 k02 k10 k11 k12
    obtain ⟨k00, k01, k02, k10, k11, k12⟩ := HE.out _ HU7.out
    go_wp2_with fail
    refine (CR1.out u7 HU7.out).mono ?_
    rintro e u8 ⟨rfl, hb⟩
    have HU8 := Lib.hid (below_then HU7.out hb)
    clear hb
    clear k00 k01 k02 k10 k11 k12
    obtain ⟨k00, k01, k02, k10, k11, k12⟩ := HE.out _ HU8.out
    go_wp2_with fail
    refine (CR2.out u8 HU8.out).mono ?_
    rintro e u9 ⟨rfl, hb⟩
    have HU9 := Lib.hid (below_then HU8.out hb)
    clear hb
    clear k00 k01 k02 k10 k11 k12
    obtain ⟨k00, k01, k02, k10, k11, k12⟩ := HE.out _ HU9.out
    go_wp2_with fail
    go_ret
    exact ⟨rfl, below_then HB1.out HU9.out⟩
  rw [hrf] at CR2
  have HRf := Lib.hid hrf
  clear hrf
  obtain ⟨V1, V2, V3, V4, V5⟩ := nest_eval env t f (by rw [← HX1.out]; exact lx1) (by rw [← HX3.out]; exact lx3) (by rw [HEL.out]; exact HRt.out) (by rw [← HX2.out]; exact lx2) (by rw [← HX4.out]; exact lx4) (by rw [HEL.out]; exact HRf.out)
  have hI := ev_in en he.out.ok t.sz t (Nat.le_refl _) h.out (right_parts HRt.out)
  obtain ⟨⟨nv, bad⟩, hP1⟩ : ∃ P, P = evT env t := ⟨_, rfl⟩
  obtain ⟨⟨mv, worse⟩, hP2⟩ : ∃ P, P = evT env f := ⟨_, rfl⟩
  obtain ⟨⟨av, xv⟩, hP3⟩ : ∃ P, P = evT env (notT t) := ⟨_, rfl⟩
  obtain ⟨⟨bv, yv⟩, hP4⟩ : ∃ P, P = evT env (negT t) := ⟨_, rfl⟩
  obtain ⟨⟨cv, zv⟩, hP5⟩ : ∃ P, P = evT env (ifT t f) := ⟨_, rfl⟩
  rw [← hP1] at hI V4
  rw [← hP2] at V5
  rw [← hP3] at V1
  rw [← hP4] at V2
  rw [← hP5] at V3
  have CE1 := Lib.hid (fun W (hb : Below w1.heap.size w1 W) => (show Calls Tryd.prog 22 #[t.val A m c, .slice EA en ec] W (EvP W (nv, bad)) by rw [← V4]; exact ex_Eval env t A m c W EA en ec (HT.out _ hb) (HV.out _ hb) hs))
  have CE2 := Lib.hid (fun W (hb : Below w1.heap.size w1 W) => (show Calls Tryd.prog 22 #[f.val B n d, .slice EA en ec] W (EvP W (mv, worse)) by rw [← V5]; exact ex_Eval env f B n d W EA en ec (HTB.out _ hb) (HV.out _ hb) hs2))
  have sz3 : sizeT (notT t) ≤ 1000000 := by simp only [notT, sizeT, sizeL]; rw [← HX3.out]; omega
  have sz4 : sizeT (negT t) ≤ 1000000 := by simp only [negT, sizeT, sizeL]; rw [← HX3.out]; omega
  have sz5 : sizeT (ifT t f) ≤ 1000000 := by simp only [ifT, sizeT, sizeL]; rw [← HX3.out, ← HX4.out]; omega
  have CE3 := Lib.hid (fun W r (hT : TrAt W (some ⟨r, 0, none⟩) 1 1 (notT t)) (hb : Below w1.heap.size w1 W) => (show Calls Tryd.prog 22 #[e3 4 0 (some ⟨r, 0, none⟩) 1 1, .slice EA en ec] W (EvP W (av, xv)) by rw [← V1]; exact ex_Eval env (notT t) _ 1 1 W EA en ec hT (HV.out _ hb) sz3))
  have CE4 := Lib.hid (fun W r (hT : TrAt W (some ⟨r, 0, none⟩) 1 1 (negT t)) (hb : Below w1.heap.size w1 W) => (show Calls Tryd.prog 22 #[e3 3 0 (some ⟨r, 0, none⟩) 1 1, .slice EA en ec] W (EvP W (bv, yv)) by rw [← V2]; exact ex_Eval env (negT t) _ 1 1 W EA en ec hT (HV.out _ hb) sz4))
  have CE5 := Lib.hid (fun W r (hT : TrAt W (some ⟨r, 0, none⟩) 3 3 (ifT t f)) (hb : Below w1.heap.size w1 W) => (show Calls Tryd.prog 22 #[e3 6 0 (some ⟨r, 0, none⟩) 3 3, .slice EA en ec] W (EvP W (cv, zv)) by rw [← V3]; exact ex_Eval env (ifT t f) _ 3 3 W EA en ec hT (HV.out _ hb) sz5))
  clear V1 V2 V3 V4 V5 sz3 sz4 sz5 lx1 lx2 lx3 lx4
  have hfin : (bad ≠ 0 ∧ xv = bad ∧ yv = bad ∧ zv = bad) ∨ (bad = 0 ∧ nv = 0 ∧ av = 0 ∧ xv = 0 ∧ bv = 0 ∧ yv = 0 ∧ cv = 0 ∧ zv = 0) ∨ (bad = 0 ∧ nv ≠ 0 ∧ av = 1 ∧ xv = 0 ∧ bv = nv ∧ yv = 0 ∧ cv = mv ∧ zv = worse) ∨ (bad = 0 ∧ nv = -9223372036854775808 ∧ av = 1 ∧ xv = 0 ∧ yv = 6 ∧ cv = mv ∧ zv = worse) := by
    by_cases hb : bad = 0
    · subst hb
      have q1 := nest_not env t hP1.symm
      have q2 := nest_if env t f hP1.symm hP2.symm
      have q3 := nest_neg env t hI hP1.symm
      rw [← hP3] at q1
      rw [← hP5] at q2
      rw [← hP4] at q3
      by_cases h0 : nv = 0
      · subst h0
        rw [if_pos rfl] at q1 q2
        obtain ⟨rfl, rfl⟩ := Prod.mk.inj q1
        obtain ⟨rfl, rfl⟩ := Prod.mk.inj q2
        rcases q3 with ⟨q, _⟩ | q3
        · cases q
        · obtain ⟨rfl, rfl⟩ := Prod.mk.inj q3
          exact .inr (.inl ⟨rfl, rfl, rfl, rfl, rfl, rfl, rfl, rfl⟩)
      · rw [if_neg h0] at q1 q2
        obtain ⟨rfl, rfl⟩ := Prod.mk.inj q1
        obtain ⟨rfl, rfl⟩ := Prod.mk.inj q2
        rcases q3 with ⟨q, q4⟩ | q3
        · exact .inr (.inr (.inr ⟨rfl, q, rfl, rfl, q4, rfl, rfl⟩))
        · obtain ⟨rfl, rfl⟩ := Prod.mk.inj q3
          exact .inr (.inr (.inl ⟨rfl, h0, rfl, rfl, rfl, rfl, rfl, rfl⟩))
    · obtain ⟨q1, q2, q3⟩ := nest_bad env t f hP1.symm hP2.symm hb
      rw [← hP3] at q1
      rw [← hP4] at q2
      rw [← hP5] at q3
      exact .inl ⟨hb, (Prod.mk.inj q1).2, (Prod.mk.inj q2).2, (Prod.mk.inj q3).2⟩
  clear hP1 hP2 hP3 hP4 hP5 hI
  have HFI := Lib.hid hfin
  clear hfin
  go_enter Tryd.func7, Tryd.ntmps7
  go_upto_region 1 with fail
  rw [← HG.out, ← HW1.out]
  go_wp2_with fail
  refine (law_small w1 (Lib.hid (fun W h => htab.out W (below_then HB1.out h)))).mono ?_
  rintro e u1 ⟨rfl, hb⟩
  have HU1 := Lib.hid (below_then RFL.out hb)
  clear hb
  clear k00 k01 k02 k10 k11 k12
  obtain ⟨k00, k01, k02, k10, k11, k12⟩ := HE.out _ HU1.out
  go_wp2_with fail
  refine (law_Few t A m c u1 (HT.out _ HU1.out)).mono ?_
  rintro e u2 ⟨rfl, hb⟩
  have HU2 := Lib.hid (below_then HU1.out hb)
  clear hb
  clear k00 k01 k02 k10 k11 k12
  obtain ⟨k00, k01, k02, k10, k11, k12⟩ := HE.out _ HU2.out
  go_wp2_with fail
  refine (law_Few f B n d u2 (HTB.out _ HU2.out)).mono ?_
  rintro e u3 ⟨rfl, hb⟩
  have HU3 := Lib.hid (below_then HU2.out hb)
  clear hb
  clear k00 k01 k02 k10 k11 k12
  obtain ⟨k00, k01, k02, k10, k11, k12⟩ := HE.out _ HU3.out
  go_wp2_with fail
  refine (CD1.out u3 HU3.out).mono ?_
  rintro e u4 ⟨rfl, hb⟩
  have HU4 := Lib.hid (below_then HU3.out hb)
  clear hb
  clear k00 k01 k02 k10 k11 k12
  obtain ⟨k00, k01, k02, k10, k11, k12⟩ := HE.out _ HU4.out
  go_wp2_with fail
  refine (CD2.out u4 HU4.out).mono ?_
  rintro e u5 ⟨rfl, hb⟩
  have HU5 := Lib.hid (below_then HU4.out hb)
  clear hb
  clear k00 k01 k02 k10 k11 k12
  obtain ⟨k00, k01, k02, k10, k11, k12⟩ := HE.out _ HU5.out
  go_wp2_with fail
  refine (CS1.out u5 HU5.out).mono ?_
  rintro e u6 ⟨rfl, hb⟩
  have HU6 := Lib.hid (below_then HU5.out hb)
  clear hb
  clear k00 k01 k02 k10 k11 k12
  obtain ⟨k00, k01, k02, k10, k11, k12⟩ := HE.out _ HU6.out
  go_wp2_with fail
  refine (CS2.out u6 HU6.out).mono ?_
  rintro e u7 ⟨rfl, hb⟩
  have HU7 := Lib.hid (below_then HU6.out hb)
  clear hb
  clear k00 k01 k02 k10 k11 k12
  obtain ⟨k00, k01, k02, k10, k11, k12⟩ := HE.out _ HU7.out
  go_wp2_with fail
  refine (CR1.out u7 HU7.out).mono ?_
  rintro e u8 ⟨rfl, hb⟩
  have HU8 := Lib.hid (below_then HU7.out hb)
  clear hb
  clear k00 k01 k02 k10 k11 k12
  obtain ⟨k00, k01, k02, k10, k11, k12⟩ := HE.out _ HU8.out
  go_wp2_with fail
  refine (CR2.out u8 HU8.out).mono ?_
  rintro e u9 ⟨rfl, hb⟩
  have HU9 := Lib.hid (below_then HU8.out hb)
  clear hb
  clear k00 k01 k02 k10 k11 k12
  obtain ⟨k00, k01, k02, k10, k11, k12⟩ := HE.out _ HU9.out
  go_wp2_with fail
  refine (CE1.out u9 HU9.out).mono ?_
  rintro e u10 ⟨rfl, hb⟩
  have HU10 := Lib.hid (below_then HU9.out hb)
  clear hb
  clear k00 k01 k02 k10 k11 k12
  obtain ⟨k00, k01, k02, k10, k11, k12⟩ := HE.out _ HU10.out
  go_wp2_with fail
  refine (CE2.out u10 HU10.out).mono ?_
  rintro e u11 ⟨rfl, hb⟩
  have HU11 := Lib.hid (below_then HU10.out hb)
  clear hb
  clear k00 k01 k02 k10 k11 k12
  obtain ⟨k00, k01, k02, k10, k11, k12⟩ := HE.out _ HU11.out
  go_upto_region 9 with fail
  have sz1 : (u11.alloc (.cells #[.int .i64 t.kind, .int .i64 t.num, .slice A m c] 24)).heap.size = u11.heap.size + 1 := World.size_alloc _ _
  have sz2 : ((u11.alloc (.cells #[.int .i64 t.kind, .int .i64 t.num, .slice A m c] 24)).alloc (.cells #[.int .i64 4, .int .i64 0, .slice (some ⟨u11.heap.size, 0, none⟩) 1 1] 24)).heap.size = u11.heap.size + 1 + 1 := by rw [World.size_alloc, sz1]
  have HU12 := Lib.hid (bl_alloc (bl_alloc (bl_alloc HU11.out (.cells #[.int .i64 t.kind, .int .i64 t.num, .slice A m c] 24)) (.cells #[.int .i64 4, .int .i64 0, .slice (some ⟨u11.heap.size, 0, none⟩) 1 1] 24)) (.cells #[.int .i64 4, .int .i64 0, .slice (some ⟨u11.heap.size + 1, 0, none⟩) 1 1] 24))
  have HQ12 := Lib.hid (bl_alloc (bl_alloc (al1 u11 (.cells #[.int .i64 t.kind, .int .i64 t.num, .slice A m c] 24)) (.cells #[.int .i64 4, .int .i64 0, .slice (some ⟨u11.heap.size, 0, none⟩) 1 1] 24)) (.cells #[.int .i64 4, .int .i64 0, .slice (some ⟨u11.heap.size + 1, 0, none⟩) 1 1] 24))
  have HTX := Lib.hid ((two_rows (w := u11) 4 (by decide) (HT.out _ HU11.out).out).kept (al1 _ (.cells #[.int .i64 4, .int .i64 0, .slice (some ⟨u11.heap.size + 1, 0, none⟩) 1 1] 24)))
  have b0 := cell_new ((u11.alloc (.cells #[.int .i64 t.kind, .int .i64 t.num, .slice A m c] 24)).alloc (.cells #[.int .i64 4, .int .i64 0, .slice (some ⟨u11.heap.size, 0, none⟩) 1 1] 24)) #[.int .i64 4, .int .i64 0, .slice (some ⟨u11.heap.size + 1, 0, none⟩) 1 1] 24 0 _ rfl
  have b1 := cell_new ((u11.alloc (.cells #[.int .i64 t.kind, .int .i64 t.num, .slice A m c] 24)).alloc (.cells #[.int .i64 4, .int .i64 0, .slice (some ⟨u11.heap.size, 0, none⟩) 1 1] 24)) #[.int .i64 4, .int .i64 0, .slice (some ⟨u11.heap.size + 1, 0, none⟩) 1 1] 24 1 _ rfl
  have b2 := cell_new ((u11.alloc (.cells #[.int .i64 t.kind, .int .i64 t.num, .slice A m c] 24)).alloc (.cells #[.int .i64 4, .int .i64 0, .slice (some ⟨u11.heap.size, 0, none⟩) 1 1] 24)) #[.int .i64 4, .int .i64 0, .slice (some ⟨u11.heap.size + 1, 0, none⟩) 1 1] 24 2 _ rfl
  rw [sz2] at b0 b1 b2
  obtain ⟨u12, hu⟩ : ∃ u, u = ((u11.alloc (.cells #[.int .i64 t.kind, .int .i64 t.num, .slice A m c] 24)).alloc (.cells #[.int .i64 4, .int .i64 0, .slice (some ⟨u11.heap.size, 0, none⟩) 1 1] 24)).alloc (.cells #[.int .i64 4, .int .i64 0, .slice (some ⟨u11.heap.size + 1, 0, none⟩) 1 1] 24) := ⟨_, rfl⟩
  obtain ⟨rX, hr⟩ : ∃ r, r = u11.heap.size + 1 := ⟨_, rfl⟩
  rw [← hu] at HU12 HQ12 HTX b0 b1 b2
  rw [← hr] at HTX b0 b1 b2
  rw [← hu, ← hr]
  obtain ⟨bX, hbl⟩ : ∃ r, r = rX + 1 := ⟨_, rfl⟩
  rw [← hbl] at b0 b1 b2
  rw [← hbl]
  have HBX := Lib.hid (show ∀ W, Below u12.heap.size u12 W → W.cell? ⟨bX, 0, none⟩ = some (.int .i64 4) ∧ W.cell? ⟨bX, 1, none⟩ = some (.int .i64 0) ∧ W.cell? ⟨bX, 2, none⟩ = some (.slice (some ⟨rX, 0, none⟩) 1 1) ∧ TrAt W (some ⟨rX, 0, none⟩) 1 1 (notT t) from fun W h => ⟨cell_kept h b0, cell_kept h b1, cell_kept h b2, HTX.out.kept h⟩)
  clear hu hr hbl sz1 sz2 b0 b1 b2
  clear k00 k01 k02 k10 k11 k12
  obtain ⟨k00, k01, k02, k10, k11, k12⟩ := HE.out _ HU12.out
  go_upto_region 10 with fail
  have sz1 : (u12.alloc (.cells #[.int .i64 t.kind, .int .i64 t.num, .slice A m c] 24)).heap.size = u12.heap.size + 1 := World.size_alloc _ _
  have sz2 : ((u12.alloc (.cells #[.int .i64 t.kind, .int .i64 t.num, .slice A m c] 24)).alloc (.cells #[.int .i64 3, .int .i64 0, .slice (some ⟨u12.heap.size, 0, none⟩) 1 1] 24)).heap.size = u12.heap.size + 1 + 1 := by rw [World.size_alloc, sz1]
  have HU13 := Lib.hid (bl_alloc (bl_alloc (bl_alloc HU12.out (.cells #[.int .i64 t.kind, .int .i64 t.num, .slice A m c] 24)) (.cells #[.int .i64 3, .int .i64 0, .slice (some ⟨u12.heap.size, 0, none⟩) 1 1] 24)) (.cells #[.int .i64 3, .int .i64 0, .slice (some ⟨u12.heap.size + 1, 0, none⟩) 1 1] 24))
  have HQ13 := Lib.hid (bl_alloc (bl_alloc (al1 u12 (.cells #[.int .i64 t.kind, .int .i64 t.num, .slice A m c] 24)) (.cells #[.int .i64 3, .int .i64 0, .slice (some ⟨u12.heap.size, 0, none⟩) 1 1] 24)) (.cells #[.int .i64 3, .int .i64 0, .slice (some ⟨u12.heap.size + 1, 0, none⟩) 1 1] 24))
  have HTY := Lib.hid ((two_rows (w := u12) 3 (by decide) (HT.out _ HU12.out).out).kept (al1 _ (.cells #[.int .i64 3, .int .i64 0, .slice (some ⟨u12.heap.size + 1, 0, none⟩) 1 1] 24)))
  have b0 := cell_new ((u12.alloc (.cells #[.int .i64 t.kind, .int .i64 t.num, .slice A m c] 24)).alloc (.cells #[.int .i64 3, .int .i64 0, .slice (some ⟨u12.heap.size, 0, none⟩) 1 1] 24)) #[.int .i64 3, .int .i64 0, .slice (some ⟨u12.heap.size + 1, 0, none⟩) 1 1] 24 0 _ rfl
  have b1 := cell_new ((u12.alloc (.cells #[.int .i64 t.kind, .int .i64 t.num, .slice A m c] 24)).alloc (.cells #[.int .i64 3, .int .i64 0, .slice (some ⟨u12.heap.size, 0, none⟩) 1 1] 24)) #[.int .i64 3, .int .i64 0, .slice (some ⟨u12.heap.size + 1, 0, none⟩) 1 1] 24 1 _ rfl
  have b2 := cell_new ((u12.alloc (.cells #[.int .i64 t.kind, .int .i64 t.num, .slice A m c] 24)).alloc (.cells #[.int .i64 3, .int .i64 0, .slice (some ⟨u12.heap.size, 0, none⟩) 1 1] 24)) #[.int .i64 3, .int .i64 0, .slice (some ⟨u12.heap.size + 1, 0, none⟩) 1 1] 24 2 _ rfl
  rw [sz2] at b0 b1 b2
  obtain ⟨u13, hu⟩ : ∃ u, u = ((u12.alloc (.cells #[.int .i64 t.kind, .int .i64 t.num, .slice A m c] 24)).alloc (.cells #[.int .i64 3, .int .i64 0, .slice (some ⟨u12.heap.size, 0, none⟩) 1 1] 24)).alloc (.cells #[.int .i64 3, .int .i64 0, .slice (some ⟨u12.heap.size + 1, 0, none⟩) 1 1] 24) := ⟨_, rfl⟩
  obtain ⟨rY, hr⟩ : ∃ r, r = u12.heap.size + 1 := ⟨_, rfl⟩
  rw [← hu] at HU13 HQ13 HTY b0 b1 b2
  rw [← hr] at HTY b0 b1 b2
  rw [← hu, ← hr]
  obtain ⟨bY, hbl⟩ : ∃ r, r = rY + 1 := ⟨_, rfl⟩
  rw [← hbl] at b0 b1 b2
  rw [← hbl]
  have HBY := Lib.hid (show ∀ W, Below u13.heap.size u13 W → W.cell? ⟨bY, 0, none⟩ = some (.int .i64 3) ∧ W.cell? ⟨bY, 1, none⟩ = some (.int .i64 0) ∧ W.cell? ⟨bY, 2, none⟩ = some (.slice (some ⟨rY, 0, none⟩) 1 1) ∧ TrAt W (some ⟨rY, 0, none⟩) 1 1 (negT t) from fun W h => ⟨cell_kept h b0, cell_kept h b1, cell_kept h b2, HTY.out.kept h⟩)
  clear hu hr hbl sz1 sz2 b0 b1 b2
  clear k00 k01 k02 k10 k11 k12
  obtain ⟨k00, k01, k02, k10, k11, k12⟩ := HE.out _ HU13.out
  go_upto_region 11 with fail
  have sz1 : (u13.alloc (.cells #[.int .i64 t.kind, .int .i64 t.num, .slice A m c, .int .i64 f.kind, .int .i64 f.num, .slice B n d, .int .i64 t.kind, .int .i64 t.num, .slice A m c] 24)).heap.size = u13.heap.size + 1 := World.size_alloc _ _
  have HU14 := Lib.hid (bl_alloc (bl_alloc HU13.out (.cells #[.int .i64 t.kind, .int .i64 t.num, .slice A m c, .int .i64 f.kind, .int .i64 f.num, .slice B n d, .int .i64 t.kind, .int .i64 t.num, .slice A m c] 24)) (.cells #[.int .i64 6, .int .i64 0, .slice (some ⟨u13.heap.size, 0, none⟩) 3 3] 24))
  have HQ14 := Lib.hid (bl_alloc (al1 u13 (.cells #[.int .i64 t.kind, .int .i64 t.num, .slice A m c, .int .i64 f.kind, .int .i64 f.num, .slice B n d, .int .i64 t.kind, .int .i64 t.num, .slice A m c] 24)) (.cells #[.int .i64 6, .int .i64 0, .slice (some ⟨u13.heap.size, 0, none⟩) 3 3] 24))
  have HTZ := Lib.hid ((three_row (w := u13) (HT.out _ HU13.out).out (HTB.out _ HU13.out).out).kept (al1 _ (.cells #[.int .i64 6, .int .i64 0, .slice (some ⟨u13.heap.size, 0, none⟩) 3 3] 24)))
  have b0 := cell_new (u13.alloc (.cells #[.int .i64 t.kind, .int .i64 t.num, .slice A m c, .int .i64 f.kind, .int .i64 f.num, .slice B n d, .int .i64 t.kind, .int .i64 t.num, .slice A m c] 24)) #[.int .i64 6, .int .i64 0, .slice (some ⟨u13.heap.size, 0, none⟩) 3 3] 24 0 _ rfl
  have b1 := cell_new (u13.alloc (.cells #[.int .i64 t.kind, .int .i64 t.num, .slice A m c, .int .i64 f.kind, .int .i64 f.num, .slice B n d, .int .i64 t.kind, .int .i64 t.num, .slice A m c] 24)) #[.int .i64 6, .int .i64 0, .slice (some ⟨u13.heap.size, 0, none⟩) 3 3] 24 1 _ rfl
  have b2 := cell_new (u13.alloc (.cells #[.int .i64 t.kind, .int .i64 t.num, .slice A m c, .int .i64 f.kind, .int .i64 f.num, .slice B n d, .int .i64 t.kind, .int .i64 t.num, .slice A m c] 24)) #[.int .i64 6, .int .i64 0, .slice (some ⟨u13.heap.size, 0, none⟩) 3 3] 24 2 _ rfl
  rw [sz1] at b0 b1 b2
  obtain ⟨u14, hu⟩ : ∃ u, u = (u13.alloc (.cells #[.int .i64 t.kind, .int .i64 t.num, .slice A m c, .int .i64 f.kind, .int .i64 f.num, .slice B n d, .int .i64 t.kind, .int .i64 t.num, .slice A m c] 24)).alloc (.cells #[.int .i64 6, .int .i64 0, .slice (some ⟨u13.heap.size, 0, none⟩) 3 3] 24) := ⟨_, rfl⟩
  obtain ⟨rZ, hr⟩ : ∃ r, r = u13.heap.size := ⟨_, rfl⟩
  rw [← hu] at HU14 HQ14 HTZ b0 b1 b2
  rw [← hr] at HTZ b0 b1 b2
  rw [← hu, ← hr]
  obtain ⟨bZ, hbl⟩ : ∃ r, r = rZ + 1 := ⟨_, rfl⟩
  rw [← hbl] at b0 b1 b2
  rw [← hbl]
  have HBZ := Lib.hid (show ∀ W, Below u14.heap.size u14 W → W.cell? ⟨bZ, 0, none⟩ = some (.int .i64 6) ∧ W.cell? ⟨bZ, 1, none⟩ = some (.int .i64 0) ∧ W.cell? ⟨bZ, 2, none⟩ = some (.slice (some ⟨rZ, 0, none⟩) 3 3) ∧ TrAt W (some ⟨rZ, 0, none⟩) 3 3 (ifT t f) from fun W h => ⟨cell_kept h b0, cell_kept h b1, cell_kept h b2, HTZ.out.kept h⟩)
  clear hu hr hbl sz1 b0 b1 b2
  clear k00 k01 k02 k10 k11 k12
  have hA14 := below_then HQ13.out HQ14.out
  obtain ⟨q0, q1, q2, hTA⟩ := HBX.out _ hA14
  go_wp2_with fail
  refine (CE3.out u14 rX hTA HU14.out).mono ?_
  rintro e u15 ⟨rfl, hb⟩
  have HQ15 := Lib.hid hb
  have HU15 := Lib.hid (below_then HU14.out hb)
  clear hb q0 q1 q2 hTA hA14
  obtain ⟨q0, q1, q2, hTB⟩ := HBY.out _ (below_then HQ14.out HQ15.out)
  go_wp2_with fail
  refine (CE4.out u15 rY hTB HU15.out).mono ?_
  rintro e u16 ⟨rfl, hb⟩
  have HQ16 := Lib.hid (below_then HQ15.out hb)
  have HU16 := Lib.hid (below_then HU15.out hb)
  clear hb q0 q1 q2 hTB
  obtain ⟨q0, q1, q2, hTC⟩ := HBZ.out _ HQ16.out
  go_wp2_with fail
  refine (CE5.out u16 rZ hTC HU16.out).mono ?_
  rintro e u17 ⟨rfl, hb⟩
  have HU17 := Lib.hid (below_then HU16.out hb)
  clear hb q0 q1 q2 hTC
  have HFIN := HFI
  rcases HFIN.out with ⟨f1, rfl, rfl, rfl⟩ | ⟨rfl, rfl, rfl, rfl, rfl, rfl, rfl, rfl⟩ | ⟨rfl, f1, rfl, rfl, rfl, rfl, rfl, rfl⟩ | ⟨rfl, rfl, rfl, rfl, rfl, rfl, rfl⟩
  · have fb : (zv != 0) = true := by simpa using f1
    clear f1 HFIN
    go_wp2_with fail
    all_goals
      go_ret
      exact ⟨by first | rfl | simp, below_then HB1.out HU17.out⟩
  · clear HFIN
    go_wp2_with fail
    all_goals
      go_ret
      exact ⟨by first | rfl | simp, below_then HB1.out HU17.out⟩
  · have fb : (bv != 0) = true := by simpa using f1
    have fb2 : (bv == 0) = false := by simpa using f1
    clear f1 HFIN
    go_wp2_with fail
    all_goals
      go_ret
      exact ⟨by first | rfl | simp, below_then HB1.out HU17.out⟩
  · clear HFIN
    go_wp2_with fail
    all_goals
      go_ret
      exact ⟨by first | rfl | simp, below_then HB1.out HU17.out⟩
end Go.Proofs.YtmfdiclbenmfbaaDoor
