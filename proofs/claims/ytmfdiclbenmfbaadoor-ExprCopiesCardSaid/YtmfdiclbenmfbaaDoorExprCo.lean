/- Law ExprCopies: the walk. Printed by gen_law_copies.py. -/
import Derived.Test.YtmfdiclbenmfbaaDoorExprRc
import Derived.Test.YtmfdiclbenmfbaaDoorExprSp
import Derived.Test.YtmfdiclbenmfbaaDoorExprEv
import Derived.Test.YtmfdiclbenmfbaaDoorExprY
namespace Go.Proofs.YtmfdiclbenmfbaaDoor
open Go.RowKit
theorem z_facts (w : World) : let W := w.alloc (.cells #[.int .i64 0, .int .i64 0, .slice none 0 0] 24); W.cell? ⟨w.heap.size, 0, none⟩ = some (.int .i64 0) ∧ W.cell? ⟨w.heap.size, 1, none⟩ = some (.int .i64 0) ∧ W.cell? ⟨w.heap.size, 2, none⟩ = some (.slice none 0 0) ∧ W.frozen? ⟨w.heap.size, 0, none⟩ = false ∧ W.frozen? ⟨w.heap.size, 1, none⟩ = false ∧ W.frozen? ⟨w.heap.size, 2, none⟩ = false := by
  have hn := heap_alloc_new w (.cells #[.int .i64 0, .int .i64 0, .slice none 0 0] 24)
  refine ⟨?_, ?_, ?_, frozen_row hn, frozen_row hn, frozen_row hn⟩ <;> (rw [cell_of_row _ _ _ _ _ _ hn]; rfl)
/-- A box of a tree. -/
def Bx (W : World) (b : Nat) (k n : Int) (A : Option Addr) (m c : Nat) : Prop := W.cell? ⟨b, 0, none⟩ = some (.int .i64 k) ∧ W.cell? ⟨b, 1, none⟩ = some (.int .i64 n) ∧ W.cell? ⟨b, 2, none⟩ = some (.slice A m c)
theorem Bx.new (w : World) (k n : Int) (A : Option Addr) (m c : Nat) : Bx (w.alloc (.cells #[.int .i64 k, .int .i64 n, .slice A m c] 24)) w.heap.size k n A m c :=
  ⟨cell_new w _ _ 0 _ rfl, cell_new w _ _ 1 _ rfl, cell_new w _ _ 2 _ rfl⟩
theorem Bx.kept {w W : World} {b : Nat} {k n : Int} {A : Option Addr} {m c : Nat} (h : Bx w b k n A m c) (hb : Below w.heap.size w W) : Bx W b k n A m c := ⟨cell_kept hb h.1, cell_kept hb h.2.1, cell_kept hb h.2.2⟩
theorem Bx.spl {w W : World} {b lo hi : Nat} {k n : Int} {A : Option Addr} {m c : Nat} (h : Bx w b k n A m c) (hb : Spl lo hi w W) (hh : b < lo ∨ hi ≤ b) : Bx W b k n A m c := ⟨hb.cell h.1 hh, hb.cell h.2.1 hh, hb.cell h.2.2 hh⟩
set_option maxRecDepth 100000 in
set_option maxHeartbeats 20000000 in
theorem law_ExprCopies (t : Tr) (A : Option Addr) (m c : Nat) (k : Int) (b : Tr) (B : Option Addr) (n d : Nat) (w : World) (h : Hid (TrAt w A m c t)) (hb0 : Hid (TrAt w B n d b)) (htab : Hid (∀ W, Below w.heap.size w W → TabT W)) :
    Calls Tryd.prog 8 #[t.val A m c, .int .i64 k, b.val B n d] w fun e w' => e = .returned (.bool true) ∧ Below w.heap.size w w' := by
  have bal0 := al1 w (.cells #[.int .i64 t.kind, .int .i64 t.num, .slice A m c] 24)
  have hz0 : (w.alloc (.cells #[.int .i64 t.kind, .int .i64 t.num, .slice A m c] 24)).heap.size = w.heap.size + 1 := by rw [World.size_alloc]
  have k00 := cell_new w #[.int .i64 t.kind, .int .i64 t.num, .slice A m c] 24 0 _ rfl
  have k01 := cell_new w #[.int .i64 t.kind, .int .i64 t.num, .slice A m c] 24 1 _ rfl
  have k02 := cell_new w #[.int .i64 t.kind, .int .i64 t.num, .slice A m c] 24 2 _ rfl
  have bal1 := below_then bal0 (al1 (w.alloc (.cells #[.int .i64 t.kind, .int .i64 t.num, .slice A m c] 24)) (.cells #[.int .i64 b.kind, .int .i64 b.num, .slice B n d] 24))
  have hz1 : ((w.alloc (.cells #[.int .i64 t.kind, .int .i64 t.num, .slice A m c] 24)).alloc (.cells #[.int .i64 b.kind, .int .i64 b.num, .slice B n d] 24)).heap.size = w.heap.size + 1 + 1 := by rw [World.size_alloc, hz0]
  have k10 := cell_new (w.alloc (.cells #[.int .i64 t.kind, .int .i64 t.num, .slice A m c] 24)) #[.int .i64 b.kind, .int .i64 b.num, .slice B n d] 24 0 _ rfl
  have k11 := cell_new (w.alloc (.cells #[.int .i64 t.kind, .int .i64 t.num, .slice A m c] 24)) #[.int .i64 b.kind, .int .i64 b.num, .slice B n d] 24 1 _ rfl
  have k12 := cell_new (w.alloc (.cells #[.int .i64 t.kind, .int .i64 t.num, .slice A m c] 24)) #[.int .i64 b.kind, .int .i64 b.num, .slice B n d] 24 2 _ rfl
  rw [hz0] at k10 k11 k12
  have k00 := cell_kept (al1 (w.alloc (.cells #[.int .i64 t.kind, .int .i64 t.num, .slice A m c] 24)) (.cells #[.int .i64 b.kind, .int .i64 b.num, .slice B n d] 24)) k00
  have k01 := cell_kept (al1 (w.alloc (.cells #[.int .i64 t.kind, .int .i64 t.num, .slice A m c] 24)) (.cells #[.int .i64 b.kind, .int .i64 b.num, .slice B n d] 24)) k01
  have k02 := cell_kept (al1 (w.alloc (.cells #[.int .i64 t.kind, .int .i64 t.num, .slice A m c] 24)) (.cells #[.int .i64 b.kind, .int .i64 b.num, .slice B n d] 24)) k02
  obtain ⟨w1, hw1⟩ : ∃ w1, w1 = ((w.alloc (.cells #[.int .i64 t.kind, .int .i64 t.num, .slice A m c] 24)).alloc (.cells #[.int .i64 b.kind, .int .i64 b.num, .slice B n d] 24)) := ⟨_, rfl⟩
  obtain ⟨g, hg⟩ : ∃ g, g = w.heap.size := ⟨_, rfl⟩
  have HW1 := Lib.hid hw1
  have HG := Lib.hid hg
  rw [← hw1] at bal1 k00 k01 k02 k10 k11 k12
  rw [← hg] at k00 k01 k02 k10 k11 k12
  have HB1 := Lib.hid bal1
  have HE := Lib.hid (show ∀ W, Below w1.heap.size w1 W → W.cell? ⟨g, 0, none⟩ = some (.int .i64 t.kind) ∧ W.cell? ⟨g, 1, none⟩ = some (.int .i64 t.num) ∧ W.cell? ⟨g, 2, none⟩ = some (.slice A m c) ∧ W.cell? ⟨g + 1, 0, none⟩ = some (.int .i64 b.kind) ∧ W.cell? ⟨g + 1, 1, none⟩ = some (.int .i64 b.num) ∧ W.cell? ⟨g + 1, 2, none⟩ = some (.slice B n d) from fun W h => ⟨cell_kept h k00, cell_kept h k01, cell_kept h k02, cell_kept h k10, cell_kept h k11, cell_kept h k12⟩)
  clear bal0 hz0 bal1 hz1 hw1 hg
  have RFL := Lib.hid (Below.refl w1.heap.size w1)
  have HT := Lib.hid (fun W (hb : Below w1.heap.size w1 W) => Lib.hid (h.out.kept (below_then HB1.out hb)))
  have HTB := Lib.hid (fun W (hb : Below w1.heap.size w1 W) => Lib.hid (hb0.out.kept (below_then HB1.out hb)))
  by_cases hf : 0 < fewT t 60
  case neg =>
    have df := decide_eq_false hf
    clear hf
    go_enter Tryd.func8, Tryd.ntmps8
    go_upto_region 1 with fail
    rw [← HG.out, ← HW1.out]
    go_wp2_with fail
    refine (law_small w1 (Lib.hid (fun W h => htab.out W (below_then HB1.out h)))).mono ?_
    rintro e u1 ⟨rfl, hb⟩
    have HU1 := Lib.hid (below_then RFL.out hb)
    clear hb
    clear k00 k01 k02 k10 k11 k12
    obtain ⟨k00, k01, k02, k10, k11, k12⟩ := HE.out _ HU1.out
    go_wp2_with fail
    refine (law_Few t A m c u1 (HT.out _ HU1.out)).mono ?_
    rintro e u2 ⟨rfl, hb⟩
    have HU2 := Lib.hid (below_then HU1.out hb)
    clear hb
    clear k00 k01 k02 k10 k11 k12
    obtain ⟨k00, k01, k02, k10, k11, k12⟩ := HE.out _ HU2.out
    go_wp2_with fail
    refine (law_Few b B n d u2 (HTB.out _ HU2.out)).mono ?_
    rintro e u3 ⟨rfl, hb⟩
    have HU3 := Lib.hid (below_then HU2.out hb)
    clear hb
    clear k00 k01 k02 k10 k11 k12
    obtain ⟨k00, k01, k02, k10, k11, k12⟩ := HE.out _ HU3.out
    go_wp2_with fail
    go_ret
    exact ⟨rfl, below_then HB1.out HU3.out⟩
  have hs := few_sz hf
  have df := decide_eq_true hf
  by_cases hf2 : 0 < fewT b 60
  case neg =>
    have df2 := decide_eq_false hf2
    clear hf hf2
    go_enter Tryd.func8, Tryd.ntmps8
    go_upto_region 1 with fail
    rw [← HG.out, ← HW1.out]
    go_wp2_with fail
    refine (law_small w1 (Lib.hid (fun W h => htab.out W (below_then HB1.out h)))).mono ?_
    rintro e u1 ⟨rfl, hb⟩
    have HU1 := Lib.hid (below_then RFL.out hb)
    clear hb
    clear k00 k01 k02 k10 k11 k12
    obtain ⟨k00, k01, k02, k10, k11, k12⟩ := HE.out _ HU1.out
    go_wp2_with fail
    refine (law_Few t A m c u1 (HT.out _ HU1.out)).mono ?_
    rintro e u2 ⟨rfl, hb⟩
    have HU2 := Lib.hid (below_then HU1.out hb)
    clear hb
    clear k00 k01 k02 k10 k11 k12
    obtain ⟨k00, k01, k02, k10, k11, k12⟩ := HE.out _ HU2.out
    go_wp2_with fail
    refine (law_Few b B n d u2 (HTB.out _ HU2.out)).mono ?_
    rintro e u3 ⟨rfl, hb⟩
    have HU3 := Lib.hid (below_then HU2.out hb)
    clear hb
    clear k00 k01 k02 k10 k11 k12
    obtain ⟨k00, k01, k02, k10, k11, k12⟩ := HE.out _ HU3.out
    go_wp2_with fail
    go_ret
    exact ⟨rfl, below_then HB1.out HU3.out⟩
  have hsb := few_sz hf2
  have df2 := decide_eq_true hf2
  clear hf hf2
  obtain ⟨P, hP⟩ : ∃ P, P = putT k b t := ⟨_, rfl⟩
  obtain ⟨D, hD⟩ : ∃ D : Int, D = depthT t := ⟨_, rfl⟩
  have CC := Lib.hid (fun W (hb : Below w1.heap.size w1 W) => ex_Copy t.sz t (Nat.le_refl _) A m c W (HT.out _ hb) hs)
  have CP := Lib.hid (fun W (hb : Below w1.heap.size w1 W) => (show Calls Tryd.prog 24 #[t.val A m c, .int .i64 k, b.val B n d] W (PuP P W) by rw [hP]; exact ex_Put k b hsb t.sz t (Nat.le_refl _) A m c B n d W (HT.out _ hb) (HTB.out _ hb) hs))
  have CR := Lib.hid (fun W (hb : Below w1.heap.size w1 W) => (show Calls Tryd.prog 28 #[t.val A m c, .int .i64 k, b.val B n d] W (fun e w' => ∃ A' m' c', e = .returned (P.val A' m' c') ∧ Hid (TrAt w' A' m' c' P) ∧ Hid (Below W.heap.size W w')) from (hP ▸ r_Put k b W.heap.size t.sz t (Nat.le_refl _) A m c B n d W (HT.out _ hb) (Lib.hid (TrOut.of (HTB.out _ hb).out)) (Nat.le_refl _) hs).mono fun e w' he => by
    obtain ⟨A', m', c', h1, h2, h3⟩ := he
    exact ⟨A', m', c', by rw [h1, hP], Lib.hid (hP ▸ h2.out.at_), h3⟩))
  have CD := Lib.hid (fun W (hb : Below w1.heap.size w1 W) => (show Calls Tryd.prog 13 #[t.val A m c] W (fun e w' => e = .returned (.int .i64 D) ∧ Below W.heap.size W w') by rw [hD]; exact ex_Depth t.sz t (Nat.le_refl _) A m c W (HT.out _ hb) hs))
  have CE := Lib.hid (fun (a a2 : Tr) A m c B n d W (h1 : Hid (TrAt W A m c a)) (h2 : Hid (TrAt W B n d a2)) => ex_Same a.sz a a2 (Nat.le_refl _) A m c B n d W h1 h2)
  have CF := Lib.hid (fun (a a2 : Tr) A m c B n d W (h1 : Hid (TrAt W A m c a)) (h2 : Hid (TrAt W B n d a2)) => r_Same a.sz a a2 (Nat.le_refl _) A m c B n d W h1 h2)
  clear hP hD hs hsb
  go_enter Tryd.func8, Tryd.ntmps8
  go_upto_region 1 with fail
  rw [← HG.out, ← HW1.out]
  go_wp2_with fail
  refine (law_small w1 (Lib.hid (fun W h => htab.out W (below_then HB1.out h)))).mono ?_
  rintro e u1 ⟨rfl, hb⟩
  have HU1 := Lib.hid (below_then RFL.out hb)
  clear hb
  clear k00 k01 k02 k10 k11 k12
  obtain ⟨k00, k01, k02, k10, k11, k12⟩ := HE.out _ HU1.out
  go_wp2_with fail
  refine (law_Few t A m c u1 (HT.out _ HU1.out)).mono ?_
  rintro e u2 ⟨rfl, hb⟩
  have HU2 := Lib.hid (below_then HU1.out hb)
  clear hb
  clear k00 k01 k02 k10 k11 k12
  obtain ⟨k00, k01, k02, k10, k11, k12⟩ := HE.out _ HU2.out
  go_wp2_with fail
  refine (law_Few b B n d u2 (HTB.out _ HU2.out)).mono ?_
  rintro e u3 ⟨rfl, hb⟩
  have HU3 := Lib.hid (below_then HU2.out hb)
  clear hb
  clear k00 k01 k02 k10 k11 k12
  obtain ⟨k00, k01, k02, k10, k11, k12⟩ := HE.out _ HU3.out
  go_wp2_with fail
  refine (CC.out u3 HU3.out).mono ?_
  rintro e u4 ⟨A2, c2, rfl, hFc, hbc⟩
  have HU4 := Lib.hid (below_then HU3.out hbc.out)
  clear k00 k01 k02 k10 k11 k12
  obtain ⟨k00, k01, k02, k10, k11, k12⟩ := HE.out _ HU4.out
  obtain ⟨z0, z1, z2, f0, f1, f2⟩ := z_facts u4
  go_upto_region 7 with fail
  have HU5 := Lib.hid (below_then HU4.out (alr u4 (.cells #[.int .i64 t.kind, .int .i64 t.num, .slice A2 m c2] 24)))
  have HGC := Lib.hid (Bx.new u4 t.kind t.num A2 m c2)
  have halu5 := alr u4 (.cells #[.int .i64 t.kind, .int .i64 t.num, .slice A2 m c2] 24)
  have hszu5 : (u4.alloc (.cells #[.int .i64 t.kind, .int .i64 t.num, .slice A2 m c2] 24)).heap.size = u4.heap.size + 1 := World.size_alloc _ _
  obtain ⟨gc, hgc⟩ : ∃ x, x = u4.heap.size := ⟨_, rfl⟩
  obtain ⟨u5, hu5⟩ : ∃ x, x = u4.alloc (.cells #[.int .i64 t.kind, .int .i64 t.num, .slice A2 m c2] 24) := ⟨_, rfl⟩
  rw [← hgc, ← hu5]
  rw [← hu5] at HU5 HGC halu5 hszu5
  rw [← hgc] at HGC
  have Su5 := Lib.hid hszu5
  have Lu5 := Lib.hid halu5
  have Gu5 := Lib.hid hgc
  clear hu5 hgc z0 z1 z2 f0 f1 f2 hszu5 halu5
  clear k00 k01 k02 k10 k11 k12
  obtain ⟨k00, k01, k02, k10, k11, k12⟩ := HE.out _ HU5.out
  go_wp2_with fail
  refine (CP.out u5 HU5.out).mono ?_
  rintro e u6 ⟨A3, m3, c3, rfl, hFp, hbp⟩
  have HU6 := Lib.hid (below_then HU5.out hbp.out)
  clear k00 k01 k02 k10 k11 k12
  obtain ⟨k00, k01, k02, k10, k11, k12⟩ := HE.out _ HU6.out
  obtain ⟨z0, z1, z2, f0, f1, f2⟩ := z_facts u6
  go_upto_region 8 with fail
  have HU7 := Lib.hid (below_then HU6.out (alr u6 (.cells #[.int .i64 P.kind, .int .i64 P.num, .slice A3 m3 c3] 24)))
  have HGP := Lib.hid (Bx.new u6 P.kind P.num A3 m3 c3)
  have halu7 := alr u6 (.cells #[.int .i64 P.kind, .int .i64 P.num, .slice A3 m3 c3] 24)
  have hszu7 : (u6.alloc (.cells #[.int .i64 P.kind, .int .i64 P.num, .slice A3 m3 c3] 24)).heap.size = u6.heap.size + 1 := World.size_alloc _ _
  obtain ⟨gp, hgp⟩ : ∃ x, x = u6.heap.size := ⟨_, rfl⟩
  obtain ⟨u7, hu7⟩ : ∃ x, x = u6.alloc (.cells #[.int .i64 P.kind, .int .i64 P.num, .slice A3 m3 c3] 24) := ⟨_, rfl⟩
  rw [← hgp, ← hu7]
  rw [← hu7] at HU7 HGP halu7 hszu7
  rw [← hgp] at HGP
  have Su7 := Lib.hid hszu7
  have Lu7 := Lib.hid halu7
  have Gu7 := Lib.hid hgp
  clear hu7 hgp z0 z1 z2 f0 f1 f2 hszu7 halu7
  clear k00 k01 k02 k10 k11 k12
  have HBC7 := Lib.hid (HGC.out.kept (below_then hbp.out Lu7.out))
  have HC8 := Lib.hid (show ∀ W, Below u7.heap.size u7 W → W.cell? ⟨g, 0, none⟩ = some (.int .i64 t.kind) ∧ W.cell? ⟨g, 1, none⟩ = some (.int .i64 t.num) ∧ W.cell? ⟨g, 2, none⟩ = some (.slice A m c) ∧ W.cell? ⟨g + 1, 0, none⟩ = some (.int .i64 b.kind) ∧ W.cell? ⟨g + 1, 1, none⟩ = some (.int .i64 b.num) ∧ W.cell? ⟨g + 1, 2, none⟩ = some (.slice B n d) ∧ W.cell? ⟨gc, 0, none⟩ = some (.int .i64 t.kind) ∧ W.cell? ⟨gc, 1, none⟩ = some (.int .i64 t.num) ∧ W.cell? ⟨gc, 2, none⟩ = some (.slice A2 m c2) ∧ W.cell? ⟨gp, 0, none⟩ = some (.int .i64 P.kind) ∧ W.cell? ⟨gp, 1, none⟩ = some (.int .i64 P.num) ∧ W.cell? ⟨gp, 2, none⟩ = some (.slice A3 m3 c3) from fun W h => by
    obtain ⟨a0, a1, a2, a3, a4, a5⟩ := HE.out W (below_then HU7.out h)
    obtain ⟨b0, b1, b2⟩ := HBC7.out.kept h
    obtain ⟨d0, d1, d2⟩ := HGP.out.kept h
    exact ⟨a0, a1, a2, a3, a4, a5, b0, b1, b2, d0, d1, d2⟩)
  have HTC := Lib.hid (fun W (h : Below u7.heap.size u7 W) => Lib.hid (hFc.out.to.kept (below_then Lu5.out (below_then hbp.out (below_then Lu7.out h)))))
  have HTP := Lib.hid (fun W (h : Below u7.heap.size u7 W) => Lib.hid (hFp.out.to.kept (below_then Lu7.out h)))
  have HTT := Lib.hid (fun W (h : Below u7.heap.size u7 W) => HT.out W (below_then HU7.out h))
  have HTBB := Lib.hid (fun W (h : Below u7.heap.size u7 W) => HTB.out W (below_then HU7.out h))
  obtain ⟨S1, hS1⟩ : ∃ s, s = sameT t b := ⟨_, rfl⟩
  obtain ⟨S2, hS2⟩ : ∃ s, s = sameT P t := ⟨_, rfl⟩
  obtain ⟨S3, hS3⟩ : ∃ s, s = sameT (spoilT t) t := ⟨_, rfl⟩
  have ES1 := Lib.hid hS1
  have ES2 := Lib.hid hS2
  have ES3 := Lib.hid hS3
  clear hS1 hS2 hS3
  have BD0 : Hid (Below u7.heap.size u7 u7.drew) := Lib.hid (below_drewN' (Below.refl _ _) 1)
  go_cut [12] (fun s12 wx => s12 = .bool true ∧ Hid (Below u7.heap.size u7 wx))
  case first =>
    as_aux_lemma =>
      go_region_held3 (fun W => W.cell? ⟨g, 0, none⟩ = some (.int .i64 t.kind) ∧ W.cell? ⟨g, 1, none⟩ = some (.int .i64 t.num) ∧ W.cell? ⟨g, 2, none⟩ = some (.slice A m c) ∧ W.cell? ⟨g + 1, 0, none⟩ = some (.int .i64 b.kind) ∧ W.cell? ⟨g + 1, 1, none⟩ = some (.int .i64 b.num) ∧ W.cell? ⟨g + 1, 2, none⟩ = some (.slice B n d) ∧ W.cell? ⟨gc, 0, none⟩ = some (.int .i64 t.kind) ∧ W.cell? ⟨gc, 1, none⟩ = some (.int .i64 t.num) ∧ W.cell? ⟨gc, 2, none⟩ = some (.slice A2 m c2) ∧ W.cell? ⟨gp, 0, none⟩ = some (.int .i64 P.kind) ∧ W.cell? ⟨gp, 1, none⟩ = some (.int .i64 P.num) ∧ W.cell? ⟨gp, 2, none⟩ = some (.slice A3 m3 c3))
        (first | exact HC8.out _ BD8.out | exact HC8.out _ BD7.out | exact HC8.out _ BD6.out | exact HC8.out _ BD5.out | exact HC8.out _ BD4.out | exact HC8.out _ BD3.out | exact HC8.out _ BD2.out | exact HC8.out _ BD1.out | exact HC8.out _ BD0.out)
        (first
        | (go_at_call 27; refine (CF.out P t A3 m3 c3 A m c _ (HTP.out _ BD7.out) (HTT.out _ BD7.out)).mono ?_; rw [← ES2.out]; rintro e x8 ⟨rfl, hb⟩; have BD8 := Lib.hid (below_then BD7.out hb); clear hb)
        | (go_at_call 26; refine (CE.out P t A3 m3 c3 A m c _ (HTP.out _ BD6.out) (HTT.out _ BD6.out)).mono ?_; rw [← ES2.out]; rintro e x7 ⟨rfl, hb⟩; have BD7 := Lib.hid (below_then BD6.out hb); clear hb)
        | (go_at_call 27; refine (CF.out t b A m c B n d _ (HTT.out _ BD5.out) (HTBB.out _ BD5.out)).mono ?_; rw [← ES1.out]; rintro e x6 ⟨rfl, hb⟩; have BD6 := Lib.hid (below_then BD5.out hb); clear hb)
        | (go_at_call 26; refine (CE.out t b A m c B n d _ (HTT.out _ BD4.out) (HTBB.out _ BD4.out)).mono ?_; rw [← ES1.out]; rintro e x5 ⟨rfl, hb⟩; have BD5 := Lib.hid (below_then BD4.out hb); clear hb)
        | (go_at_call 27; refine (CF.out P P A3 m3 c3 A5 m5 c5 _ (HTP.out _ BD3.out) hT5).mono ?_; rw [sameT_self]; rintro e x4 ⟨rfl, hb⟩; have BD4 := Lib.hid (below_then BD3.out hb); clear hb)
        | (go_at_call 28; refine (CR.out _ (below_then HU7.out BD2.out)).mono ?_; rintro e x3 ⟨A5, m5, c5, rfl, hT5, hb⟩; have BD3 := Lib.hid (below_then BD2.out hb.out); clear hb)
        | (go_at_call 27; refine (CF.out t t A2 m c2 A m c _ (HTC.out _ BD1.out) (HTT.out _ BD1.out)).mono ?_; rw [sameT_self]; rintro e x2 ⟨rfl, hb⟩; have BD2 := Lib.hid (below_then BD1.out hb); clear hb)
        | (go_at_call 26; refine (CE.out t t A2 m c2 A m c _ (HTC.out _ BD0.out) (HTT.out _ BD0.out)).mono ?_; rw [sameT_self]; rintro e x1 ⟨rfl, hb⟩; have BD1 := Lib.hid (below_then BD0.out hb); clear hb))
      all_goals
        go_wp2_with fail
        go_meet
        exact ⟨by first | rfl | simp, BD8⟩
  case rest =>
    obtain ⟨rfl, BD8⟩ := hcut
    have HU8 := Lib.hid (below_then HU7.out BD8.out)
    have z34 := hbc.out.size
    have z56 := hbp.out.size
    have z78 := BD8.out.size
    have z13 := HU3.out.size
    have HF8 := Lib.hid (hFp.out.kept (below_then Lu7.out BD8.out) (Nat.le_refl _))
    have HFT8 := Lib.hid (hFc.out.kept (below_then Lu5.out (below_then hbp.out (below_then Lu7.out BD8.out))) (Nat.le_refl _))
    have HBC8 := Lib.hid (HBC7.out.kept BD8.out)
    obtain ⟨a0, a1, a2, a3, a4, a5, b0, b1, b2, d0, d1, d2⟩ := HC8.out _ BD8.out
    clear HC8 HTC HTP HTT HTBB ES1 ES2
    go_wp2_with fail
    refine (law_spoil P.sz P (Nat.le_refl _) u5.heap.size u6.heap.size A3 m3 c3 wc HF8 (by have e1 := Gu5.out; have e2 := Su5.out; have e3 := Su7.out; omega)).mono ?_
    rintro e y1 ⟨rfl, hFs, hS1⟩
    have HBC9 := Lib.hid (HBC8.out.spl hS1.out (.inl (by have e1 := Gu5.out; have e2 := Su5.out; have e3 := Su7.out; omega)))
    have HFT9 := Lib.hid (FrI.moved (w' := y1) t HFT8.out (fun k _ h2 => hS1.out.hb.block k (by have e1 := Gu5.out; have e2 := Su5.out; have e3 := Su7.out; omega)) (Nat.le_refl _) (Nat.le_refl _))
    have z89 := hS1.out.sz
    clear a0 a1 a2 a3 a4 a5 b0 b1 b2 d0 d1 d2
    obtain ⟨b0, b1, b2⟩ := HBC9.out
    go_wp2_with fail
    refine (law_spoil t.sz t (Nat.le_refl _) u3.heap.size u4.heap.size A2 m c2 y1 HFT9 (by have e1 := Gu5.out; have e2 := Su5.out; have e3 := Su7.out; omega)).mono ?_
    rintro e y2 ⟨rfl, hFt, hS2⟩
    have HBC2 := Lib.hid (HBC9.out.spl hS2.out (.inr (by have e1 := Gu5.out; have e2 := Su5.out; have e3 := Su7.out; omega)))
    have HY2 := Lib.hid ((HU8.out.trans (hS1.out.hb.mono (by have e1 := Gu5.out; have e2 := Su5.out; have e3 := Su7.out; omega))).trans (hS2.out.hb.mono z13))
    clear b0 b1 b2 z34 z56 z78 z13 z89
    obtain ⟨k00, k01, k02, k10, k11, k12⟩ := HE.out _ HY2.out
    go_wp2_with fail
    refine (CP.out y2 HY2.out).mono ?_
    rintro e y3 ⟨A4, m4, c4, rfl, hFq, hbq⟩
    have HY3 := Lib.hid (below_then HY2.out hbq.out)
    clear k00 k01 k02 k10 k11 k12
    obtain ⟨k00, k01, k02, k10, k11, k12⟩ := HE.out _ HY3.out
    obtain ⟨z0, z1, z2, f0, f1, f2⟩ := z_facts y3
    go_upto_region 12 with fail
    have HY4 := Lib.hid (below_then HY3.out (alr y3 (.cells #[.int .i64 P.kind, .int .i64 P.num, .slice A4 m4 c4] 24)))
    have HGQ := Lib.hid (Bx.new y3 P.kind P.num A4 m4 c4)
    have haly4 := alr y3 (.cells #[.int .i64 P.kind, .int .i64 P.num, .slice A4 m4 c4] 24)
    have hszy4 : (y3.alloc (.cells #[.int .i64 P.kind, .int .i64 P.num, .slice A4 m4 c4] 24)).heap.size = y3.heap.size + 1 := World.size_alloc _ _
    obtain ⟨gq, hgq⟩ : ∃ x, x = y3.heap.size := ⟨_, rfl⟩
    obtain ⟨y4, hy4⟩ : ∃ x, x = y3.alloc (.cells #[.int .i64 P.kind, .int .i64 P.num, .slice A4 m4 c4] 24) := ⟨_, rfl⟩
    rw [← hgq, ← hy4]
    rw [← hy4] at HY4 HGQ haly4 hszy4
    rw [← hgq] at HGQ
    have Sy4 := Lib.hid hszy4
    have Ly4 := Lib.hid haly4
    have Gy4 := Lib.hid hgq
    clear hy4 hgq z0 z1 z2 f0 f1 f2 hszy4 haly4
    clear k00 k01 k02 k10 k11 k12
    have HC12 := Lib.hid (show ∀ W, Below y4.heap.size y4 W → W.cell? ⟨g, 0, none⟩ = some (.int .i64 t.kind) ∧ W.cell? ⟨g, 1, none⟩ = some (.int .i64 t.num) ∧ W.cell? ⟨g, 2, none⟩ = some (.slice A m c) ∧ W.cell? ⟨g + 1, 0, none⟩ = some (.int .i64 b.kind) ∧ W.cell? ⟨g + 1, 1, none⟩ = some (.int .i64 b.num) ∧ W.cell? ⟨g + 1, 2, none⟩ = some (.slice B n d) ∧ W.cell? ⟨gc, 0, none⟩ = some (.int .i64 t.kind) ∧ W.cell? ⟨gc, 1, none⟩ = some (.int .i64 t.num) ∧ W.cell? ⟨gc, 2, none⟩ = some (.slice A2 m c2) ∧ W.cell? ⟨gq, 0, none⟩ = some (.int .i64 P.kind) ∧ W.cell? ⟨gq, 1, none⟩ = some (.int .i64 P.num) ∧ W.cell? ⟨gq, 2, none⟩ = some (.slice A4 m4 c4) from fun W h => by
      obtain ⟨a0, a1, a2, a3, a4, a5⟩ := HE.out W (below_then HY4.out h)
      obtain ⟨b0, b1, b2⟩ := HBC2.out.kept (below_then hbq.out (below_then Ly4.out h))
      obtain ⟨d0, d1, d2⟩ := HGQ.out.kept h
      exact ⟨a0, a1, a2, a3, a4, a5, b0, b1, b2, d0, d1, d2⟩)
    have HTQ := Lib.hid (fun W (h : Below y4.heap.size y4 W) => Lib.hid (hFq.out.to.kept (below_then Ly4.out h)))
    have HTT := Lib.hid (fun W (h : Below y4.heap.size y4 W) => HT.out W (below_then HY4.out h))
    have ek : (spoilT t).kind = t.kind := by rw [spoilT_eq]; rfl
    have en : (spoilT t).num = t.num := by rw [spoilT_eq]; rfl
    have CS := Lib.hid (fun W (h : Below y4.heap.size y4 W) => (show Calls Tryd.prog 26 #[t.val A2 m c2, t.val A m c] W (fun e w' => e = .returned (.bool S3) ∧ Below W.heap.size W w') by
      have h1 : Calls Tryd.prog 26 #[.agg #[.int .i64 (spoilT t).kind, .int .i64 (spoilT t).num, .slice A2 m c2], t.val A m c] W (fun e w' => e = .returned (.bool (sameT (spoilT t) t)) ∧ Below W.heap.size W w') := CE.out (spoilT t) t A2 m c2 A m c W (Lib.hid (hFt.out.to.kept (below_then hbq.out (below_then Ly4.out h)))) (HTT.out W h)
      rw [ek, en, ← ES3.out] at h1
      exact h1))
    have CG := Lib.hid (fun W (h : Below y4.heap.size y4 W) => (show Calls Tryd.prog 27 #[t.val A2 m c2, t.val A m c] W (fun e w' => e = .returned (.bool S3) ∧ Below W.heap.size W w') by
      have h1 : Calls Tryd.prog 27 #[.agg #[.int .i64 (spoilT t).kind, .int .i64 (spoilT t).num, .slice A2 m c2], t.val A m c] W (fun e w' => e = .returned (.bool (sameT (spoilT t) t)) ∧ Below W.heap.size W w') := CF.out (spoilT t) t A2 m c2 A m c W (Lib.hid (hFt.out.to.kept (below_then hbq.out (below_then Ly4.out h)))) (HTT.out W h)
      rw [ek, en, ← ES3.out] at h1
      exact h1))
    have BE0 : Hid (Below y4.heap.size y4 y4.drew) := Lib.hid (below_drewN' (Below.refl _ _) 1)
    clear ek en ES3
    have cases3 : (D == 1) = true ∨ ((D == 1) = false ∧ S3 = false) ∨ ((D == 1) = false ∧ S3 = true) := by
      cases (D == 1) <;> cases S3 <;> simp
    have CR12 := Lib.hid (fun W (h : Below y4.heap.size y4 W) => CR.out W (below_then HY4.out h))
    have CD12 := Lib.hid (fun W (h : Below y4.heap.size y4 W) => CD.out W (below_then HY4.out h))
    have CFP := Lib.hid (fun A6 m6 c6 W (h : Below y4.heap.size y4 W) (hT6 : Hid (TrAt W A6 m6 c6 P)) => (show Calls Tryd.prog 27 #[P.val A4 m4 c4, P.val A6 m6 c6] W (fun e w' => e = .returned (.bool true) ∧ Below W.heap.size W w') by have h1 := CF.out P P A4 m4 c4 A6 m6 c6 W (HTQ.out W h) hT6; rwa [sameT_self] at h1))
    go_cut [6] (fun s6 wx => s6 = .bool true ∧ Hid (Below y4.heap.size y4 wx))
    case first =>
      try clear HE
      try clear HT
      try clear HTB
      try clear HTT
      try clear HU1
      try clear HU2
      try clear HU3
      try clear HU4
      try clear HU5
      try clear HU6
      try clear HU7
      try clear HU8
      try clear HY2
      try clear HY3
      try clear HBC2
      try clear HBC7
      try clear HBC8
      try clear HBC9
      try clear HGC
      try clear HGP
      try clear HGQ
      try clear HFp
      try clear HF8
      try clear hFs
      try clear hFt
      try clear HFT8
      try clear HFT9
      try clear hFq
      try clear hFc
      try clear hFp
      try clear hbc
      try clear hbp
      try clear hbq
      try clear hS1
      try clear hS2
      try clear Gu5
      try clear Gu7
      try clear Gy4
      try clear Su5
      try clear Su7
      try clear Sy4
      try clear Lu5
      try clear Lu7
      try clear Ly4
      try clear CC
      try clear CP
      try clear CR
      try clear CD
      try clear CE
      try clear CF
      try clear HTQ
      try clear HC8
      try clear HTC
      try clear HTP
      try clear HTBB
      try clear RFL
      try clear htab
      try clear h
      try clear hb0
      try clear HG
      try clear HW1
      try clear HB1
      try clear BD0
      try clear BD1
      try clear BD2
      try clear BD3
      try clear BD4
      try clear BD5
      try clear BD6
      try clear BD7
      try clear BD8
      try clear hT5
      try clear HY4
      try clear df
      try clear df2
      rcases cases3 with eD | ⟨eD, rfl⟩ | ⟨eD, rfl⟩
      · as_aux_lemma =>
        refine wp_region_noPanic ?_
        refine wp_region_held_drew (S := fun W => W.cell? ⟨g, 0, none⟩ = some (.int .i64 t.kind) ∧ W.cell? ⟨g, 1, none⟩ = some (.int .i64 t.num) ∧ W.cell? ⟨g, 2, none⟩ = some (.slice A m c) ∧ W.cell? ⟨g + 1, 0, none⟩ = some (.int .i64 b.kind) ∧ W.cell? ⟨g + 1, 1, none⟩ = some (.int .i64 b.num) ∧ W.cell? ⟨g + 1, 2, none⟩ = some (.slice B n d) ∧ W.cell? ⟨gc, 0, none⟩ = some (.int .i64 t.kind) ∧ W.cell? ⟨gc, 1, none⟩ = some (.int .i64 t.num) ∧ W.cell? ⟨gc, 2, none⟩ = some (.slice A2 m c2) ∧ W.cell? ⟨gq, 0, none⟩ = some (.int .i64 P.kind) ∧ W.cell? ⟨gq, 1, none⟩ = some (.int .i64 P.num) ∧ W.cell? ⟨gq, 2, none⟩ = some (.slice A4 m4 c4)) (by kernel_rfl) (by exact HC12.out _ BE0.out) (fun hHeld => ?_)
        refine wpAnyH_take (i := 0) (oi := ?oi1x0) (v := ?v1x0) ?hi1x0 (by kernel_rfl) (by kernel_rfl) (by kernel_rfl) ?hq1x0 ?hy1x0 (by assumption) ?rest1x0
        case hi1x0 =>
          (try simp only [List.getElem?_toArray])
          (try simp only [List.getElem?_cons_succ])
          (try simp only [List.getElem?_cons_zero])
          (try exact rfl)
        case hq1x0 => exact fun _ _ _ h => h
        case hy1x0 =>
          refine Or.inl ⟨by rfl, ?_⟩
          (intro w hSw; (try dsimp only at hSw); go_simp; try with_reducible rfl)
        (try simp only [Act.put])
        (try simp only [List.setIfInBounds_toArray])
        (try simp only [List.set_cons_succ])
        (try simp only [List.set_cons_zero])
        refine wpAnyH_take (i := 1) (oi := ?oi1x1) (v := ?v1x1) ?hi1x1 (by kernel_rfl) (by kernel_rfl) (by kernel_rfl) ?hq1x1 ?hy1x1 (by assumption) ?rest1x1
        case hi1x1 =>
          (try simp only [List.getElem?_toArray])
          (try simp only [List.getElem?_cons_succ])
          (try simp only [List.getElem?_cons_zero])
          (try exact rfl)
        case hq1x1 => exact fun _ _ _ h => h
        case hy1x1 =>
          refine Or.inl ⟨by rfl, ?_⟩
          (intro w hSw; (try dsimp only at hSw); go_simp; try with_reducible rfl)
        (try simp only [Act.put])
        (try simp only [List.setIfInBounds_toArray])
        (try simp only [List.set_cons_succ])
        (try simp only [List.set_cons_zero])
        refine wpAnyH_take (i := 2) (oi := ?oi1x2) (v := ?v1x2) ?hi1x2 (by kernel_rfl) (by kernel_rfl) (by kernel_rfl) ?hq1x2 ?hy1x2 (by assumption) ?rest1x2
        case hi1x2 =>
          (try simp only [List.getElem?_toArray])
          (try simp only [List.getElem?_cons_succ])
          (try simp only [List.getElem?_cons_zero])
          (try exact rfl)
        case hq1x2 => exact fun _ _ _ h => h
        case hy1x2 =>
          refine Or.inl ⟨by rfl, ?_⟩
          (intro w hSw; (try dsimp only at hSw); go_simp; try with_reducible rfl)
        (try simp only [Act.put])
        (try simp only [List.setIfInBounds_toArray])
        (try simp only [List.set_cons_succ])
        (try simp only [List.set_cons_zero])
        refine wpAnyH_take (i := 3) (oi := ?oi1x3) (v := ?v1x3) ?hi1x3 (by kernel_rfl) (by kernel_rfl) (by kernel_rfl) ?hq1x3 ?hy1x3 (by assumption) ?rest1x3
        case hi1x3 =>
          (try simp only [List.getElem?_toArray])
          (try simp only [List.getElem?_cons_succ])
          (try simp only [List.getElem?_cons_zero])
          (try exact rfl)
        case hq1x3 => exact fun _ _ _ h => h
        case hy1x3 =>
          refine Or.inl ⟨by rfl, ?_⟩
          (intro w hSw; (try dsimp only at hSw); go_simp; try with_reducible rfl)
        (try simp only [Act.put])
        (try simp only [List.setIfInBounds_toArray])
        (try simp only [List.set_cons_succ])
        (try simp only [List.set_cons_zero])
        refine wpAnyH_take (i := 4) (oi := ?oi1x4) (v := ?v1x4) ?hi1x4 (by kernel_rfl) (by kernel_rfl) (by kernel_rfl) ?hq1x4 ?hy1x4 (by assumption) ?rest1x4
        case hi1x4 =>
          (try simp only [List.getElem?_toArray])
          (try simp only [List.getElem?_cons_succ])
          (try simp only [List.getElem?_cons_zero])
          (try exact rfl)
        case hq1x4 => exact fun _ _ _ h => h
        case hy1x4 =>
          refine Or.inl ⟨by rfl, ?_⟩
          (intro w hSw; (try dsimp only at hSw); go_simp; try with_reducible rfl)
        (try simp only [Act.put])
        (try simp only [List.setIfInBounds_toArray])
        (try simp only [List.set_cons_succ])
        (try simp only [List.set_cons_zero])
        refine wpAnyH_take (i := 5) (oi := ?oi1x5) (v := ?v1x5) ?hi1x5 (by kernel_rfl) (by kernel_rfl) (by kernel_rfl) ?hq1x5 ?hy1x5 (by assumption) ?rest1x5
        case hi1x5 =>
          (try simp only [List.getElem?_toArray])
          (try simp only [List.getElem?_cons_succ])
          (try simp only [List.getElem?_cons_zero])
          (try exact rfl)
        case hq1x5 => exact fun _ _ _ h => h
        case hy1x5 =>
          refine Or.inl ⟨by rfl, ?_⟩
          (intro w hSw; (try dsimp only at hSw); go_simp; try with_reducible rfl)
        (try simp only [Act.put])
        (try simp only [List.setIfInBounds_toArray])
        (try simp only [List.set_cons_succ])
        (try simp only [List.set_cons_zero])
        refine wpAnyH_take (i := 6) (oi := ?oi1x6) (v := ?v1x6) ?hi1x6 (by kernel_rfl) (by kernel_rfl) (by kernel_rfl) ?hq1x6 ?hy1x6 (by assumption) ?rest1x6
        case hi1x6 =>
          (try simp only [List.getElem?_toArray])
          (try simp only [List.getElem?_cons_succ])
          (try simp only [List.getElem?_cons_zero])
          (try exact rfl)
        case hq1x6 => exact fun _ _ _ h => h
        case hy1x6 =>
          refine Or.inl ⟨by rfl, ?_⟩
          (intro w hSw; (try dsimp only at hSw); go_simp; try with_reducible rfl)
        (try simp only [Act.put])
        (try simp only [List.setIfInBounds_toArray])
        (try simp only [List.set_cons_succ])
        (try simp only [List.set_cons_zero])
        refine wpAnyH_take (i := 7) (oi := ?oi1x7) (v := ?v1x7) ?hi1x7 (by kernel_rfl) (by kernel_rfl) (by kernel_rfl) ?hq1x7 ?hy1x7 (by assumption) ?rest1x7
        case hi1x7 =>
          (try simp only [List.getElem?_toArray])
          (try simp only [List.getElem?_cons_succ])
          (try simp only [List.getElem?_cons_zero])
          (try exact rfl)
        case hq1x7 => exact fun _ _ _ h => h
        case hy1x7 =>
          refine Or.inl ⟨by rfl, ?_⟩
          (intro w hSw; (try dsimp only at hSw); go_simp; try with_reducible rfl)
        (try simp only [Act.put])
        (try simp only [List.setIfInBounds_toArray])
        (try simp only [List.set_cons_succ])
        (try simp only [List.set_cons_zero])
        refine wpAnyH_take (i := 8) (oi := ?oi1x8) (v := ?v1x8) ?hi1x8 (by kernel_rfl) (by kernel_rfl) (by kernel_rfl) ?hq1x8 ?hy1x8 (by assumption) ?rest1x8
        case hi1x8 =>
          (try simp only [List.getElem?_toArray])
          (try simp only [List.getElem?_cons_succ])
          (try simp only [List.getElem?_cons_zero])
          (try exact rfl)
        case hq1x8 => exact fun _ _ _ h => h
        case hy1x8 =>
          refine Or.inl ⟨by rfl, ?_⟩
          (intro w hSw; (try dsimp only at hSw); go_simp; try with_reducible rfl)
        (try simp only [Act.put])
        (try simp only [List.setIfInBounds_toArray])
        (try simp only [List.set_cons_succ])
        (try simp only [List.set_cons_zero])
        refine wpAnyH_ready (rs := [9]) (by kernel_rfl) (by simp) ?_
        refine AllReadyH.cons (o := ?oi1x9) ?hi1x9 (fun K hK => ?rest1x9) AllReadyH.nil
        case hi1x9 =>
          (try simp only [List.getElem?_toArray])
          (try simp only [List.getElem?_cons_succ])
          (try simp only [List.getElem?_cons_zero])
          (try exact rfl)
        go_simp
        go_at_call 28
        refine (CR12.out _ BE0.out).mono ?_
        rintro e v1 ⟨A6, m6, c6, rfl, hT6, hb⟩
        have BE1 := Lib.hid (below_then BE0.out hb.out)
        clear hb
        (try go_wp2_with fail)
        refine hK.out _ _ (by exact HC12.out _ BE1.out) (fun hHeld => ?_)
        clear hK K
        (try simp only [Act.put])
        (try simp only [List.setIfInBounds_toArray])
        (try simp only [List.set_cons_succ])
        (try simp only [List.set_cons_zero])
        refine wpAnyH_ready (rs := [10]) (by kernel_rfl) (by simp) ?_
        refine AllReadyH.cons (o := ?oi1x10) ?hi1x10 (fun K hK => ?rest1x10) AllReadyH.nil
        case hi1x10 =>
          (try simp only [List.getElem?_toArray])
          (try simp only [List.getElem?_cons_succ])
          (try simp only [List.getElem?_cons_zero])
          (try exact rfl)
        go_simp
        go_at_call 27
        refine (CFP.out A6 m6 c6 _ BE1.out hT6).mono ?_
        rintro e v2 ⟨rfl, hb⟩
        have BE2 := Lib.hid (below_then BE1.out hb)
        clear hb
        (try go_wp2_with fail)
        refine hK.out _ _ (by exact HC12.out _ BE2.out) (fun hHeld => ?_)
        clear hK K
        (try simp only [Act.put])
        (try simp only [List.setIfInBounds_toArray])
        (try simp only [List.set_cons_succ])
        (try simp only [List.set_cons_zero])
        refine wpAnyH_take (i := 11) (oi := ?oi1x11) (v := ?v1x11) ?hi1x11 (by kernel_rfl) (by kernel_rfl) (by kernel_rfl) ?hq1x11 ?hy1x11 (by assumption) ?rest1x11
        case hi1x11 =>
          (try simp only [List.getElem?_toArray])
          (try simp only [List.getElem?_cons_succ])
          (try simp only [List.getElem?_cons_zero])
          (try exact rfl)
        case hq1x11 => exact fun _ _ _ h => h
        case hy1x11 =>
          refine Or.inl ⟨by rfl, ?_⟩
          (intro w hSw; (try dsimp only at hSw); go_simp; try with_reducible rfl)
        (try simp only [Act.put])
        (try simp only [List.setIfInBounds_toArray])
        (try simp only [List.set_cons_succ])
        (try simp only [List.set_cons_zero])
        refine wpAnyH_take (i := 12) (oi := ?oi1x12) (v := ?v1x12) ?hi1x12 (by kernel_rfl) (by kernel_rfl) (by kernel_rfl) ?hq1x12 ?hy1x12 (by assumption) ?rest1x12
        case hi1x12 =>
          (try simp only [List.getElem?_toArray])
          (try simp only [List.getElem?_cons_succ])
          (try simp only [List.getElem?_cons_zero])
          (try exact rfl)
        case hq1x12 => exact fun _ _ _ h => h
        case hy1x12 =>
          refine Or.inl ⟨by rfl, ?_⟩
          (intro w hSw; (try dsimp only at hSw); go_simp; try with_reducible rfl)
        (try simp only [Act.put])
        (try simp only [List.setIfInBounds_toArray])
        (try simp only [List.set_cons_succ])
        (try simp only [List.set_cons_zero])
        refine wpAnyH_take (i := 13) (oi := ?oi1x13) (v := ?v1x13) ?hi1x13 (by kernel_rfl) (by kernel_rfl) (by kernel_rfl) ?hq1x13 ?hy1x13 (by assumption) ?rest1x13
        case hi1x13 =>
          (try simp only [List.getElem?_toArray])
          (try simp only [List.getElem?_cons_succ])
          (try simp only [List.getElem?_cons_zero])
          (try exact rfl)
        case hq1x13 => exact fun _ _ _ h => h
        case hy1x13 =>
          refine Or.inl ⟨by rfl, ?_⟩
          (intro w hSw; (try dsimp only at hSw); go_simp; try with_reducible rfl)
        (try simp only [Act.put])
        (try simp only [List.setIfInBounds_toArray])
        (try simp only [List.set_cons_succ])
        (try simp only [List.set_cons_zero])
        refine wpAnyH_ready (rs := [14]) (by kernel_rfl) (by simp) ?_
        refine AllReadyH.cons (o := ?oi1x14) ?hi1x14 (fun K hK => ?rest1x14) AllReadyH.nil
        case hi1x14 =>
          (try simp only [List.getElem?_toArray])
          (try simp only [List.getElem?_cons_succ])
          (try simp only [List.getElem?_cons_zero])
          (try exact rfl)
        go_simp
        go_at_call 13
        refine (CD12.out _ BE2.out).mono ?_
        rintro e v3 ⟨rfl, hb⟩
        have BE3 := Lib.hid (below_then BE2.out hb)
        clear hb
        (try go_wp2_with fail)
        refine hK.out _ _ (by exact HC12.out _ BE3.out) (fun hHeld => ?_)
        clear hK K
        (try simp only [Act.put])
        (try simp only [List.setIfInBounds_toArray])
        (try simp only [List.set_cons_succ])
        (try simp only [List.set_cons_zero])
        refine wpAnyH_take (i := 15) (oi := ?oi1x15) (v := ?v1x15) ?hi1x15 (by kernel_rfl) (by kernel_rfl) (by kernel_rfl) ?hq1x15 ?hy1x15 (by assumption) ?rest1x15
        case hi1x15 =>
          (try simp only [List.getElem?_toArray])
          (try simp only [List.getElem?_cons_succ])
          (try simp only [List.getElem?_cons_zero])
          (try exact rfl)
        case hq1x15 => exact fun _ _ _ h => h
        case hy1x15 =>
          refine Or.inl ⟨by rfl, ?_⟩
          (intro w hSw; (try dsimp only at hSw); go_simp; try with_reducible rfl)
        (try simp only [Act.put])
        (try simp only [List.setIfInBounds_toArray])
        (try simp only [List.set_cons_succ])
        (try simp only [List.set_cons_zero])
        refine wpAnyH_take (i := 16) (oi := ?oi1x16) (v := ?v1x16) ?hi1x16 (by kernel_rfl) (by kernel_rfl) (by kernel_rfl) ?hq1x16 ?hy1x16 (by assumption) ?rest1x16
        case hi1x16 =>
          (try simp only [List.getElem?_toArray])
          (try simp only [List.getElem?_cons_succ])
          (try simp only [List.getElem?_cons_zero])
          (try exact rfl)
        case hq1x16 => exact fun _ _ _ h => h
        case hy1x16 =>
          refine Or.inl ⟨by rfl, ?_⟩
          (intro w hSw; (try dsimp only at hSw); go_simp; try with_reducible rfl)
        (try simp only [Act.put])
        (try simp only [List.setIfInBounds_toArray])
        (try simp only [List.set_cons_succ])
        (try simp only [List.set_cons_zero])
        refine wpAnyH_take (i := 17) (oi := ?oi1x17) (v := undef) ?hi1x17 (by kernel_rfl) (by kernel_rfl) (by kernel_rfl) ?hq1x17 ?hy1x17 (by assumption) ?rest1x17
        case hi1x17 =>
          (try simp only [List.getElem?_toArray])
          (try simp only [List.getElem?_cons_succ])
          (try simp only [List.getElem?_cons_zero])
          (try exact rfl)
        case hq1x17 => exact fun _ _ _ h => h
        case hy1x17 =>
          exact Or.inr ⟨by rfl, rfl⟩
        (try simp only [Act.put])
        (try simp only [List.setIfInBounds_toArray])
        (try simp only [List.set_cons_succ])
        (try simp only [List.set_cons_zero])
        refine wpAnyH_take (i := 18) (oi := ?oi1x18) (v := undef) ?hi1x18 (by kernel_rfl) (by kernel_rfl) (by kernel_rfl) ?hq1x18 ?hy1x18 (by assumption) ?rest1x18
        case hi1x18 =>
          (try simp only [List.getElem?_toArray])
          (try simp only [List.getElem?_cons_succ])
          (try simp only [List.getElem?_cons_zero])
          (try exact rfl)
        case hq1x18 => exact fun _ _ _ h => h
        case hy1x18 =>
          exact Or.inr ⟨by rfl, rfl⟩
        (try simp only [Act.put])
        (try simp only [List.setIfInBounds_toArray])
        (try simp only [List.set_cons_succ])
        (try simp only [List.set_cons_zero])
        refine wpAnyH_take (i := 19) (oi := ?oi1x19) (v := undef) ?hi1x19 (by kernel_rfl) (by kernel_rfl) (by kernel_rfl) ?hq1x19 ?hy1x19 (by assumption) ?rest1x19
        case hi1x19 =>
          (try simp only [List.getElem?_toArray])
          (try simp only [List.getElem?_cons_succ])
          (try simp only [List.getElem?_cons_zero])
          (try exact rfl)
        case hq1x19 => exact fun _ _ _ h => h
        case hy1x19 =>
          exact Or.inr ⟨by rfl, rfl⟩
        (try simp only [Act.put])
        (try simp only [List.setIfInBounds_toArray])
        (try simp only [List.set_cons_succ])
        (try simp only [List.set_cons_zero])
        refine wpAnyH_take (i := 20) (oi := ?oi1x20) (v := undef) ?hi1x20 (by kernel_rfl) (by kernel_rfl) (by kernel_rfl) ?hq1x20 ?hy1x20 (by assumption) ?rest1x20
        case hi1x20 =>
          (try simp only [List.getElem?_toArray])
          (try simp only [List.getElem?_cons_succ])
          (try simp only [List.getElem?_cons_zero])
          (try exact rfl)
        case hq1x20 => exact fun _ _ _ h => h
        case hy1x20 =>
          exact Or.inr ⟨by rfl, rfl⟩
        (try simp only [Act.put])
        (try simp only [List.setIfInBounds_toArray])
        (try simp only [List.set_cons_succ])
        (try simp only [List.set_cons_zero])
        refine wpAnyH_take (i := 21) (oi := ?oi1x21) (v := ?v1x21) ?hi1x21 (by kernel_rfl) (by kernel_rfl) (by kernel_rfl) ?hq1x21 ?hy1x21 (by assumption) ?rest1x21
        case hi1x21 =>
          (try simp only [List.getElem?_toArray])
          (try simp only [List.getElem?_cons_succ])
          (try simp only [List.getElem?_cons_zero])
          (try exact rfl)
        case hq1x21 => exact fun _ _ _ h => h
        case hy1x21 =>
          refine Or.inl ⟨by rfl, ?_⟩
          (intro w hSw; (try dsimp only at hSw); go_simp; try with_reducible rfl)
        (try simp only [Act.put])
        (try simp only [List.setIfInBounds_toArray])
        (try simp only [List.set_cons_succ])
        (try simp only [List.set_cons_zero])
        refine wpAnyH_take (i := 22) (oi := ?oi1x22) (v := ?v1x22) ?hi1x22 (by kernel_rfl) (by kernel_rfl) (by kernel_rfl) ?hq1x22 ?hy1x22 (by assumption) ?rest1x22
        case hi1x22 =>
          (try simp only [List.getElem?_toArray])
          (try simp only [List.getElem?_cons_succ])
          (try simp only [List.getElem?_cons_zero])
          (try exact rfl)
        case hq1x22 => exact fun _ _ _ h => h
        case hy1x22 =>
          refine Or.inl ⟨by rfl, ?_⟩
          (intro w hSw; (try dsimp only at hSw); go_simp; try with_reducible rfl)
        (try simp only [Act.put])
        (try simp only [List.setIfInBounds_toArray])
        (try simp only [List.set_cons_succ])
        (try simp only [List.set_cons_zero])
        refine wpAnyH_take (i := 23) (oi := ?oi1x23) (v := undef) ?hi1x23 (by kernel_rfl) (by kernel_rfl) (by kernel_rfl) ?hq1x23 ?hy1x23 (by assumption) ?rest1x23
        case hi1x23 =>
          (try simp only [List.getElem?_toArray])
          (try simp only [List.getElem?_cons_succ])
          (try simp only [List.getElem?_cons_zero])
          (try exact rfl)
        case hq1x23 => exact fun _ _ _ h => h
        case hy1x23 =>
          exact Or.inr ⟨by rfl, rfl⟩
        (try simp only [Act.put])
        (try simp only [List.setIfInBounds_toArray])
        (try simp only [List.set_cons_succ])
        (try simp only [List.set_cons_zero])
        refine wpAnyH_take (i := 24) (oi := ?oi1x24) (v := undef) ?hi1x24 (by kernel_rfl) (by kernel_rfl) (by kernel_rfl) ?hq1x24 ?hy1x24 (by assumption) ?rest1x24
        case hi1x24 =>
          (try simp only [List.getElem?_toArray])
          (try simp only [List.getElem?_cons_succ])
          (try simp only [List.getElem?_cons_zero])
          (try exact rfl)
        case hq1x24 => exact fun _ _ _ h => h
        case hy1x24 =>
          exact Or.inr ⟨by rfl, rfl⟩
        (try simp only [Act.put])
        (try simp only [List.setIfInBounds_toArray])
        (try simp only [List.set_cons_succ])
        (try simp only [List.set_cons_zero])
        refine wpAnyH_take (i := 25) (oi := ?oi1x25) (v := undef) ?hi1x25 (by kernel_rfl) (by kernel_rfl) (by kernel_rfl) ?hq1x25 ?hy1x25 (by assumption) ?rest1x25
        case hi1x25 =>
          (try simp only [List.getElem?_toArray])
          (try simp only [List.getElem?_cons_succ])
          (try simp only [List.getElem?_cons_zero])
          (try exact rfl)
        case hq1x25 => exact fun _ _ _ h => h
        case hy1x25 =>
          exact Or.inr ⟨by rfl, rfl⟩
        (try simp only [Act.put])
        (try simp only [List.setIfInBounds_toArray])
        (try simp only [List.set_cons_succ])
        (try simp only [List.set_cons_zero])
        refine wpAnyH_take (i := 26) (oi := ?oi1x26) (v := ?v1x26) ?hi1x26 (by kernel_rfl) (by kernel_rfl) (by kernel_rfl) ?hq1x26 ?hy1x26 (by assumption) ?rest1x26
        case hi1x26 =>
          (try simp only [List.getElem?_toArray])
          (try simp only [List.getElem?_cons_succ])
          (try simp only [List.getElem?_cons_zero])
          (try exact rfl)
        case hq1x26 => exact fun _ _ _ h => h
        case hy1x26 =>
          refine Or.inl ⟨by rfl, ?_⟩
          (intro w hSw; (try dsimp only at hSw); go_simp; try with_reducible rfl)
        (try simp only [Act.put])
        (try simp only [List.setIfInBounds_toArray])
        (try simp only [List.set_cons_succ])
        (try simp only [List.set_cons_zero])
        refine wpAnyH_take (i := 27) (oi := ?oi1x27) (v := ?v1x27) ?hi1x27 (by kernel_rfl) (by kernel_rfl) (by kernel_rfl) ?hq1x27 ?hy1x27 (by assumption) ?rest1x27
        case hi1x27 =>
          (try simp only [List.getElem?_toArray])
          (try simp only [List.getElem?_cons_succ])
          (try simp only [List.getElem?_cons_zero])
          (try exact rfl)
        case hq1x27 => exact fun _ _ _ h => h
        case hy1x27 =>
          refine Or.inl ⟨by rfl, ?_⟩
          (intro w hSw; (try dsimp only at hSw); go_simp; try with_reducible rfl)
        (try simp only [Act.put])
        (try simp only [List.setIfInBounds_toArray])
        (try simp only [List.set_cons_succ])
        (try simp only [List.set_cons_zero])
        refine wpAnyH_take (i := 28) (oi := ?oi1x28) (v := ?v1x28) ?hi1x28 (by kernel_rfl) (by kernel_rfl) (by kernel_rfl) ?hq1x28 ?hy1x28 (by assumption) ?rest1x28
        case hi1x28 =>
          (try simp only [List.getElem?_toArray])
          (try simp only [List.getElem?_cons_succ])
          (try simp only [List.getElem?_cons_zero])
          (try exact rfl)
        case hq1x28 => exact fun _ _ _ h => h
        case hy1x28 =>
          refine Or.inl ⟨by rfl, ?_⟩
          (intro w hSw; (try dsimp only at hSw); go_simp; try with_reducible rfl)
        (try simp only [Act.put])
        (try simp only [List.setIfInBounds_toArray])
        (try simp only [List.set_cons_succ])
        (try simp only [List.set_cons_zero])
        refine wpAnyH_done (by kernel_rfl) ?_ _
        refine NoPanic.normal ?_
        go_wp2_with fail
        go_meet
        exact ⟨rfl, BE3⟩
      · as_aux_lemma =>
        refine wp_region_noPanic ?_
        refine wp_region_held_drew (S := fun W => W.cell? ⟨g, 0, none⟩ = some (.int .i64 t.kind) ∧ W.cell? ⟨g, 1, none⟩ = some (.int .i64 t.num) ∧ W.cell? ⟨g, 2, none⟩ = some (.slice A m c) ∧ W.cell? ⟨g + 1, 0, none⟩ = some (.int .i64 b.kind) ∧ W.cell? ⟨g + 1, 1, none⟩ = some (.int .i64 b.num) ∧ W.cell? ⟨g + 1, 2, none⟩ = some (.slice B n d) ∧ W.cell? ⟨gc, 0, none⟩ = some (.int .i64 t.kind) ∧ W.cell? ⟨gc, 1, none⟩ = some (.int .i64 t.num) ∧ W.cell? ⟨gc, 2, none⟩ = some (.slice A2 m c2) ∧ W.cell? ⟨gq, 0, none⟩ = some (.int .i64 P.kind) ∧ W.cell? ⟨gq, 1, none⟩ = some (.int .i64 P.num) ∧ W.cell? ⟨gq, 2, none⟩ = some (.slice A4 m4 c4)) (by kernel_rfl) (by exact HC12.out _ BE0.out) (fun hHeld => ?_)
        refine wpAnyH_take (i := 0) (oi := ?oi2x0) (v := ?v2x0) ?hi2x0 (by kernel_rfl) (by kernel_rfl) (by kernel_rfl) ?hq2x0 ?hy2x0 (by assumption) ?rest2x0
        case hi2x0 =>
          (try simp only [List.getElem?_toArray])
          (try simp only [List.getElem?_cons_succ])
          (try simp only [List.getElem?_cons_zero])
          (try exact rfl)
        case hq2x0 => exact fun _ _ _ h => h
        case hy2x0 =>
          refine Or.inl ⟨by rfl, ?_⟩
          (intro w hSw; (try dsimp only at hSw); go_simp; try with_reducible rfl)
        (try simp only [Act.put])
        (try simp only [List.setIfInBounds_toArray])
        (try simp only [List.set_cons_succ])
        (try simp only [List.set_cons_zero])
        refine wpAnyH_take (i := 1) (oi := ?oi2x1) (v := ?v2x1) ?hi2x1 (by kernel_rfl) (by kernel_rfl) (by kernel_rfl) ?hq2x1 ?hy2x1 (by assumption) ?rest2x1
        case hi2x1 =>
          (try simp only [List.getElem?_toArray])
          (try simp only [List.getElem?_cons_succ])
          (try simp only [List.getElem?_cons_zero])
          (try exact rfl)
        case hq2x1 => exact fun _ _ _ h => h
        case hy2x1 =>
          refine Or.inl ⟨by rfl, ?_⟩
          (intro w hSw; (try dsimp only at hSw); go_simp; try with_reducible rfl)
        (try simp only [Act.put])
        (try simp only [List.setIfInBounds_toArray])
        (try simp only [List.set_cons_succ])
        (try simp only [List.set_cons_zero])
        refine wpAnyH_take (i := 2) (oi := ?oi2x2) (v := ?v2x2) ?hi2x2 (by kernel_rfl) (by kernel_rfl) (by kernel_rfl) ?hq2x2 ?hy2x2 (by assumption) ?rest2x2
        case hi2x2 =>
          (try simp only [List.getElem?_toArray])
          (try simp only [List.getElem?_cons_succ])
          (try simp only [List.getElem?_cons_zero])
          (try exact rfl)
        case hq2x2 => exact fun _ _ _ h => h
        case hy2x2 =>
          refine Or.inl ⟨by rfl, ?_⟩
          (intro w hSw; (try dsimp only at hSw); go_simp; try with_reducible rfl)
        (try simp only [Act.put])
        (try simp only [List.setIfInBounds_toArray])
        (try simp only [List.set_cons_succ])
        (try simp only [List.set_cons_zero])
        refine wpAnyH_take (i := 3) (oi := ?oi2x3) (v := ?v2x3) ?hi2x3 (by kernel_rfl) (by kernel_rfl) (by kernel_rfl) ?hq2x3 ?hy2x3 (by assumption) ?rest2x3
        case hi2x3 =>
          (try simp only [List.getElem?_toArray])
          (try simp only [List.getElem?_cons_succ])
          (try simp only [List.getElem?_cons_zero])
          (try exact rfl)
        case hq2x3 => exact fun _ _ _ h => h
        case hy2x3 =>
          refine Or.inl ⟨by rfl, ?_⟩
          (intro w hSw; (try dsimp only at hSw); go_simp; try with_reducible rfl)
        (try simp only [Act.put])
        (try simp only [List.setIfInBounds_toArray])
        (try simp only [List.set_cons_succ])
        (try simp only [List.set_cons_zero])
        refine wpAnyH_take (i := 4) (oi := ?oi2x4) (v := ?v2x4) ?hi2x4 (by kernel_rfl) (by kernel_rfl) (by kernel_rfl) ?hq2x4 ?hy2x4 (by assumption) ?rest2x4
        case hi2x4 =>
          (try simp only [List.getElem?_toArray])
          (try simp only [List.getElem?_cons_succ])
          (try simp only [List.getElem?_cons_zero])
          (try exact rfl)
        case hq2x4 => exact fun _ _ _ h => h
        case hy2x4 =>
          refine Or.inl ⟨by rfl, ?_⟩
          (intro w hSw; (try dsimp only at hSw); go_simp; try with_reducible rfl)
        (try simp only [Act.put])
        (try simp only [List.setIfInBounds_toArray])
        (try simp only [List.set_cons_succ])
        (try simp only [List.set_cons_zero])
        refine wpAnyH_take (i := 5) (oi := ?oi2x5) (v := ?v2x5) ?hi2x5 (by kernel_rfl) (by kernel_rfl) (by kernel_rfl) ?hq2x5 ?hy2x5 (by assumption) ?rest2x5
        case hi2x5 =>
          (try simp only [List.getElem?_toArray])
          (try simp only [List.getElem?_cons_succ])
          (try simp only [List.getElem?_cons_zero])
          (try exact rfl)
        case hq2x5 => exact fun _ _ _ h => h
        case hy2x5 =>
          refine Or.inl ⟨by rfl, ?_⟩
          (intro w hSw; (try dsimp only at hSw); go_simp; try with_reducible rfl)
        (try simp only [Act.put])
        (try simp only [List.setIfInBounds_toArray])
        (try simp only [List.set_cons_succ])
        (try simp only [List.set_cons_zero])
        refine wpAnyH_take (i := 6) (oi := ?oi2x6) (v := ?v2x6) ?hi2x6 (by kernel_rfl) (by kernel_rfl) (by kernel_rfl) ?hq2x6 ?hy2x6 (by assumption) ?rest2x6
        case hi2x6 =>
          (try simp only [List.getElem?_toArray])
          (try simp only [List.getElem?_cons_succ])
          (try simp only [List.getElem?_cons_zero])
          (try exact rfl)
        case hq2x6 => exact fun _ _ _ h => h
        case hy2x6 =>
          refine Or.inl ⟨by rfl, ?_⟩
          (intro w hSw; (try dsimp only at hSw); go_simp; try with_reducible rfl)
        (try simp only [Act.put])
        (try simp only [List.setIfInBounds_toArray])
        (try simp only [List.set_cons_succ])
        (try simp only [List.set_cons_zero])
        refine wpAnyH_take (i := 7) (oi := ?oi2x7) (v := ?v2x7) ?hi2x7 (by kernel_rfl) (by kernel_rfl) (by kernel_rfl) ?hq2x7 ?hy2x7 (by assumption) ?rest2x7
        case hi2x7 =>
          (try simp only [List.getElem?_toArray])
          (try simp only [List.getElem?_cons_succ])
          (try simp only [List.getElem?_cons_zero])
          (try exact rfl)
        case hq2x7 => exact fun _ _ _ h => h
        case hy2x7 =>
          refine Or.inl ⟨by rfl, ?_⟩
          (intro w hSw; (try dsimp only at hSw); go_simp; try with_reducible rfl)
        (try simp only [Act.put])
        (try simp only [List.setIfInBounds_toArray])
        (try simp only [List.set_cons_succ])
        (try simp only [List.set_cons_zero])
        refine wpAnyH_take (i := 8) (oi := ?oi2x8) (v := ?v2x8) ?hi2x8 (by kernel_rfl) (by kernel_rfl) (by kernel_rfl) ?hq2x8 ?hy2x8 (by assumption) ?rest2x8
        case hi2x8 =>
          (try simp only [List.getElem?_toArray])
          (try simp only [List.getElem?_cons_succ])
          (try simp only [List.getElem?_cons_zero])
          (try exact rfl)
        case hq2x8 => exact fun _ _ _ h => h
        case hy2x8 =>
          refine Or.inl ⟨by rfl, ?_⟩
          (intro w hSw; (try dsimp only at hSw); go_simp; try with_reducible rfl)
        (try simp only [Act.put])
        (try simp only [List.setIfInBounds_toArray])
        (try simp only [List.set_cons_succ])
        (try simp only [List.set_cons_zero])
        refine wpAnyH_ready (rs := [9]) (by kernel_rfl) (by simp) ?_
        refine AllReadyH.cons (o := ?oi2x9) ?hi2x9 (fun K hK => ?rest2x9) AllReadyH.nil
        case hi2x9 =>
          (try simp only [List.getElem?_toArray])
          (try simp only [List.getElem?_cons_succ])
          (try simp only [List.getElem?_cons_zero])
          (try exact rfl)
        go_simp
        go_at_call 28
        refine (CR12.out _ BE0.out).mono ?_
        rintro e v1 ⟨A6, m6, c6, rfl, hT6, hb⟩
        have BE1 := Lib.hid (below_then BE0.out hb.out)
        clear hb
        (try go_wp2_with fail)
        refine hK.out _ _ (by exact HC12.out _ BE1.out) (fun hHeld => ?_)
        clear hK K
        (try simp only [Act.put])
        (try simp only [List.setIfInBounds_toArray])
        (try simp only [List.set_cons_succ])
        (try simp only [List.set_cons_zero])
        refine wpAnyH_ready (rs := [10]) (by kernel_rfl) (by simp) ?_
        refine AllReadyH.cons (o := ?oi2x10) ?hi2x10 (fun K hK => ?rest2x10) AllReadyH.nil
        case hi2x10 =>
          (try simp only [List.getElem?_toArray])
          (try simp only [List.getElem?_cons_succ])
          (try simp only [List.getElem?_cons_zero])
          (try exact rfl)
        go_simp
        go_at_call 27
        refine (CFP.out A6 m6 c6 _ BE1.out hT6).mono ?_
        rintro e v2 ⟨rfl, hb⟩
        have BE2 := Lib.hid (below_then BE1.out hb)
        clear hb
        (try go_wp2_with fail)
        refine hK.out _ _ (by exact HC12.out _ BE2.out) (fun hHeld => ?_)
        clear hK K
        (try simp only [Act.put])
        (try simp only [List.setIfInBounds_toArray])
        (try simp only [List.set_cons_succ])
        (try simp only [List.set_cons_zero])
        refine wpAnyH_take (i := 11) (oi := ?oi2x11) (v := ?v2x11) ?hi2x11 (by kernel_rfl) (by kernel_rfl) (by kernel_rfl) ?hq2x11 ?hy2x11 (by assumption) ?rest2x11
        case hi2x11 =>
          (try simp only [List.getElem?_toArray])
          (try simp only [List.getElem?_cons_succ])
          (try simp only [List.getElem?_cons_zero])
          (try exact rfl)
        case hq2x11 => exact fun _ _ _ h => h
        case hy2x11 =>
          refine Or.inl ⟨by rfl, ?_⟩
          (intro w hSw; (try dsimp only at hSw); go_simp; try with_reducible rfl)
        (try simp only [Act.put])
        (try simp only [List.setIfInBounds_toArray])
        (try simp only [List.set_cons_succ])
        (try simp only [List.set_cons_zero])
        refine wpAnyH_take (i := 12) (oi := ?oi2x12) (v := ?v2x12) ?hi2x12 (by kernel_rfl) (by kernel_rfl) (by kernel_rfl) ?hq2x12 ?hy2x12 (by assumption) ?rest2x12
        case hi2x12 =>
          (try simp only [List.getElem?_toArray])
          (try simp only [List.getElem?_cons_succ])
          (try simp only [List.getElem?_cons_zero])
          (try exact rfl)
        case hq2x12 => exact fun _ _ _ h => h
        case hy2x12 =>
          refine Or.inl ⟨by rfl, ?_⟩
          (intro w hSw; (try dsimp only at hSw); go_simp; try with_reducible rfl)
        (try simp only [Act.put])
        (try simp only [List.setIfInBounds_toArray])
        (try simp only [List.set_cons_succ])
        (try simp only [List.set_cons_zero])
        refine wpAnyH_take (i := 13) (oi := ?oi2x13) (v := ?v2x13) ?hi2x13 (by kernel_rfl) (by kernel_rfl) (by kernel_rfl) ?hq2x13 ?hy2x13 (by assumption) ?rest2x13
        case hi2x13 =>
          (try simp only [List.getElem?_toArray])
          (try simp only [List.getElem?_cons_succ])
          (try simp only [List.getElem?_cons_zero])
          (try exact rfl)
        case hq2x13 => exact fun _ _ _ h => h
        case hy2x13 =>
          refine Or.inl ⟨by rfl, ?_⟩
          (intro w hSw; (try dsimp only at hSw); go_simp; try with_reducible rfl)
        (try simp only [Act.put])
        (try simp only [List.setIfInBounds_toArray])
        (try simp only [List.set_cons_succ])
        (try simp only [List.set_cons_zero])
        refine wpAnyH_ready (rs := [14]) (by kernel_rfl) (by simp) ?_
        refine AllReadyH.cons (o := ?oi2x14) ?hi2x14 (fun K hK => ?rest2x14) AllReadyH.nil
        case hi2x14 =>
          (try simp only [List.getElem?_toArray])
          (try simp only [List.getElem?_cons_succ])
          (try simp only [List.getElem?_cons_zero])
          (try exact rfl)
        go_simp
        go_at_call 13
        refine (CD12.out _ BE2.out).mono ?_
        rintro e v3 ⟨rfl, hb⟩
        have BE3 := Lib.hid (below_then BE2.out hb)
        clear hb
        (try go_wp2_with fail)
        refine hK.out _ _ (by exact HC12.out _ BE3.out) (fun hHeld => ?_)
        clear hK K
        (try simp only [Act.put])
        (try simp only [List.setIfInBounds_toArray])
        (try simp only [List.set_cons_succ])
        (try simp only [List.set_cons_zero])
        refine wpAnyH_take (i := 15) (oi := ?oi2x15) (v := ?v2x15) ?hi2x15 (by kernel_rfl) (by kernel_rfl) (by kernel_rfl) ?hq2x15 ?hy2x15 (by assumption) ?rest2x15
        case hi2x15 =>
          (try simp only [List.getElem?_toArray])
          (try simp only [List.getElem?_cons_succ])
          (try simp only [List.getElem?_cons_zero])
          (try exact rfl)
        case hq2x15 => exact fun _ _ _ h => h
        case hy2x15 =>
          refine Or.inl ⟨by rfl, ?_⟩
          (intro w hSw; (try dsimp only at hSw); go_simp; try with_reducible rfl)
        (try simp only [Act.put])
        (try simp only [List.setIfInBounds_toArray])
        (try simp only [List.set_cons_succ])
        (try simp only [List.set_cons_zero])
        refine wpAnyH_take (i := 16) (oi := ?oi2x16) (v := ?v2x16) ?hi2x16 (by kernel_rfl) (by kernel_rfl) (by kernel_rfl) ?hq2x16 ?hy2x16 (by assumption) ?rest2x16
        case hi2x16 =>
          (try simp only [List.getElem?_toArray])
          (try simp only [List.getElem?_cons_succ])
          (try simp only [List.getElem?_cons_zero])
          (try exact rfl)
        case hq2x16 => exact fun _ _ _ h => h
        case hy2x16 =>
          refine Or.inl ⟨by rfl, ?_⟩
          (intro w hSw; (try dsimp only at hSw); go_simp; try with_reducible rfl)
        (try simp only [Act.put])
        (try simp only [List.setIfInBounds_toArray])
        (try simp only [List.set_cons_succ])
        (try simp only [List.set_cons_zero])
        refine wpAnyH_take (i := 17) (oi := ?oi2x17) (v := ?v2x17) ?hi2x17 (by kernel_rfl) (by kernel_rfl) (by kernel_rfl) ?hq2x17 ?hy2x17 (by assumption) ?rest2x17
        case hi2x17 =>
          (try simp only [List.getElem?_toArray])
          (try simp only [List.getElem?_cons_succ])
          (try simp only [List.getElem?_cons_zero])
          (try exact rfl)
        case hq2x17 => exact fun _ _ _ h => h
        case hy2x17 =>
          refine Or.inl ⟨by rfl, ?_⟩
          (intro w hSw; (try dsimp only at hSw); go_simp; try with_reducible rfl)
        (try simp only [Act.put])
        (try simp only [List.setIfInBounds_toArray])
        (try simp only [List.set_cons_succ])
        (try simp only [List.set_cons_zero])
        refine wpAnyH_take (i := 18) (oi := ?oi2x18) (v := ?v2x18) ?hi2x18 (by kernel_rfl) (by kernel_rfl) (by kernel_rfl) ?hq2x18 ?hy2x18 (by assumption) ?rest2x18
        case hi2x18 =>
          (try simp only [List.getElem?_toArray])
          (try simp only [List.getElem?_cons_succ])
          (try simp only [List.getElem?_cons_zero])
          (try exact rfl)
        case hq2x18 => exact fun _ _ _ h => h
        case hy2x18 =>
          refine Or.inl ⟨by rfl, ?_⟩
          (intro w hSw; (try dsimp only at hSw); go_simp; try with_reducible rfl)
        (try simp only [Act.put])
        (try simp only [List.setIfInBounds_toArray])
        (try simp only [List.set_cons_succ])
        (try simp only [List.set_cons_zero])
        refine wpAnyH_ready (rs := [19]) (by kernel_rfl) (by simp) ?_
        refine AllReadyH.cons (o := ?oi2x19) ?hi2x19 (fun K hK => ?rest2x19) AllReadyH.nil
        case hi2x19 =>
          (try simp only [List.getElem?_toArray])
          (try simp only [List.getElem?_cons_succ])
          (try simp only [List.getElem?_cons_zero])
          (try exact rfl)
        go_simp
        go_at_call 26
        refine (CS.out _ BE3.out).mono ?_
        rintro e v4 ⟨rfl, hb⟩
        have BE4 := Lib.hid (below_then BE3.out hb)
        clear hb
        (try go_wp2_with fail)
        refine hK.out _ _ (by exact HC12.out _ BE4.out) (fun hHeld => ?_)
        clear hK K
        (try simp only [Act.put])
        (try simp only [List.setIfInBounds_toArray])
        (try simp only [List.set_cons_succ])
        (try simp only [List.set_cons_zero])
        refine wpAnyH_take (i := 20) (oi := ?oi2x20) (v := ?v2x20) ?hi2x20 (by kernel_rfl) (by kernel_rfl) (by kernel_rfl) ?hq2x20 ?hy2x20 (by assumption) ?rest2x20
        case hi2x20 =>
          (try simp only [List.getElem?_toArray])
          (try simp only [List.getElem?_cons_succ])
          (try simp only [List.getElem?_cons_zero])
          (try exact rfl)
        case hq2x20 => exact fun _ _ _ h => h
        case hy2x20 =>
          refine Or.inl ⟨by rfl, ?_⟩
          (intro w hSw; (try dsimp only at hSw); go_simp; try with_reducible rfl)
        (try simp only [Act.put])
        (try simp only [List.setIfInBounds_toArray])
        (try simp only [List.set_cons_succ])
        (try simp only [List.set_cons_zero])
        refine wpAnyH_take (i := 21) (oi := ?oi2x21) (v := ?v2x21) ?hi2x21 (by kernel_rfl) (by kernel_rfl) (by kernel_rfl) ?hq2x21 ?hy2x21 (by assumption) ?rest2x21
        case hi2x21 =>
          (try simp only [List.getElem?_toArray])
          (try simp only [List.getElem?_cons_succ])
          (try simp only [List.getElem?_cons_zero])
          (try exact rfl)
        case hq2x21 => exact fun _ _ _ h => h
        case hy2x21 =>
          refine Or.inl ⟨by rfl, ?_⟩
          (intro w hSw; (try dsimp only at hSw); go_simp; try with_reducible rfl)
        (try simp only [Act.put])
        (try simp only [List.setIfInBounds_toArray])
        (try simp only [List.set_cons_succ])
        (try simp only [List.set_cons_zero])
        refine wpAnyH_take (i := 22) (oi := ?oi2x22) (v := ?v2x22) ?hi2x22 (by kernel_rfl) (by kernel_rfl) (by kernel_rfl) ?hq2x22 ?hy2x22 (by assumption) ?rest2x22
        case hi2x22 =>
          (try simp only [List.getElem?_toArray])
          (try simp only [List.getElem?_cons_succ])
          (try simp only [List.getElem?_cons_zero])
          (try exact rfl)
        case hq2x22 => exact fun _ _ _ h => h
        case hy2x22 =>
          refine Or.inl ⟨by rfl, ?_⟩
          (intro w hSw; (try dsimp only at hSw); go_simp; try with_reducible rfl)
        (try simp only [Act.put])
        (try simp only [List.setIfInBounds_toArray])
        (try simp only [List.set_cons_succ])
        (try simp only [List.set_cons_zero])
        refine wpAnyH_take (i := 23) (oi := ?oi2x23) (v := undef) ?hi2x23 (by kernel_rfl) (by kernel_rfl) (by kernel_rfl) ?hq2x23 ?hy2x23 (by assumption) ?rest2x23
        case hi2x23 =>
          (try simp only [List.getElem?_toArray])
          (try simp only [List.getElem?_cons_succ])
          (try simp only [List.getElem?_cons_zero])
          (try exact rfl)
        case hq2x23 => exact fun _ _ _ h => h
        case hy2x23 =>
          exact Or.inr ⟨by rfl, rfl⟩
        (try simp only [Act.put])
        (try simp only [List.setIfInBounds_toArray])
        (try simp only [List.set_cons_succ])
        (try simp only [List.set_cons_zero])
        refine wpAnyH_take (i := 24) (oi := ?oi2x24) (v := undef) ?hi2x24 (by kernel_rfl) (by kernel_rfl) (by kernel_rfl) ?hq2x24 ?hy2x24 (by assumption) ?rest2x24
        case hi2x24 =>
          (try simp only [List.getElem?_toArray])
          (try simp only [List.getElem?_cons_succ])
          (try simp only [List.getElem?_cons_zero])
          (try exact rfl)
        case hq2x24 => exact fun _ _ _ h => h
        case hy2x24 =>
          exact Or.inr ⟨by rfl, rfl⟩
        (try simp only [Act.put])
        (try simp only [List.setIfInBounds_toArray])
        (try simp only [List.set_cons_succ])
        (try simp only [List.set_cons_zero])
        refine wpAnyH_take (i := 25) (oi := ?oi2x25) (v := undef) ?hi2x25 (by kernel_rfl) (by kernel_rfl) (by kernel_rfl) ?hq2x25 ?hy2x25 (by assumption) ?rest2x25
        case hi2x25 =>
          (try simp only [List.getElem?_toArray])
          (try simp only [List.getElem?_cons_succ])
          (try simp only [List.getElem?_cons_zero])
          (try exact rfl)
        case hq2x25 => exact fun _ _ _ h => h
        case hy2x25 =>
          exact Or.inr ⟨by rfl, rfl⟩
        (try simp only [Act.put])
        (try simp only [List.setIfInBounds_toArray])
        (try simp only [List.set_cons_succ])
        (try simp only [List.set_cons_zero])
        refine wpAnyH_take (i := 26) (oi := ?oi2x26) (v := ?v2x26) ?hi2x26 (by kernel_rfl) (by kernel_rfl) (by kernel_rfl) ?hq2x26 ?hy2x26 (by assumption) ?rest2x26
        case hi2x26 =>
          (try simp only [List.getElem?_toArray])
          (try simp only [List.getElem?_cons_succ])
          (try simp only [List.getElem?_cons_zero])
          (try exact rfl)
        case hq2x26 => exact fun _ _ _ h => h
        case hy2x26 =>
          refine Or.inl ⟨by rfl, ?_⟩
          (intro w hSw; (try dsimp only at hSw); go_simp; try with_reducible rfl)
        (try simp only [Act.put])
        (try simp only [List.setIfInBounds_toArray])
        (try simp only [List.set_cons_succ])
        (try simp only [List.set_cons_zero])
        refine wpAnyH_take (i := 27) (oi := ?oi2x27) (v := ?v2x27) ?hi2x27 (by kernel_rfl) (by kernel_rfl) (by kernel_rfl) ?hq2x27 ?hy2x27 (by assumption) ?rest2x27
        case hi2x27 =>
          (try simp only [List.getElem?_toArray])
          (try simp only [List.getElem?_cons_succ])
          (try simp only [List.getElem?_cons_zero])
          (try exact rfl)
        case hq2x27 => exact fun _ _ _ h => h
        case hy2x27 =>
          refine Or.inl ⟨by rfl, ?_⟩
          (intro w hSw; (try dsimp only at hSw); go_simp; try with_reducible rfl)
        (try simp only [Act.put])
        (try simp only [List.setIfInBounds_toArray])
        (try simp only [List.set_cons_succ])
        (try simp only [List.set_cons_zero])
        refine wpAnyH_take (i := 28) (oi := ?oi2x28) (v := ?v2x28) ?hi2x28 (by kernel_rfl) (by kernel_rfl) (by kernel_rfl) ?hq2x28 ?hy2x28 (by assumption) ?rest2x28
        case hi2x28 =>
          (try simp only [List.getElem?_toArray])
          (try simp only [List.getElem?_cons_succ])
          (try simp only [List.getElem?_cons_zero])
          (try exact rfl)
        case hq2x28 => exact fun _ _ _ h => h
        case hy2x28 =>
          refine Or.inl ⟨by rfl, ?_⟩
          (intro w hSw; (try dsimp only at hSw); go_simp; try with_reducible rfl)
        (try simp only [Act.put])
        (try simp only [List.setIfInBounds_toArray])
        (try simp only [List.set_cons_succ])
        (try simp only [List.set_cons_zero])
        refine wpAnyH_done (by kernel_rfl) ?_ _
        refine NoPanic.normal ?_
        go_wp2_with fail
        go_meet
        exact ⟨rfl, BE4⟩
      · as_aux_lemma =>
        go_region_held3 (fun W => W.cell? ⟨g, 0, none⟩ = some (.int .i64 t.kind) ∧ W.cell? ⟨g, 1, none⟩ = some (.int .i64 t.num) ∧ W.cell? ⟨g, 2, none⟩ = some (.slice A m c) ∧ W.cell? ⟨g + 1, 0, none⟩ = some (.int .i64 b.kind) ∧ W.cell? ⟨g + 1, 1, none⟩ = some (.int .i64 b.num) ∧ W.cell? ⟨g + 1, 2, none⟩ = some (.slice B n d) ∧ W.cell? ⟨gc, 0, none⟩ = some (.int .i64 t.kind) ∧ W.cell? ⟨gc, 1, none⟩ = some (.int .i64 t.num) ∧ W.cell? ⟨gc, 2, none⟩ = some (.slice A2 m c2) ∧ W.cell? ⟨gq, 0, none⟩ = some (.int .i64 P.kind) ∧ W.cell? ⟨gq, 1, none⟩ = some (.int .i64 P.num) ∧ W.cell? ⟨gq, 2, none⟩ = some (.slice A4 m4 c4))
          (first | exact HC12.out _ BE5.out | exact HC12.out _ BE4.out | exact HC12.out _ BE3.out | exact HC12.out _ BE2.out | exact HC12.out _ BE1.out | exact HC12.out _ BE0.out)
          (first
            | (go_at_call 27; refine (CG.out _ BE4.out).mono ?_; rintro e v5 ⟨rfl, hb⟩; have BE5 := Lib.hid (below_then BE4.out hb); clear hb)
            | (go_at_call 26; refine (CS.out _ BE3.out).mono ?_; rintro e v4 ⟨rfl, hb⟩; have BE4 := Lib.hid (below_then BE3.out hb); clear hb)
            | (go_at_call 13; refine (CD12.out _ BE2.out).mono ?_; rintro e v3 ⟨rfl, hb⟩; have BE3 := Lib.hid (below_then BE2.out hb); clear hb)
            | (go_at_call 27; refine (CFP.out A6 m6 c6 _ BE1.out hT6).mono ?_; rintro e v2 ⟨rfl, hb⟩; have BE2 := Lib.hid (below_then BE1.out hb); clear hb)
            | (go_at_call 28; refine (CR12.out _ BE0.out).mono ?_; rintro e v1 ⟨A6, m6, c6, rfl, hT6, hb⟩; have BE1 := Lib.hid (below_then BE0.out hb.out); clear hb))
        all_goals
          go_wp2_with fail
          go_meet
          first
            | exact ⟨rfl, BE5⟩
            | exact ⟨rfl, BE4⟩
            | exact ⟨rfl, BE3⟩
    case rest =>
      obtain ⟨rfl, hB⟩ := hcut
      go_wp2_with fail
      go_ret
      exact ⟨rfl, below_then HB1.out (below_then HY4.out hB.out)⟩
end Go.Proofs.YtmfdiclbenmfbaaDoor
