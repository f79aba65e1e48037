/- Law ExprPuts: the walk. Printed by gen_law_puts.py. -/
import Derived.Test.YtmfdiclbenmfbaaDoorExprFa
namespace Go.Proofs.YtmfdiclbenmfbaaDoor
open Go.RowKit
set_option maxRecDepth 100000 in
set_option maxHeartbeats 8000000 in
theorem law_ExprPuts (t : Tr) (A : Option Addr) (m c : Nat) (b : Tr) (B : Option Addr) (n d : Nat) (EA : Option Addr) (en ec : Nat) (env : List Int) (k : Int) (w : World) (h : Hid (TrAt w A m c t)) (hb0 : Hid (TrAt w B n d b)) (he : Hid (EnvAt w EA en ec env)) (htab : Hid (∀ W, Below w.heap.size w W → TabT W)) :
    Calls Tryd.prog 5 #[t.val A m c, b.val B n d, .slice EA en ec, .int .i64 k] w fun e w' => e = .returned (.bool true) ∧ Below w.heap.size w w' := by
  have bal0 := al1 w (.cells #[.int .i64 t.kind, .int .i64 t.num, .slice A m c] 24)
  have hz0 : (w.alloc (.cells #[.int .i64 t.kind, .int .i64 t.num, .slice A m c] 24)).heap.size = w.heap.size + 1 := by rw [World.size_alloc]
  have k00 := cell_new w #[.int .i64 t.kind, .int .i64 t.num, .slice A m c] 24 0 _ rfl
  have k01 := cell_new w #[.int .i64 t.kind, .int .i64 t.num, .slice A m c] 24 1 _ rfl
  have k02 := cell_new w #[.int .i64 t.kind, .int .i64 t.num, .slice A m c] 24 2 _ rfl
  have bal1 := below_then bal0 (al1 (w.alloc (.cells #[.int .i64 t.kind, .int .i64 t.num, .slice A m c] 24)) (.cells #[.int .i64 b.kind, .int .i64 b.num, .slice B n d] 24))
  have hz1 : ((w.alloc (.cells #[.int .i64 t.kind, .int .i64 t.num, .slice A m c] 24)).alloc (.cells #[.int .i64 b.kind, .int .i64 b.num, .slice B n d] 24)).heap.size = w.heap.size + 1 + 1 := by rw [World.size_alloc, hz0]
  have k10 := cell_new (w.alloc (.cells #[.int .i64 t.kind, .int .i64 t.num, .slice A m c] 24)) #[.int .i64 b.kind, .int .i64 b.num, .slice B n d] 24 0 _ rfl
  have k11 := cell_new (w.alloc (.cells #[.int .i64 t.kind, .int .i64 t.num, .slice A m c] 24)) #[.int .i64 b.kind, .int .i64 b.num, .slice B n d] 24 1 _ rfl
  have k12 := cell_new (w.alloc (.cells #[.int .i64 t.kind, .int .i64 t.num, .slice A m c] 24)) #[.int .i64 b.kind, .int .i64 b.num, .slice B n d] 24 2 _ rfl
  rw [hz0] at k10 k11 k12
  have k00 := cell_kept (al1 (w.alloc (.cells #[.int .i64 t.kind, .int .i64 t.num, .slice A m c] 24)) (.cells #[.int .i64 b.kind, .int .i64 b.num, .slice B n d] 24)) k00
  have k01 := cell_kept (al1 (w.alloc (.cells #[.int .i64 t.kind, .int .i64 t.num, .slice A m c] 24)) (.cells #[.int .i64 b.kind, .int .i64 b.num, .slice B n d] 24)) k01
  have k02 := cell_kept (al1 (w.alloc (.cells #[.int .i64 t.kind, .int .i64 t.num, .slice A m c] 24)) (.cells #[.int .i64 b.kind, .int .i64 b.num, .slice B n d] 24)) k02
  obtain ⟨w1, hw1⟩ : ∃ w1, w1 = ((w.alloc (.cells #[.int .i64 t.kind, .int .i64 t.num, .slice A m c] 24)).alloc (.cells #[.int .i64 b.kind, .int .i64 b.num, .slice B n d] 24)) := ⟨_, rfl⟩
  obtain ⟨g, hg⟩ : ∃ g, g = w.heap.size := ⟨_, rfl⟩
  have HW1 := Lib.hid hw1
  have HG := Lib.hid hg
  rw [← hw1] at bal1 k00 k01 k02 k10 k11 k12
  rw [← hg] at k00 k01 k02 k10 k11 k12
  have HB1 := Lib.hid bal1
  have HE := Lib.hid (show ∀ W, Below w1.heap.size w1 W → W.cell? ⟨g, 0, none⟩ = some (.int .i64 t.kind) ∧ W.cell? ⟨g, 1, none⟩ = some (.int .i64 t.num) ∧ W.cell? ⟨g, 2, none⟩ = some (.slice A m c) ∧ W.cell? ⟨g + 1, 0, none⟩ = some (.int .i64 b.kind) ∧ W.cell? ⟨g + 1, 1, none⟩ = some (.int .i64 b.num) ∧ W.cell? ⟨g + 1, 2, none⟩ = some (.slice B n d) from fun W h => ⟨cell_kept h k00, cell_kept h k01, cell_kept h k02, cell_kept h k10, cell_kept h k11, cell_kept h k12⟩)
  clear bal0 hz0 bal1 hz1 hw1 hg
  have RFL := Lib.hid (Below.refl w1.heap.size w1)
  have HT := Lib.hid (fun W (hb : Below w1.heap.size w1 W) => Lib.hid (h.out.kept (below_then HB1.out hb)))
  have HTB := Lib.hid (fun W (hb : Below w1.heap.size w1 W) => Lib.hid (hb0.out.kept (below_then HB1.out hb)))
  have HV := Lib.hid (fun W (hb : Below w1.heap.size w1 W) => Lib.hid (he.out.kept (below_then HB1.out hb)))
  have hel := he.out.len
  by_cases hf : 0 < fewT t 60
  case neg =>
    have df := decide_eq_false hf
    clear hf
    go_enter Tryd.func5, Tryd.ntmps5
    go_upto_region 1 with fail
    rw [← HG.out, ← HW1.out]
    go_wp2_with fail
    refine (law_small w1 (Lib.hid (fun W h => htab.out W (below_then HB1.out h)))).mono ?_
    rintro e u1 ⟨rfl, hb⟩
    have HU1 := Lib.hid (below_then RFL.out hb)
    clear hb
    clear k00 k01 k02 k10 k11 k12
    obtain ⟨k00, k01, k02, k10, k11, k12⟩ := HE.out _ HU1.out
    go_wp2_with fail
    refine (law_Few t A m c u1 (HT.out _ HU1.out)).mono ?_
    rintro e u2 ⟨rfl, hb⟩
    have HU2 := Lib.hid (below_then HU1.out hb)
    clear hb
    clear k00 k01 k02 k10 k11 k12
    obtain ⟨k00, k01, k02, k10, k11, k12⟩ := HE.out _ HU2.out
    go_wp2_with fail
    refine (law_Few b B n d u2 (HTB.out _ HU2.out)).mono ?_
    rintro e u3 ⟨rfl, hb⟩
    have HU3 := Lib.hid (below_then HU2.out hb)
    clear hb
    clear k00 k01 k02 k10 k11 k12
    obtain ⟨k00, k01, k02, k10, k11, k12⟩ := HE.out _ HU3.out
    go_wp2_with fail
    go_ret
    exact ⟨rfl, below_then HB1.out HU3.out⟩
  have hs := few_sz hf
  have df := decide_eq_true hf
  by_cases hf2 : 0 < fewT b 60
  case neg =>
    have df2 := decide_eq_false hf2
    clear hf hf2
    go_enter Tryd.func5, Tryd.ntmps5
    go_upto_region 1 with fail
    rw [← HG.out, ← HW1.out]
    go_wp2_with fail
    refine (law_small w1 (Lib.hid (fun W h => htab.out W (below_then HB1.out h)))).mono ?_
    rintro e u1 ⟨rfl, hb⟩
    have HU1 := Lib.hid (below_then RFL.out hb)
    clear hb
    clear k00 k01 k02 k10 k11 k12
    obtain ⟨k00, k01, k02, k10, k11, k12⟩ := HE.out _ HU1.out
    go_wp2_with fail
    refine (law_Few t A m c u1 (HT.out _ HU1.out)).mono ?_
    rintro e u2 ⟨rfl, hb⟩
    have HU2 := Lib.hid (below_then HU1.out hb)
    clear hb
    clear k00 k01 k02 k10 k11 k12
    obtain ⟨k00, k01, k02, k10, k11, k12⟩ := HE.out _ HU2.out
    go_wp2_with fail
    refine (law_Few b B n d u2 (HTB.out _ HU2.out)).mono ?_
    rintro e u3 ⟨rfl, hb⟩
    have HU3 := Lib.hid (below_then HU2.out hb)
    clear hb
    clear k00 k01 k02 k10 k11 k12
    obtain ⟨k00, k01, k02, k10, k11, k12⟩ := HE.out _ HU3.out
    go_wp2_with fail
    go_ret
    exact ⟨rfl, below_then HB1.out HU3.out⟩
  have hs2 := few_sz hf2
  have df2 := decide_eq_true hf2
  by_cases hn : en ≤ 16
  case neg =>
    have dn : (16 : Int) < (en : Int) := by omega
    clear hn hf hf2
    go_enter Tryd.func5, Tryd.ntmps5
    go_upto_region 1 with fail
    rw [← HG.out, ← HW1.out]
    go_wp2_with fail
    refine (law_small w1 (Lib.hid (fun W h => htab.out W (below_then HB1.out h)))).mono ?_
    rintro e u1 ⟨rfl, hb⟩
    have HU1 := Lib.hid (below_then RFL.out hb)
    clear hb
    clear k00 k01 k02 k10 k11 k12
    obtain ⟨k00, k01, k02, k10, k11, k12⟩ := HE.out _ HU1.out
    go_wp2_with fail
    refine (law_Few t A m c u1 (HT.out _ HU1.out)).mono ?_
    rintro e u2 ⟨rfl, hb⟩
    have HU2 := Lib.hid (below_then HU1.out hb)
    clear hb
    clear k00 k01 k02 k10 k11 k12
    obtain ⟨k00, k01, k02, k10, k11, k12⟩ := HE.out _ HU2.out
    go_wp2_with fail
    refine (law_Few b B n d u2 (HTB.out _ HU2.out)).mono ?_
    rintro e u3 ⟨rfl, hb⟩
    have HU3 := Lib.hid (below_then HU2.out hb)
    clear hb
    clear k00 k01 k02 k10 k11 k12
    obtain ⟨k00, k01, k02, k10, k11, k12⟩ := HE.out _ HU3.out
    go_wp2_with fail
    go_ret
    exact ⟨rfl, below_then HB1.out HU3.out⟩
  have dn : (en : Int) ≤ 16 := by omega
  by_cases hk0 : 0 ≤ k
  case neg =>
    have dk : k < 0 := by omega
    clear hn hf hf2 hk0
    go_enter Tryd.func5, Tryd.ntmps5
    go_upto_region 1 with fail
    rw [← HG.out, ← HW1.out]
    go_wp2_with fail
    refine (law_small w1 (Lib.hid (fun W h => htab.out W (below_then HB1.out h)))).mono ?_
    rintro e u1 ⟨rfl, hb⟩
    have HU1 := Lib.hid (below_then RFL.out hb)
    clear hb
    clear k00 k01 k02 k10 k11 k12
    obtain ⟨k00, k01, k02, k10, k11, k12⟩ := HE.out _ HU1.out
    go_wp2_with fail
    refine (law_Few t A m c u1 (HT.out _ HU1.out)).mono ?_
    rintro e u2 ⟨rfl, hb⟩
    have HU2 := Lib.hid (below_then HU1.out hb)
    clear hb
    clear k00 k01 k02 k10 k11 k12
    obtain ⟨k00, k01, k02, k10, k11, k12⟩ := HE.out _ HU2.out
    go_wp2_with fail
    refine (law_Few b B n d u2 (HTB.out _ HU2.out)).mono ?_
    rintro e u3 ⟨rfl, hb⟩
    have HU3 := Lib.hid (below_then HU2.out hb)
    clear hb
    clear k00 k01 k02 k10 k11 k12
    obtain ⟨k00, k01, k02, k10, k11, k12⟩ := HE.out _ HU3.out
    go_wp2_with fail
    go_ret
    exact ⟨rfl, below_then HB1.out HU3.out⟩
  have dk : decide (k < 0) = false := decide_eq_false (by omega)
  by_cases hk1 : k < (en : Int)
  case neg =>
    have dk2 : (en : Int) ≤ k := by omega
    clear hn hf hf2 hk0 hk1
    go_enter Tryd.func5, Tryd.ntmps5
    go_upto_region 1 with fail
    rw [← HG.out, ← HW1.out]
    go_wp2_with fail
    refine (law_small w1 (Lib.hid (fun W h => htab.out W (below_then HB1.out h)))).mono ?_
    rintro e u1 ⟨rfl, hb⟩
    have HU1 := Lib.hid (below_then RFL.out hb)
    clear hb
    clear k00 k01 k02 k10 k11 k12
    obtain ⟨k00, k01, k02, k10, k11, k12⟩ := HE.out _ HU1.out
    go_wp2_with fail
    refine (law_Few t A m c u1 (HT.out _ HU1.out)).mono ?_
    rintro e u2 ⟨rfl, hb⟩
    have HU2 := Lib.hid (below_then HU1.out hb)
    clear hb
    clear k00 k01 k02 k10 k11 k12
    obtain ⟨k00, k01, k02, k10, k11, k12⟩ := HE.out _ HU2.out
    go_wp2_with fail
    refine (law_Few b B n d u2 (HTB.out _ HU2.out)).mono ?_
    rintro e u3 ⟨rfl, hb⟩
    have HU3 := Lib.hid (below_then HU2.out hb)
    clear hb
    clear k00 k01 k02 k10 k11 k12
    obtain ⟨k00, k01, k02, k10, k11, k12⟩ := HE.out _ HU3.out
    go_wp2_with fail
    go_ret
    exact ⟨rfl, below_then HB1.out HU3.out⟩
  have dk2 : decide ((en : Int) ≤ k) = false := decide_eq_false (by omega)
  obtain ⟨j, rfl⟩ : ∃ j : Nat, k = (j : Int) := ⟨k.toNat, by omega⟩
  have hjn : j < en := by omega
  have hjl : (j : Int) < (en : Int) := by omega
  have hj0 : (0 : Int) ≤ (j : Int) := by omega
  have CR := Lib.hid (fun W (hb : Below w1.heap.size w1 W) => ex_Right en t A m c W (HT.out _ hb) hs)
  rcases hr : rightT en t with _ | _
  case false =>
    rw [hr] at CR
    clear hn hf hf2 hk0 hk1 hr
    go_enter Tryd.func5, Tryd.ntmps5
    go_upto_region 1 with fail
    rw [← HG.out, ← HW1.out]
    go_wp2_with fail
    refine (law_small w1 (Lib.hid (fun W h => htab.out W (below_then HB1.out h)))).mono ?_
    rintro e u1 ⟨rfl, hb⟩
    have HU1 := Lib.hid (below_then RFL.out hb)
    clear hb
    clear k00 k01 k02 k10 k11 k12
    obtain ⟨k00, k01, k02, k10, k11, k12⟩ := HE.out _ HU1.out
    go_wp2_with fail
    refine (law_Few t A m c u1 (HT.out _ HU1.out)).mono ?_
    rintro e u2 ⟨rfl, hb⟩
    have HU2 := Lib.hid (below_then HU1.out hb)
    clear hb
    clear k00 k01 k02 k10 k11 k12
    obtain ⟨k00, k01, k02, k10, k11, k12⟩ := HE.out _ HU2.out
    go_wp2_with fail
    refine (law_Few b B n d u2 (HTB.out _ HU2.out)).mono ?_
    rintro e u3 ⟨rfl, hb⟩
    have HU3 := Lib.hid (below_then HU2.out hb)
    clear hb
    clear k00 k01 k02 k10 k11 k12
    obtain ⟨k00, k01, k02, k10, k11, k12⟩ := HE.out _ HU3.out
    go_wp2_with fail
    refine (CR.out u3 HU3.out).mono ?_
    rintro e u4 ⟨rfl, hb⟩
    have HU4 := Lib.hid (below_then HU3.out hb)
    clear hb
    clear k00 k01 k02 k10 k11 k12
    go_wp2_with fail
    go_ret
    exact ⟨rfl, below_then HB1.out HU4.out⟩
  rw [hr] at CR
  obtain ⟨P0, hP0⟩ : ∃ P, P = evalV env b := ⟨_, rfl⟩
  have C0 := Lib.hid (fun W (hb : Below w1.heap.size w1 W) => (show Calls Tryd.prog 22 #[b.val B n d, .slice EA en ec] W (EvP W P0) by rw [hP0]; exact ex_Eval env b B n d W EA en ec (HTB.out _ hb) (HV.out _ hb) hs2))
  have CP := Lib.hid (fun W (hb : Below w1.heap.size w1 W) => ex_Put j b hs2 t.sz t (Nat.le_refl _) A m c B n d W (HT.out _ hb) (HTB.out _ hb) hs)
  obtain ⟨u, hu⟩ : ∃ u, u = putT j b t := ⟨_, rfl⟩
  rw [← hu] at CP
  have hus : sizeT u ≤ 1000000 := by
    rw [hu]
    have := put_size j b t
    have h1 := few_size t 60 hf
    have h2 := few_size b 60 hf2
    have h3 := few_range t 60
    have h4 := few_range b 60
    have h5 : sizeT t ≤ 500 := by omega
    have h6 : sizeT b ≤ 500 := by omega
    exact Nat.le_trans this (Nat.le_trans (Nat.mul_le_mul h5 h6) (by decide))
  have hlaw := puts_law env j (by rw [hel]; exact hjn) b t
  obtain ⟨v, bad⟩ := P0
  by_cases hbad : bad = 0
  case neg =>
    have bb : (bad != 0) = true := by simpa using hbad
    clear hbad hlaw hn hf hf2 hk0 hk1 hr hP0 hu
    go_enter Tryd.func5, Tryd.ntmps5
    go_upto_region 1 with fail
    rw [← HG.out, ← HW1.out]
    go_wp2_with fail
    refine (law_small w1 (Lib.hid (fun W h => htab.out W (below_then HB1.out h)))).mono ?_
    rintro e u1 ⟨rfl, hb⟩
    have HU1 := Lib.hid (below_then RFL.out hb)
    clear hb
    clear k00 k01 k02 k10 k11 k12
    obtain ⟨k00, k01, k02, k10, k11, k12⟩ := HE.out _ HU1.out
    go_wp2_with fail
    refine (law_Few t A m c u1 (HT.out _ HU1.out)).mono ?_
    rintro e u2 ⟨rfl, hb⟩
    have HU2 := Lib.hid (below_then HU1.out hb)
    clear hb
    clear k00 k01 k02 k10 k11 k12
    obtain ⟨k00, k01, k02, k10, k11, k12⟩ := HE.out _ HU2.out
    go_wp2_with fail
    refine (law_Few b B n d u2 (HTB.out _ HU2.out)).mono ?_
    rintro e u3 ⟨rfl, hb⟩
    have HU3 := Lib.hid (below_then HU2.out hb)
    clear hb
    clear k00 k01 k02 k10 k11 k12
    obtain ⟨k00, k01, k02, k10, k11, k12⟩ := HE.out _ HU3.out
    go_wp2_with fail
    refine (CR.out u3 HU3.out).mono ?_
    rintro e u4 ⟨rfl, hb⟩
    have HU4 := Lib.hid (below_then HU3.out hb)
    clear hb
    clear k00 k01 k02 k10 k11 k12
    obtain ⟨k00, k01, k02, k10, k11, k12⟩ := HE.out _ HU4.out
    go_wp2_with fail
    refine (C0.out u4 HU4.out).mono ?_
    rintro e u5 ⟨rfl, hb⟩
    have HU5 := Lib.hid (below_then HU4.out hb)
    clear hb
    clear k00 k01 k02 k10 k11 k12
    obtain ⟨k00, k01, k02, k10, k11, k12⟩ := HE.out _ HU5.out
    go_wp2_with fail
    refine (CP.out u5 HU5.out).mono ?_
    rintro e u6 ⟨A6, m6, c6, rfl, hF, hb⟩
    have HU6 := Lib.hid (below_then HU5.out hb.out)
    have HTU := Lib.hid (FrI.to _ hF.out)
    clear k00 k01 k02 k10 k11 k12
    obtain ⟨k00, k01, k02, k10, k11, k12⟩ := HE.out _ HU6.out
    go_upto_region 8 with fail
    have HU7 := Lib.hid (bl_alloc HU6.out (.cells #[.int .i64 u.kind, .int .i64 u.num, .slice A6 m6 c6] 24))
    have HTU7 := Lib.hid (HTU.out.kept (al1 u6 (.cells #[.int .i64 u.kind, .int .i64 u.num, .slice A6 m6 c6] 24)))
    have p0 := cell_new u6 #[.int .i64 u.kind, .int .i64 u.num, .slice A6 m6 c6] 24 0 _ rfl
    have p1 := cell_new u6 #[.int .i64 u.kind, .int .i64 u.num, .slice A6 m6 c6] 24 1 _ rfl
    have p2 := cell_new u6 #[.int .i64 u.kind, .int .i64 u.num, .slice A6 m6 c6] 24 2 _ rfl
    obtain ⟨u7, hu7⟩ : ∃ u7, u7 = u6.alloc (.cells #[.int .i64 u.kind, .int .i64 u.num, .slice A6 m6 c6] 24) := ⟨_, rfl⟩
    obtain ⟨gp, hgp⟩ : ∃ gp, gp = u6.heap.size := ⟨_, rfl⟩
    rw [← hu7] at HU7 HTU7 p0 p1 p2
    rw [← hgp] at p0 p1 p2
    rw [← hu7, ← hgp]
    have HEP := Lib.hid (show ∀ W, Below u7.heap.size u7 W → W.cell? ⟨gp, 0, none⟩ = some (.int .i64 u.kind) ∧ W.cell? ⟨gp, 1, none⟩ = some (.int .i64 u.num) ∧ W.cell? ⟨gp, 2, none⟩ = some (.slice A6 m6 c6) from fun W h => ⟨cell_kept h p0, cell_kept h p1, cell_kept h p2⟩)
    clear hu7 hgp k00 k01 k02 k10 k11 k12
    go_wp2_with fail
    go_ret
    exact ⟨rfl, below_then HB1.out HU7.out⟩
  subst hbad
  have hvI : I64 v := by
    unfold evalV at hP0
    split at hP0
    · rename_i hrb
      have h1 := ev_in en he.out.ok b.sz b (Nat.le_refl _) hb0.out (by rw [← hel]; exact right_parts hrb)
      rw [← hP0] at h1
      exact h1
    · injection hP0 with h1 h2
      cases h2
  have hok2 : ∀ x ∈ env.set j v, I64 x := by
    intro x hx
    rcases List.mem_or_eq_of_mem_set hx with h1 | h1
    · exact he.out.ok x h1
    · rw [h1]; exact hvI
  have HON := Lib.hid (int_one env)
  have hlaw2 : (rightT env.length t = true → rightT env.length (putT j b t) = true → evalV env (putT j b t) = evalV (env.set j v) t) := hlaw v hP0.symm
  have HLAW := Lib.hid hlaw2
  have HEL := Lib.hid hel
  have HRR := Lib.hid hr
  have HUU := Lib.hid hu
  clear hlaw hlaw2 hn hf hf2 hk0 hk1 hr hP0 hu hel
  go_enter Tryd.func5, Tryd.ntmps5
  go_upto_region 1 with fail
  rw [← HG.out, ← HW1.out]
  go_wp2_with fail
  refine (law_small w1 (Lib.hid (fun W h => htab.out W (below_then HB1.out h)))).mono ?_
  rintro e u1 ⟨rfl, hb⟩
  have HU1 := Lib.hid (below_then RFL.out hb)
  clear hb
  clear k00 k01 k02 k10 k11 k12
  obtain ⟨k00, k01, k02, k10, k11, k12⟩ := HE.out _ HU1.out
  go_wp2_with fail
  refine (law_Few t A m c u1 (HT.out _ HU1.out)).mono ?_
  rintro e u2 ⟨rfl, hb⟩
  have HU2 := Lib.hid (below_then HU1.out hb)
  clear hb
  clear k00 k01 k02 k10 k11 k12
  obtain ⟨k00, k01, k02, k10, k11, k12⟩ := HE.out _ HU2.out
  go_wp2_with fail
  refine (law_Few b B n d u2 (HTB.out _ HU2.out)).mono ?_
  rintro e u3 ⟨rfl, hb⟩
  have HU3 := Lib.hid (below_then HU2.out hb)
  clear hb
  clear k00 k01 k02 k10 k11 k12
  obtain ⟨k00, k01, k02, k10, k11, k12⟩ := HE.out _ HU3.out
  go_wp2_with fail
  refine (CR.out u3 HU3.out).mono ?_
  rintro e u4 ⟨rfl, hb⟩
  have HU4 := Lib.hid (below_then HU3.out hb)
  clear hb
  clear k00 k01 k02 k10 k11 k12
  obtain ⟨k00, k01, k02, k10, k11, k12⟩ := HE.out _ HU4.out
  go_wp2_with fail
  refine (C0.out u4 HU4.out).mono ?_
  rintro e u5 ⟨rfl, hb⟩
  have HU5 := Lib.hid (below_then HU4.out hb)
  clear hb
  clear k00 k01 k02 k10 k11 k12
  obtain ⟨k00, k01, k02, k10, k11, k12⟩ := HE.out _ HU5.out
  go_wp2_with fail
  refine (CP.out u5 HU5.out).mono ?_
  rintro e u6 ⟨A6, m6, c6, rfl, hF, hb⟩
  have HU6 := Lib.hid (below_then HU5.out hb.out)
  have HTU := Lib.hid (FrI.to _ hF.out)
  clear k00 k01 k02 k10 k11 k12
  obtain ⟨k00, k01, k02, k10, k11, k12⟩ := HE.out _ HU6.out
  go_upto_region 8 with fail
  have HU7 := Lib.hid (bl_alloc HU6.out (.cells #[.int .i64 u.kind, .int .i64 u.num, .slice A6 m6 c6] 24))
  have HTU7 := Lib.hid (HTU.out.kept (al1 u6 (.cells #[.int .i64 u.kind, .int .i64 u.num, .slice A6 m6 c6] 24)))
  have p0 := cell_new u6 #[.int .i64 u.kind, .int .i64 u.num, .slice A6 m6 c6] 24 0 _ rfl
  have p1 := cell_new u6 #[.int .i64 u.kind, .int .i64 u.num, .slice A6 m6 c6] 24 1 _ rfl
  have p2 := cell_new u6 #[.int .i64 u.kind, .int .i64 u.num, .slice A6 m6 c6] 24 2 _ rfl
  obtain ⟨u7, hu7⟩ : ∃ u7, u7 = u6.alloc (.cells #[.int .i64 u.kind, .int .i64 u.num, .slice A6 m6 c6] 24) := ⟨_, rfl⟩
  obtain ⟨gp, hgp⟩ : ∃ gp, gp = u6.heap.size := ⟨_, rfl⟩
  rw [← hu7] at HU7 HTU7 p0 p1 p2
  rw [← hgp] at p0 p1 p2
  rw [← hu7, ← hgp]
  have HEP := Lib.hid (show ∀ W, Below u7.heap.size u7 W → W.cell? ⟨gp, 0, none⟩ = some (.int .i64 u.kind) ∧ W.cell? ⟨gp, 1, none⟩ = some (.int .i64 u.num) ∧ W.cell? ⟨gp, 2, none⟩ = some (.slice A6 m6 c6) from fun W h => ⟨cell_kept h p0, cell_kept h p1, cell_kept h p2⟩)
  clear hu7 hgp k00 k01 k02 k10 k11 k12
  obtain ⟨p0, p1, p2⟩ := HEP.out _ (Below.refl _ _)
  go_wp2_with fail
  refine (ex_Right en u A6 m6 c6 u7 HTU7 hus).mono ?_
  rintro e u8 ⟨rfl, hb⟩
  have BQ8 := Lib.hid hb
  have HU8 := Lib.hid (below_then HU7.out hb)
  clear hb p0 p1 p2
  rcases hru : rightT en u with _ | _
  · clear hru
    go_wp2_with fail
    go_ret
    exact ⟨rfl, below_then HB1.out HU8.out⟩
  have hPP := HLAW.out (by rw [HEL.out]; exact HRR.out) (by rw [HEL.out, ← HUU.out]; exact hru)
  rw [← HUU.out] at hPP
  obtain ⟨P4, hP4⟩ : ∃ P, P = evalV env u := ⟨_, rfl⟩
  rw [← hP4] at hPP
  have C4 := Lib.hid (fun W (hT : Hid (TrAt W A6 m6 c6 u)) (hE : Hid (EnvAt W EA en ec env)) => (show Calls Tryd.prog 22 #[u.val A6 m6 c6, .slice EA en ec] W (EvP W P4) by rw [hP4]; exact ex_Eval env u A6 m6 c6 W EA en ec hT hE hus))
  have C5 := Lib.hid (fun W A' c' (hb : Below w1.heap.size w1 W) (hS : Sl W (.slice A' en c') en 1 (intCells (env.set j v))) => (show Calls Tryd.prog 22 #[t.val A m c, .slice A' en c'] W (EvP W P4) by rw [hPP]; exact ex_Eval (env.set j v) t A m c W A' en c' (HT.out _ hb) (Lib.hid ⟨hS, hok2⟩) hs))
  obtain ⟨n4, a4⟩ := P4
  have oM := Lib.hid (World.ownsRow_made u8 (base := u8.heap.size) (e := 3) (size := 1) #[] 0 (Nat.le_refl _) (by decide) rfl)
  have sM := Lib.hid ((HV.out _ HU8.out).out.kept (al1 u8 (.cells #[] 3))).sl
  have bM := Lib.hid (al1 u8 (.cells #[] 3)).size
  clear hru hPP hP4 hok2 hvI
  go_upto_region 11 with (at_builtin; refine wpList_append_sl ints_ty rfl (.tmp 74) (.tmp 75) rfl u8.heap.size rfl (by exact oM.out) rfl (by exact sM.out) HON.out (by omega) (by omega) bM.out ?_; intro v9 w9 hown9 hg9 hat9; rw [Nat.zero_add, List.nil_append] at hown9; have HB9 := Lib.hid (below_grown (al1 u8 (.cells #[] 3)) hg9 oM.out (Nat.le_refl _) bM.out); obtain ⟨g9, c9, rfl, hg9b, hcells, hset⟩ := own_open hown9 (by omega); have HCL := Lib.hid hcells; have HST := Lib.hid hset; have HG9 := Lib.hid hg9b; clear hown9 hg9 hat9 hcells hset hg9b)
  obtain ⟨kc, kf⟩ := HCL.out j hjn
  go_upto_region 12 with fail
  have HB10 := Lib.hid (HB9.out.setCell (p := ⟨g9, j, none⟩) HG9.out (.int .i64 v))
  have HS10 := Lib.hid (HST.out j hjn v)
  obtain ⟨w10, hw10⟩ : ∃ w10, w10 = w9.setCell ⟨g9, j, none⟩ (.int .i64 v) := ⟨_, rfl⟩
  rw [← hw10] at HB10 HS10 ⊢
  have HU10 := Lib.hid (below_then HU8.out HB10.out)
  have HQ10 := Lib.hid (below_then BQ8.out HB10.out)
  clear hw10 kc kf
  obtain ⟨p0, p1, p2⟩ := HEP.out _ HQ10.out
  go_wp2_with fail
  refine (C4.out w10 (Lib.hid (HTU7.out.kept HQ10.out)) (HV.out _ HU10.out)).mono ?_
  rintro e w11 ⟨rfl, hb⟩
  have HU11 := Lib.hid (below_then HU10.out hb)
  have HS11 := Lib.hid (HS10.out.below hb)
  clear hb p0 p1 p2
  obtain ⟨k00, k01, k02, k10, k11, k12⟩ := HE.out _ HU11.out
  go_wp2_with fail
  refine (C5.out w11 _ c9 HU11.out HS11.out).mono ?_
  rintro e w12 ⟨rfl, hb⟩
  have HU12 := Lib.hid (below_then HU11.out hb)
  clear hb
  go_wp2_with fail
  go_ret
  exact ⟨by first | rfl | simp, below_then HB1.out HU12.out⟩
end Go.Proofs.YtmfdiclbenmfbaaDoor
