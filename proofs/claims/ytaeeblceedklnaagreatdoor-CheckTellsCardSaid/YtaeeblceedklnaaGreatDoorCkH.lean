/- Package check: Net. Printed by gen_ckC.py. -/
import Derived.Test.YtaeeblceedklnaaGreatDoorCkT
import Derived.Handy
namespace Go.Proofs.YtaeeblceedklnaaGreatDoor
open Go.RowKit
/-- A net of small expressions. -/
def SmallN (N : Nt) : Prop := ∀ k, k < N.tks.length → SmallT (N.tks.getD k default)
theorem ret3p {a b c x y z : Int} (h1 : a = x) (h2 : b = y) (h3 : c = z) : Ending.returned (.tuple #[.agg #[.int .i64 a, .int .i64 b], .int .i64 c]) = .returned (.tuple #[.agg #[.int .i64 x, .int .i64 y], .int .i64 z]) := by rw [h1, h2, h3]
section
variable {A1 A2 A3 : Option Addr} {n1 c1 n2 c2 n3 c3 : Nat} {N : Nt}
set_option maxRecDepth 100000 in
set_option maxHeartbeats 2000000 in
theorem ck_Task (k : Int) (w : World) (ht : Hid (TabOk w)) (hN : Hid (NetAt w A1 n1 c1 A2 n2 c2 A3 n3 c3 N)) (hF : Hid (SmallN N)) :
    Calls Tryz.prog 13 #[netV A1 n1 c1 A2 n2 c2 A3 n3 c3 N.from_ N.to_, .int .i64 k] w fun e w' => e = .returned (.int .i64 (taskE N k)) ∧ Below w.heap.size w w' := by
  have hn3 := Nat.le_trans hN.out.tks.1 hN.out.tks.2.1
  have hlt := hN.out.tks.2.2.1
  by_cases hk : 0 ≤ k ∧ k < (n3 : Int)
  · obtain ⟨j, rfl⟩ : ∃ j : Nat, k = j := ⟨k.toNat, by omega⟩
    have := ck_Task_in j w (by omega) ht hN (Lib.hid (hF.out j (by omega)))
    rw [taskE_at (by omega)]
    exact this
  · have hf : amongB n3 k = false := by rw [← Bool.not_eq_true, among_iff]; exact hk
    have HA := fun W => Lib.hid (ck_among_tk A3 n3 c3 k W hn3)
    have HE := Lib.hid (show taskE N k = 3 by unfold taskE; rw [hlt, hf]; rfl)
    have HB1 := Lib.hid (below_then (alr w (.cells #[.slice A1 n1 c1, .slice A2 n2 c2, .slice A3 n3 c3, .int .i64 N.from_, .int .i64 N.to_] 26)) (alr _ (.cells #[.int .i64 k] 3)))
    rw [hf] at HA
    clear hf hlt hk
    go_enter Tryz.func13, Tryz.ntmps13
    go_wp2_with (go_at_call 55; refine (HA _).out.mono ?_; rintro e w0 ⟨rfl, rfl⟩)
    go_ret
    exact ⟨ret1 HE.out.symm, HB1.out⟩
theorem ck_net1 (a b : Int) (g : Nat) (w : World) (hB : Hid (NBox w g A1 n1 c1 A2 n2 c2 A3 n3 c3 a b)) :
    Calls Tryz.prog 27 #[.pointer (some ⟨g, 0, none⟩)] w fun e w' => e = .returned (.bool (decide (n2 ≤ 64) && decide (n3 ≤ 64))) ∧ Below w.heap.size w w' := by
  have x1 := hB.out.c1
  have x2 := hB.out.c2
  by_cases h1 : n2 ≤ 64
  · by_cases h2 : n3 ≤ 64
    all_goals
      go_enter Tryz.func27, Tryz.ntmps27
      go_wp2
      go_ret
      exact ⟨ret1b (by first | (simp [h1]; done) | (simp [h1]; omega)), Below.refl _ _⟩
  · go_enter Tryz.func27, Tryz.ntmps27
    go_wp2
    go_ret
    exact ⟨ret1b (by first | (simp; done) | (simp; omega)), Below.refl _ _⟩
theorem ck_net2 (a b : Int) (g : Nat) (w : World) (hn2 : n2 ≤ 9223372036854775807) (hB : Hid (NBox w g A1 n1 c1 A2 n2 c2 A3 n3 c3 a b)) :
    Calls Tryz.prog 28 #[.pointer (some ⟨g, 0, none⟩)] w fun e w' => e = .returned (.bool (amongB n2 a && amongB n2 b)) ∧ Below w.heap.size w w' := by
  have x1 := hB.out.c1
  have x3 := hB.out.c3
  have x4 := hB.out.c4
  have cA := fun W => Lib.hid (ck_among_pl A2 n2 c2 a W hn2)
  have cB := fun W => Lib.hid (ck_among_pl A2 n2 c2 b W hn2)
  obtain ⟨x, hx⟩ : ∃ x, x = amongB n2 a := ⟨_, rfl⟩
  obtain ⟨y, hy⟩ : ∃ y, y = amongB n2 b := ⟨_, rfl⟩
  rw [← hx] at cA ⊢
  rw [← hy] at cB ⊢
  clear hx hy
  cases x with
  | false =>
    go_enter Tryz.func28, Tryz.ntmps28
    go_wp2_with fail
    refine (cA _).out.mono ?_
    rintro e w2 ⟨rfl, rfl⟩
    go_wp2_with fail
    go_ret
    exact ⟨rfl, Below.refl _ _⟩
  | true =>
    go_enter Tryz.func28, Tryz.ntmps28
    go_wp2_with fail
    refine (cA _).out.mono ?_
    rintro e w2 ⟨rfl, rfl⟩
    go_wp2_with fail
    refine (cB _).out.mono ?_
    rintro e w2 ⟨rfl, rfl⟩
    go_wp2_with fail
    go_ret
    exact ⟨rfl, Below.refl _ _⟩
theorem ck_net3 (a b : Int) (g : Nat) (w : World) (hB : Hid (NBox w g A1 n1 c1 A2 n2 c2 A3 n3 c3 a b)) :
    Calls Tryz.prog 30 #[.pointer (some ⟨g, 0, none⟩)] w fun e w' => e = .returned (.bool (!decide (a = b))) ∧ Below w.heap.size w w' := by
  have x3 := hB.out.c3
  have x4 := hB.out.c4
  by_cases h : a = b
  · subst h
    go_enter Tryz.func30, Tryz.ntmps30
    go_wp2
    go_ret
    exact ⟨ret1b (by simp), Below.refl _ _⟩
  · have h1 : (a == b) = false := by simpa using h
    have h2 : (a != b) = true := by simpa using h
    have h3 := Lib.hid (decide_eq_false h)
    clear h
    go_enter Tryz.func30, Tryz.ntmps30
    go_wp2
    go_ret
    exact ⟨ret1b (by rw [h3.out]; rfl), Below.refl _ _⟩
set_option maxRecDepth 100000 in
set_option maxHeartbeats 1000000 in
theorem ck_net4 (k : Nat) (q : Pl) (A' : Option Addr) (n' c' : Nat) (g : Nat) (w : World) (ht : Hid (TabOk w)) (hB : Hid (NBox w g A1 n1 c1 A2 n2 c2 A3 n3 c3 N.from_ N.to_)) (hN : Hid (NetAt w A1 n1 c1 A2 n2 c2 A3 n3 c3 N)) :
    Calls Tryz.prog 33 #[.int .i64 (k : Int), q.val A' n' c', .pointer (some ⟨g, 0, none⟩)] w fun e w' => e = .returned (.int .i64 (placeE N k)) ∧ Below w.heap.size w w' := by
  have HB1 := Lib.hid (alr w (.cells #[.string q.name, .int .i64 q.colour, .slice A' n' c'] 45))
  have x0 := cell_kept HB1.out hB.out.c0
  have x1 := cell_kept HB1.out hB.out.c1
  have x2 := cell_kept HB1.out hB.out.c2
  have x3 := cell_kept HB1.out hB.out.c3
  have x4 := cell_kept HB1.out hB.out.c4
  have cA := Lib.hid (ck_Place (k : Int) _ (Lib.hid (ht.out.below HB1.out)) (Lib.hid (hN.out.below HB1.out)))
  obtain ⟨x, hx⟩ : ∃ x, x = placeE N k := ⟨_, rfl⟩
  rw [← hx] at cA ⊢
  clear hx
  go_enter Tryz.func33, Tryz.ntmps33
  go_wp2_with (go_at_call 11; refine cA.out.mono ?_; rintro e w2 ⟨rfl, hb⟩; have HB := Lib.hid (below_then HB1.out hb); clear hb)
  go_ret
  exact ⟨rfl, HB.out⟩
set_option maxRecDepth 100000 in
set_option maxHeartbeats 1000000 in
theorem ck_net5 (k : Nat) (q : Tk) (Av : Option Addr) (nv cv : Nat) (Ag : Option Addr) (mg cg : Nat) (Ai : Option Addr) (ni ci : Nat) (Ao : Option Addr) (no co : Nat) (Ac : Option Addr) (nc cc : Nat) (g : Nat) (w : World) (ht : Hid (TabOk w)) (hB : Hid (NBox w g A1 n1 c1 A2 n2 c2 A3 n3 c3 N.from_ N.to_)) (hN : Hid (NetAt w A1 n1 c1 A2 n2 c2 A3 n3 c3 N)) (hF : Hid (SmallN N)) :
    Calls Tryz.prog 35 #[.int .i64 (k : Int), q.val Av nv cv Ag mg cg Ai ni ci Ao no co Ac nc cc, .pointer (some ⟨g, 0, none⟩)] w fun e w' => e = .returned (.int .i64 (taskE N k)) ∧ Below w.heap.size w w' := by
  have HB1 := Lib.hid (alr w (.cells #[.string q.name, .slice Av nv cv, .int .i64 q.guard.kind, .int .i64 q.guard.num, .slice Ag mg cg, .int .i64 q.join, .int .i64 q.split, .slice Ai ni ci, .slice Ao no co, .slice Ac nc cc, .int .i64 q.after, .int .i64 q.m0, .int .i64 q.m1, .int .i64 q.m2] 53))
  have x0 := cell_kept HB1.out hB.out.c0
  have x1 := cell_kept HB1.out hB.out.c1
  have x2 := cell_kept HB1.out hB.out.c2
  have x3 := cell_kept HB1.out hB.out.c3
  have x4 := cell_kept HB1.out hB.out.c4
  have cA := Lib.hid (ck_Task (k : Int) _ (Lib.hid (ht.out.below HB1.out)) (Lib.hid (hN.out.below HB1.out)) hF)
  obtain ⟨x, hx⟩ : ∃ x, x = taskE N k := ⟨_, rfl⟩
  rw [← hx] at cA ⊢
  clear hx
  go_enter Tryz.func35, Tryz.ntmps35
  go_wp2_with (go_at_call 13; refine cA.out.mono ?_; rintro e w2 ⟨rfl, hb⟩; have HB := Lib.hid (below_then HB1.out hb); clear hb)
  go_ret
  exact ⟨rfl, HB.out⟩
/-- The cells of a block that nobody turned. -/
theorem blk2 {w W : World} {g : Nat} {T : TypeId} (h : w.heap[g]? = some (.cells #[.int .i64 0, .int .i64 0] T (0, 0))) (hb : Below w.heap.size w W) (hg : g < w.heap.size) :
    W.cell? ⟨g, 0, none⟩ = some (.int .i64 0) ∧ W.cell? ⟨g, 1, none⟩ = some (.int .i64 0) ∧ W.frozen? ⟨g, 0, none⟩ = false ∧ W.frozen? ⟨g, 1, none⟩ = false := by
  have h1 := (hb.block g hg).trans h
  exact ⟨by rw [cell_of_row _ _ _ _ _ _ h1]; rfl, by rw [cell_of_row _ _ _ _ _ _ h1]; rfl, frozen_row2 h1, frozen_row2 h1⟩
set_option maxRecDepth 100000 in
set_option maxHeartbeats 8000000 in
theorem ck_Net (w : World) (ht : Hid (TabOk w)) (hN : Hid (NetAt w A1 n1 c1 A2 n2 c2 A3 n3 c3 N)) (hF : Hid (SmallN N)) :
    Calls Tryz.prog 9 #[netV A1 n1 c1 A2 n2 c2 A3 n3 c3 N.from_ N.to_] w fun e w' => e = .returned (.tuple #[.agg #[.int .i64 (netE N).1, .int .i64 (netE N).2.1], .int .i64 (netE N).2.2]) ∧ Below w.heap.size w w' := by
  have hn2 := Nat.le_trans hN.out.pls.1 hN.out.pls.2.1
  have hn3 := Nat.le_trans hN.out.tks.1 hN.out.tks.2.1
  have hlp := hN.out.pls.2.2.1
  have hlt := hN.out.tks.2.2.1
  obtain ⟨E, hEE⟩ : ∃ E, E = netE N := ⟨_, rfl⟩
  rw [← hEE]
  unfold netE at hEE
  rw [hlp, hlt] at hEE
  obtain ⟨E1, E2, E3⟩ := E
  obtain ⟨hd, hhd⟩ : ∃ x, x = headE N := ⟨_, rfl⟩
  obtain ⟨cc, hcc⟩ : ∃ x, x = colsE N.cols := ⟨_, rfl⟩
  obtain ⟨pp, hpp⟩ : ∃ x, x = eachE (fun k => placeE N (k : Int)) n2 := ⟨_, rfl⟩
  obtain ⟨tt, htt⟩ : ∃ x, x = eachE (fun k => taskE N (k : Int)) n3 := ⟨_, rfl⟩
  rw [← hhd, ← hcc, ← hpp, ← htt] at hEE
  have HE := Lib.hid hEE
  have HHD := Lib.hid hhd
  have HLP := Lib.hid hlp
  have HLT := Lib.hid hlt
  have SZ1 := Lib.hid (show (w.alloc (.cells #[.slice A1 n1 c1, .slice A2 n2 c2, .slice A3 n3 c3, .int .i64 N.from_, .int .i64 N.to_] 26)).heap.size = w.heap.size + 1 from World.size_alloc _ _)
  have CC := Lib.hid (fun W (h : Below w.heap.size w W) => (show Calls Tryz.prog 31 #[netV A1 n1 c1 A2 n2 c2 A3 n3 c3 N.from_ N.to_] W fun e w' => e = .returned (.tuple #[.int .i64 cc.1, .int .i64 cc.2]) ∧ Below W.heap.size W w' by rw [hcc]; exact ck_colours W (Lib.hid (ht.out.below h)) (Lib.hid (hN.out.below h))))
  have CP := Lib.hid (fun W g (h : Below w.heap.size w W) (hb : NBox W g A1 n1 c1 A2 n2 c2 A3 n3 c3 N.from_ N.to_) => (show Calls Tryz.prog 32 #[.slice A2 n2 c2, .func (.func 33) #[] #[.pointer (some ⟨g, 0, none⟩)]] W fun e w' => e = .returned (.tuple #[.int .i64 pp.1, .int .i64 pp.2]) ∧ Below W.heap.size W w' by
    rw [hpp]
    exact ck_each_pl (fun k => placeE N (k : Int)) g A2 n2 c2 N.pls W hn2 (Lib.hid ((hN.out.below h).pls)) (Lib.hid fun k _ W' hb' b o A' n' c' _ => ck_net4 k _ A' n' c' g W' (Lib.hid (ht.out.below (below_then h hb'))) (Lib.hid (hb.below hb')) (Lib.hid (hN.out.below (below_then h hb'))))))
  have CT := Lib.hid (fun W g (h : Below w.heap.size w W) (hb : NBox W g A1 n1 c1 A2 n2 c2 A3 n3 c3 N.from_ N.to_) => (show Calls Tryz.prog 34 #[.slice A3 n3 c3, .func (.func 35) #[] #[.pointer (some ⟨g, 0, none⟩)]] W fun e w' => e = .returned (.tuple #[.int .i64 tt.1, .int .i64 tt.2]) ∧ Below W.heap.size W w' by
    rw [htt]
    exact ck_each_tk (fun k => taskE N (k : Int)) g A3 n3 c3 N.tks W hn3 (Lib.hid ((hN.out.below h).tks)) (Lib.hid fun k _ W' hb' b o Av nv cv Ag mg cg Ai ni ci Ao no co Ac nc cc _ => ck_net5 k _ Av nv cv Ag mg cg Ai ni ci Ao no co Ac nc cc g W' (Lib.hid (ht.out.below (below_then h hb'))) (Lib.hid (hb.below hb')) (Lib.hid (hN.out.below (below_then h hb'))) hF)))
  obtain ⟨cc1, cc2⟩ := cc
  obtain ⟨pp1, pp2⟩ := pp
  obtain ⟨tt1, tt2⟩ := tt
  clear hEE hhd hcc hpp htt hlp hlt
  go_enter Tryz.func9, Tryz.ntmps9
  go_upto_region 1 with fail
  obtain ⟨w1, hw1⟩ : ∃ x, x = (w.alloc (.cells #[.slice A1 n1 c1, .slice A2 n2 c2, .slice A3 n3 c3, .int .i64 N.from_, .int .i64 N.to_] 26)).alloc (.cells #[.int .i64 0, .int .i64 0] 30) := ⟨_, rfl⟩
  rw [← hw1]
  have HB1 := Lib.hid (show Below w.heap.size w w1 by rw [hw1]; exact below_then (alr w _) (alr _ _))
  have NB1 := Lib.hid (show NBox w1 w.heap.size A1 n1 c1 A2 n2 c2 A3 n3 c3 N.from_ N.to_ by rw [hw1]; exact (NBox.new w A1 n1 c1 A2 n2 c2 A3 n3 c3 N.from_ N.to_ 26).below (alr _ _))
  have R0 := Lib.hid (show w1.heap[w.heap.size + 1]? = some (.cells #[.int .i64 0, .int .i64 0] 30 (0, 0)) by rw [hw1]; exact SZ1.out ▸ heap_alloc_new (w.alloc (.cells #[.slice A1 n1 c1, .slice A2 n2 c2, .slice A3 n3 c3, .int .i64 N.from_, .int .i64 N.to_] 26)) _)
  have L1 := Lib.hid (show w.heap.size + 1 < w1.heap.size by rw [hw1, World.size_alloc, World.size_alloc]; omega)
  have W1 := Lib.hid hw1
  clear hw1
  go_wp2_with fail
  obtain ⟨w2, hw2⟩ : ∃ x, x = w1.alloc (.cells #[.func (.func 27) #[] #[.pointer (some ⟨w.heap.size, 0, none⟩)], .int .i64 2, .func (.func 28) #[] #[.pointer (some ⟨w.heap.size, 0, none⟩)], .int .i64 3, .func (.func 30) #[] #[.pointer (some ⟨w.heap.size, 0, none⟩)], .int .i64 1] 68) := ⟨_, rfl⟩
  rw [← hw2]
  have W2 := Lib.hid hw2
  have HB2 := Lib.hid (show Below w1.heap.size w1 w2 by rw [hw2]; exact alr _ _)
  have X0 := Lib.hid (show w2.cell? ⟨w1.heap.size, 0, none⟩ = some (.func (.func 27) #[] #[.pointer (some ⟨w.heap.size, 0, none⟩)]) by rw [hw2]; exact cell_new w1 _ _ 0 _ rfl)
  have X1 := Lib.hid (show w2.cell? ⟨w1.heap.size, 1, none⟩ = some (.int .i64 2) by rw [hw2]; exact cell_new w1 _ _ 1 _ rfl)
  have X2 := Lib.hid (show w2.cell? ⟨w1.heap.size, 2, none⟩ = some (.func (.func 28) #[] #[.pointer (some ⟨w.heap.size, 0, none⟩)]) by rw [hw2]; exact cell_new w1 _ _ 2 _ rfl)
  have X3 := Lib.hid (show w2.cell? ⟨w1.heap.size, 3, none⟩ = some (.int .i64 3) by rw [hw2]; exact cell_new w1 _ _ 3 _ rfl)
  have X4 := Lib.hid (show w2.cell? ⟨w1.heap.size, 4, none⟩ = some (.func (.func 30) #[] #[.pointer (some ⟨w.heap.size, 0, none⟩)]) by rw [hw2]; exact cell_new w1 _ _ 4 _ rfl)
  have X5 := Lib.hid (show w2.cell? ⟨w1.heap.size, 5, none⟩ = some (.int .i64 1) by rw [hw2]; exact cell_new w1 _ _ 5 _ rfl)
  clear hw2
  have cF := (ck_first (fun _ W => Below w2.heap.size w2 W) w2.heap.size w1.heap.size 3 3 [⟨27, #[.pointer (some ⟨w.heap.size, 0, none⟩)], 2, (decide (n2 ≤ 64) && decide (n3 ≤ 64))⟩, ⟨28, #[.pointer (some ⟨w.heap.size, 0, none⟩)], 3, (amongB n2 N.from_ && amongB n2 N.to_)⟩, ⟨30, #[.pointer (some ⟨w.heap.size, 0, none⟩)], 1, (!decide (N.from_ = N.to_))⟩] w2 rfl (by omega) (Lib.hid (Below.refl _ _)) (Lib.hid ⟨enters_of Tryz.func27 (by kernel_rfl) rfl, fun W h => ⟨cell_kept h X0.out, cell_kept h X1.out⟩, fun W h => (ck_net1 N.from_ N.to_ _ W (Lib.hid (NB1.out.below (below_then HB2.out h)))).mono fun e w' he => ⟨he.1, below_then h he.2, kept_of he.2⟩, enters_of Tryz.func28 (by kernel_rfl) rfl, fun W h => ⟨cell_kept h X2.out, cell_kept h X3.out⟩, fun W h => (ck_net2 N.from_ N.to_ _ W hn2 (Lib.hid (NB1.out.below (below_then HB2.out h)))).mono fun e w' he => ⟨he.1, below_then h he.2, kept_of he.2⟩, enters_of Tryz.func30 (by kernel_rfl) rfl, fun W h => ⟨cell_kept h X4.out, cell_kept h X5.out⟩, fun W h => (ck_net3 N.from_ N.to_ _ W (Lib.hid (NB1.out.below (below_then HB2.out h)))).mono fun e w' he => ⟨he.1, below_then h he.2, kept_of he.2⟩, trivial⟩) (Lib.hid fun _ _ h => h.size) (Lib.hid fun i W o h => h.alloc h.size o))
  obtain ⟨y, hy⟩ : ∃ y, y = firstQ [⟨27, #[.pointer (some ⟨w.heap.size, 0, none⟩)], 2, (decide (n2 ≤ 64) && decide (n3 ≤ 64))⟩, ⟨28, #[.pointer (some ⟨w.heap.size, 0, none⟩)], 3, (amongB n2 N.from_ && amongB n2 N.to_)⟩, ⟨30, #[.pointer (some ⟨w.heap.size, 0, none⟩)], 1, (!decide (N.from_ = N.to_))⟩] := ⟨_, rfl⟩
  rw [← hy] at cF
  have HY := Lib.hid hy
  clear hy
  refine cF.mono ?_
  rintro e w3 ⟨rfl, hb3⟩
  clear cF
  have HB3 := Lib.hid (below_then HB1.out (below_then HB2.out hb3))
  have HB23 := Lib.hid hb3
  clear hb3
  have HY2 := Lib.hid (show y = hd by rw [HY.out, HHD.out, firstQ_E]; unfold headE; rw [HLP.out, HLT.out]; rfl)
  have B3 := Lib.hid (below_then HB2.out (show Below w2.heap.size w2 w3 from HB23.out))
  obtain ⟨r0, r1, r2, r3⟩ := blk2 R0.out B3.out L1.out
  by_cases h0 : y = 0
  case neg =>
    have z0 : (y == 0) = false := by simpa using h0
    have z1 : (y != 0) = true := by simpa using h0
    have hE := HE.out
    rw [if_neg (by rw [← HY2.out]; exact h0)] at hE
    injection hE with q1 hE
    injection hE with q2 q3
    have Q1 := Lib.hid q1
    have Q2 := Lib.hid q2
    have Q3 := Lib.hid (q3.trans HY2.out.symm)
    clear h0 q1 q2 q3
    go_wp2_with fail
    refine bodyPost_ret (by rw [results_cell_tmp rfl]; go_simp; rfl) rfl ?_
    refine ⟨ret3p Q1.out.symm Q2.out.symm Q3.out.symm, ?_⟩
    exact ((HB3.out).setCell (Nat.le_succ _) _).setCell (Nat.le_succ _) _
  have hE := HE.out
  rw [if_pos (by rw [← HY2.out]; exact h0)] at hE
  subst h0
  have HE2 := Lib.hid hE
  have NB3 := Lib.hid (NB1.out.below B3.out)
  have x0 := NB3.out.c0
  have x1 := NB3.out.c1
  have x2 := NB3.out.c2
  have x3 := NB3.out.c3
  have x4 := NB3.out.c4
  clear hE HE r0 r1 r2 r3
  go_wp2_with fail
  refine (CC.out w3 HB3.out).mono ?_
  rintro e w4 ⟨rfl, hb4⟩
  have HB4 := Lib.hid (below_then HB3.out hb4)
  have B4 := Lib.hid (below_then B3.out hb4)
  obtain ⟨r0, r1, r2, r3⟩ := blk2 R0.out B4.out L1.out
  clear hb4 x0 x1 x2 x3 x4
  by_cases h0 : cc2 = 0
  case neg =>
    have z0 : (cc2 == 0) = false := by simpa using h0
    have z1 : (cc2 != 0) = true := by simpa using h0
    have hE := HE2.out
    rw [if_neg h0] at hE
    injection hE with q1 hE
    injection hE with q2 q3
    have Q1 := Lib.hid q1
    have Q2 := Lib.hid q2
    have Q3 := Lib.hid q3
    clear h0 q1 q2 q3
    go_wp2_with fail
    refine bodyPost_ret (by rw [results_cell_tmp rfl]; go_simp; rfl) rfl ?_
    refine ⟨ret3p Q1.out.symm Q2.out.symm Q3.out.symm, ?_⟩
    exact ((HB4.out).setCell (Nat.le_succ _) _).setCell (Nat.le_succ _) _
  have hE := HE2.out
  subst h0
  rw [if_pos rfl] at hE
  have HE3 := Lib.hid hE
  have NB4 := Lib.hid (NB1.out.below B4.out)
  have x1 := NB4.out.c1
  clear hE HE2 r0 r1 r2 r3
  go_wp2_with fail
  refine (CP.out w4 _ HB4.out NB4.out).mono ?_
  rintro e w5 ⟨rfl, hb5⟩
  have HB5 := Lib.hid (below_then HB4.out hb5)
  have B5_ := Lib.hid (below_then B4.out hb5)
  obtain ⟨r0, r1, r2, r3⟩ := blk2 R0.out B5_.out L1.out
  clear hb5 x1
  by_cases h0 : pp2 = 0
  case neg =>
    have z0 : (pp2 == 0) = false := by simpa using h0
    have z1 : (pp2 != 0) = true := by simpa using h0
    have hE := HE3.out
    rw [if_neg h0] at hE
    injection hE with q1 hE
    injection hE with q2 q3
    have Q1 := Lib.hid q1
    have Q2 := Lib.hid q2
    have Q3 := Lib.hid q3
    clear h0 q1 q2 q3
    go_wp2_with fail
    refine bodyPost_ret (by rw [results_cell_tmp rfl]; go_simp; rfl) rfl ?_
    refine ⟨ret3p Q1.out.symm Q2.out.symm Q3.out.symm, ?_⟩
    exact ((HB5.out).setCell (Nat.le_succ _) _).setCell (Nat.le_succ _) _
  have hE := HE3.out
  subst h0
  rw [if_pos rfl] at hE
  have HE4 := Lib.hid hE
  have NB5 := Lib.hid (NB1.out.below B5_.out)
  have x2 := NB5.out.c2
  clear hE HE3 r0 r1 r2 r3
  go_wp2_with fail
  refine (CT.out w5 _ HB5.out NB5.out).mono ?_
  rintro e w6 ⟨rfl, hb6⟩
  have HB6 := Lib.hid (below_then HB5.out hb6)
  have B6 := Lib.hid (below_then B5_.out hb6)
  obtain ⟨r0, r1, r2, r3⟩ := blk2 R0.out B6.out L1.out
  clear hb6 x2
  by_cases h0 : tt2 = 0
  case neg =>
    have z0 : (tt2 == 0) = false := by simpa using h0
    have z1 : (tt2 != 0) = true := by simpa using h0
    have hE := HE4.out
    rw [if_neg h0] at hE
    injection hE with q1 hE
    injection hE with q2 q3
    have Q1 := Lib.hid q1
    have Q2 := Lib.hid q2
    have Q3 := Lib.hid q3
    clear h0 q1 q2 q3
    go_wp2_with fail
    refine bodyPost_ret (by rw [results_cell_tmp rfl]; go_simp; rfl) rfl ?_
    refine ⟨ret3p Q1.out.symm Q2.out.symm Q3.out.symm, ?_⟩
    exact ((HB6.out).setCell (Nat.le_succ _) _).setCell (Nat.le_succ _) _
  have hE := HE4.out
  subst h0
  rw [if_pos rfl] at hE
  injection hE with q1 hE
  injection hE with q2 q3
  have Q1 := Lib.hid q1
  have Q2 := Lib.hid q2
  have Q3 := Lib.hid q3
  clear q1 q2 q3 HE4
  go_wp2_with fail
  refine bodyPost_ret (by rw [results_cell_tmp rfl]; go_simp; rfl) rfl ?_
  refine ⟨ret3p Q1.out.symm Q2.out.symm Q3.out.symm, ?_⟩
  exact ((HB6.out).setCell (Nat.le_succ _) _).setCell (Nat.le_succ _) _
end
end Go.Proofs.YtaeeblceedklnaaGreatDoor
