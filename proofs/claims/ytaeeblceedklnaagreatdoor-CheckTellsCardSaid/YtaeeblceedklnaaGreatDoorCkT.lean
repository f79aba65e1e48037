/- Package check: Task. Printed by gen_ckC.py. -/
import Derived.Test.YtaeeblceedklnaaGreatDoorCkG
namespace Go.Proofs.YtaeeblceedklnaaGreatDoor
open Go.RowKit
theorem frozen_row2 {w : World} {g t o : Nat} {cs : Array Value} (h : w.heap[g]? = some (.cells cs t (0, 0))) : w.frozen? ⟨g, o, none⟩ = false := by simp [World.frozen?, h]
theorem frozen_new (w : World) (cs : Array Value) (T : TypeId) (o : Nat) : (w.alloc (.cells cs T)).frozen? ⟨w.heap.size, o, none⟩ = false := frozen_row2 (heap_alloc_new w _)
theorem below_drew1 {B : Nat} {a w : World} (h : Below B a w) : Below B a w.drew := below_drewN' h 1
/-- Only the cell of what is told has turned. -/
structure OnT (w0 : World) (gt : Nat) (z : Int) (W : World) : Prop where
  gb : w0.grownBy W (some gt)
  c : W.cell? ⟨gt, 0, none⟩ = some (.int .i64 z)
  f : W.frozen? ⟨gt, 0, none⟩ = false
theorem OnT.below {w0 W W' : World} {gt : Nat} {z : Int} (h : OnT w0 gt z W) (hb : Below W.heap.size W W') : OnT w0 gt z W' :=
  ⟨⟨hb.os.trans h.gb.os, hb.tape.trans h.gb.tape, hb.output.trans h.gb.output, Nat.le_trans h.gb.size hb.size, fun k hk hn => (hb.block k (Nat.lt_of_lt_of_le hk h.gb.size)).trans (h.gb.block k hk hn)⟩, cell_kept hb h.c, (hb.frozen (p := ⟨gt, 0, none⟩) (World.block_lt_of_cell? W _ h.c)).trans h.f⟩
theorem OnT.alloc {w0 W : World} {gt : Nat} {z : Int} (h : OnT w0 gt z W) (o : Obj) : OnT w0 gt z (W.alloc o) := h.below (alr W o)
theorem OnT.set {w0 W : World} {gt : Nat} {z : Int} (h : OnT w0 gt z W) (x : Int) : OnT w0 gt x (W.setCell ⟨gt, 0, none⟩ (.int .i64 x)) :=
  ⟨⟨h.gb.os, h.gb.tape, h.gb.output, by simpa [World.setCell] using h.gb.size, fun k hk hn => (Below.heap_setCell W _ _ k (by rintro rfl; exact hn rfl)).trans (h.gb.block k hk hn)⟩, World.cell?_setCell_same W _ _ h.c, by rw [World.frozen?_setCell]; exact h.f⟩
theorem OnT.cell {w0 W : World} {gt : Nat} {z : Int} (h : OnT w0 gt z W) {b o : Nat} {u : Value} (hc : w0.cell? ⟨b, o, none⟩ = some u) (hn : b ≠ gt) : W.cell? ⟨b, o, none⟩ = some u :=
  (World.cell?_of_block (a := ⟨b, o, none⟩) (h.gb.block b (World.block_lt_of_cell? w0 _ hc) (by intro e; injection e with e; exact hn e))).trans hc
theorem OnT.old {w w0 W : World} {gt : Nat} {z : Int} (h : OnT w0 gt z W) (hb : Below w.heap.size w w0) (hg : w.heap.size ≤ gt) : Below w.heap.size w W :=
  hb.grown h.gb hb.size fun k hk => by injection hk with hk; omega
/-- What has been told, ahead of the i-th question. -/
def tvs (a b c d : Int) : Nat → Int
  | 0 | 1 | 2 | 3 => 0
  | 4 | 5 | 6 => a
  | 7 => b
  | 8 => c
  | _ => d
theorem told_eq (a b c d : Int) (f0 f1 f2 f3 f4 f5 f6 f7 f8 f9 : FuncId) (c0 c1 c2 c3 c4 c5 c6 c7 c8 c9 : Array Value) (a0 a1 a2 a3 a4 a5 a6 a7 a8 a9 : Bool) :
    (if firstQ [⟨f0, c0, 1, a0⟩, ⟨f1, c1, 5, a1⟩, ⟨f2, c2, 2, a2⟩, ⟨f3, c3, -1, a3⟩, ⟨f4, c4, 2, a4⟩, ⟨f5, c5, 1, a5⟩, ⟨f6, c6, -1, a6⟩, ⟨f7, c7, -1, a7⟩, ⟨f8, c8, -1, a8⟩, ⟨f9, c9, 11, a9⟩] = -1 then
      tvs a b c d (stopQ 0 [⟨f0, c0, 1, a0⟩, ⟨f1, c1, 5, a1⟩, ⟨f2, c2, 2, a2⟩, ⟨f3, c3, -1, a3⟩, ⟨f4, c4, 2, a4⟩, ⟨f5, c5, 1, a5⟩, ⟨f6, c6, -1, a6⟩, ⟨f7, c7, -1, a7⟩, ⟨f8, c8, -1, a8⟩, ⟨f9, c9, 11, a9⟩])
    else firstQ [⟨f0, c0, 1, a0⟩, ⟨f1, c1, 5, a1⟩, ⟨f2, c2, 2, a2⟩, ⟨f3, c3, -1, a3⟩, ⟨f4, c4, 2, a4⟩, ⟨f5, c5, 1, a5⟩, ⟨f6, c6, -1, a6⟩, ⟨f7, c7, -1, a7⟩, ⟨f8, c8, -1, a8⟩, ⟨f9, c9, 11, a9⟩]) =
    firstE [(a0, 1), (a1, 5), (a2, 2), (a3, a), (a4, 2), (a5, 1), (a6, b), (a7, c), (a8, d), (a9, 11)] := by
  cases a0
  · rfl
  cases a1
  · rfl
  cases a2
  · rfl
  cases a3
  · rfl
  cases a4
  · rfl
  cases a5
  · rfl
  cases a6
  · rfl
  cases a7
  · rfl
  cases a8
  · rfl
  cases a9
  · rfl
  rfl
/-- A task of small expressions. -/
def SmallT (t : Tk) : Prop := sizeT t.guard ≤ 1000000 ∧ (∀ j, j < t.ins.length → sizeT (t.ins.getD j default).expr ≤ 1000000) ∧ ∀ j, j < t.outs.length → sizeT (t.outs.getD j default).expr ≤ 1000000
section
variable {A1 A2 A3 : Option Addr} {n1 c1 n2 c2 n3 c3 : Nat} {N : Nt}
set_option maxRecDepth 100000 in
set_option maxHeartbeats 8000000 in
theorem ck_Task_in (k : Nat) (w : World) (hk : k < n3) (ht : Hid (TabOk w)) (hN : Hid (NetAt w A1 n1 c1 A2 n2 c2 A3 n3 c3 N)) (hF : Hid (SmallT (N.tks.getD k default))) :
    Calls Tryz.prog 13 #[netV A1 n1 c1 A2 n2 c2 A3 n3 c3 N.from_ N.to_, .int .i64 (k : Int)] w fun e w' => e = .returned (.int .i64 (taskB N k (N.tks.getD k default))) ∧ Below w.heap.size w w' := by
  have hn1 := Nat.le_trans hN.out.cols.1 hN.out.cols.2.1
  have hn2 := Nat.le_trans hN.out.pls.1 hN.out.pls.2.1
  have hn3 := Nat.le_trans hN.out.tks.1 hN.out.tks.2.1
  have hlc := hN.out.cols.2.2.1
  have hlp := hN.out.pls.2.2.1
  obtain ⟨b, off, eA, _⟩ := hN.out.tks.at_ hk
  subst eA
  obtain ⟨E, hEE⟩ : ∃ E, E = taskB N k (N.tks.getD k default) := ⟨_, rfl⟩
  rw [← hEE]
  unfold taskB at hEE
  rw [hlp, hlc] at hEE
  have HA := fun W => Lib.hid (ck_among_tk (some ⟨b, off, none⟩) n3 c3 (k : Int) W hn3)
  rw [show amongB n3 (k : Int) = true by unfold amongB; simp; omega] at HA
  obtain ⟨w1, hw1⟩ : ∃ x, x = (w.alloc (.cells #[.slice A1 n1 c1, .slice A2 n2 c2, .slice (some ⟨b, off, none⟩) n3 c3, .int .i64 N.from_, .int .i64 N.to_] 26)).alloc (.cells #[.int .i64 (k : Int)] 3) := ⟨_, rfl⟩
  have HB1 := Lib.hid (show Below w.heap.size w w1 by rw [hw1]; exact below_then (alr w _) (alr _ _))
  have NB1 := Lib.hid (show NBox w1 w.heap.size A1 n1 c1 A2 n2 c2 (some ⟨b, off, none⟩) n3 c3 N.from_ N.to_ by rw [hw1]; exact (NBox.new w A1 n1 c1 A2 n2 c2 (some ⟨b, off, none⟩) n3 c3 N.from_ N.to_ 26).below (alr _ _))
  have K1 := Lib.hid (show w1.cell? ⟨w.heap.size + 1, 0, none⟩ = some (.int .i64 (k : Int)) by rw [hw1]; exact (show (w.alloc (.cells #[.slice A1 n1 c1, .slice A2 n2 c2, .slice (some ⟨b, off, none⟩) n3 c3, .int .i64 N.from_, .int .i64 N.to_] 26)).heap.size = w.heap.size + 1 from World.size_alloc _ _) ▸ cell_new (w.alloc (.cells #[.slice A1 n1 c1, .slice A2 n2 c2, .slice (some ⟨b, off, none⟩) n3 c3, .int .i64 N.from_, .int .i64 N.to_] 26)) #[.int .i64 (k : Int)] 3 0 _ rfl)
  have HC := Lib.hid (ck_colours (A1 := A1) (n1 := n1) (c1 := c1) (A2 := A2) (n2 := n2) (c2 := c2) (A3 := (some ⟨b, off, none⟩)) (n3 := n3) (c3 := c3) (N := N) w1 (Lib.hid (ht.out.below HB1.out)) (Lib.hid (hN.out.below HB1.out)))
  obtain ⟨y1, hy1⟩ : ∃ y, y = (colsE N.cols).1 := ⟨_, rfl⟩
  obtain ⟨y2, hy2⟩ : ∃ y, y = (colsE N.cols).2 := ⟨_, rfl⟩
  rw [← hy1, ← hy2] at HC
  rw [← hy2] at hEE
  have HW := Lib.hid hw1.symm
  have x0 := NB1.out.c0
  have x1 := NB1.out.c1
  have x2 := NB1.out.c2
  have x3 := NB1.out.c3
  have x4 := NB1.out.c4
  have kk := K1.out
  have HE := Lib.hid hEE
  clear hEE hy1 hy2 hw1 hlc hlp
  go_enter Tryz.func13, Tryz.ntmps13
  go_upto_region 1 with fail
  rw [HW.out]
  go_wp2_with fail
  refine (HA _).out.mono ?_
  rintro e w0 ⟨rfl, rfl⟩
  go_wp2_with fail
  refine HC.out.mono ?_
  rintro e w5 ⟨rfl, hb⟩
  have HB5 := Lib.hid hb
  have HBW := Lib.hid (below_then HB1.out hb)
  clear hb x0 x1 x2 x3 x4 kk
  by_cases h0 : y2 = 0
  case neg =>
    have z0 : (y2 == 0) = false := by simpa using h0
    have z1 : (y2 != 0) = true := by simpa using h0
    have hE := HE.out
    rw [if_neg h0] at hE
    have HE2 := Lib.hid hE
    clear h0 hE
    go_wp2_with fail
    go_ret
    exact ⟨ret1 HE2.out.symm, HBW.out⟩
  have hE := HE.out
  subst h0
  rw [if_pos rfl] at hE
  clear HE
  have N5 := Lib.hid (hN.out.below HBW.out)
  obtain ⟨b', off', hbb, Av, nv, cv, Ag, mg, cg, Ai, ni, ci, Ao, no, co, Ac, nc, cc, hT⟩ := N5.out.tks.at_ hk
  injection hbb with hbb
  injection hbb with hb1 hb2
  subst hb1
  subst hb2
  have HSM := hF
  obtain ⟨q, hq⟩ : ∃ q, q = N.tks.getD k default := ⟨_, rfl⟩
  rw [← hq] at hE hT HSM
  have HT := Lib.hid hT
  have HEE := Lib.hid hE
  have hl := Lib.hid (show q.vars.length = nv ∧ q.ins.length = ni ∧ q.outs.length = no ∧ q.cancel.length = nc from ⟨hT.vars.2.2.1, hT.ins.2.2.1, hT.outs.2.2.1, by have := hT.cancel.len; rw [intCells_len] at this; omega⟩)
  have HCF := Lib.hid (show ∀ W, Below w5.heap.size w5 W → W.cell? ⟨w.heap.size, 2, none⟩ = some (.slice (some ⟨b, off, none⟩) n3 c3) ∧ W.cell? ⟨w.heap.size + 1, 0, none⟩ = some (.int .i64 (k : Int)) ∧ W.cell? ⟨b, off + k * 14, none⟩ = some (.string q.name) ∧ W.cell? ⟨b, off + k * 14 + 1, none⟩ = some (.slice Av nv cv) ∧ W.cell? ⟨b, off + k * 14 + 2, none⟩ = some (.int .i64 q.guard.kind) ∧ W.cell? ⟨b, off + k * 14 + 3, none⟩ = some (.int .i64 q.guard.num) ∧ W.cell? ⟨b, off + k * 14 + 4, none⟩ = some (.slice Ag mg cg) ∧ W.cell? ⟨b, off + k * 14 + 5, none⟩ = some (.int .i64 q.join) ∧ W.cell? ⟨b, off + k * 14 + 6, none⟩ = some (.int .i64 q.split) ∧ W.cell? ⟨b, off + k * 14 + 7, none⟩ = some (.slice Ai ni ci) ∧ W.cell? ⟨b, off + k * 14 + 8, none⟩ = some (.slice Ao no co) ∧ W.cell? ⟨b, off + k * 14 + 9, none⟩ = some (.slice Ac nc cc) ∧ W.cell? ⟨b, off + k * 14 + 10, none⟩ = some (.int .i64 q.after) ∧ W.cell? ⟨b, off + k * 14 + 11, none⟩ = some (.int .i64 q.m0) ∧ W.cell? ⟨b, off + k * 14 + 12, none⟩ = some (.int .i64 q.m1) ∧ W.cell? ⟨b, off + k * 14 + 13, none⟩ = some (.int .i64 q.m2) from fun W h => ⟨cell_kept h (NB1.out.below HB5.out).c2, cell_kept h (cell_kept HB5.out K1.out), cell_kept h HT.out.c0, cell_kept h HT.out.c1, cell_kept h HT.out.c2, cell_kept h HT.out.c3, cell_kept h HT.out.c4, cell_kept h HT.out.c5, cell_kept h HT.out.c6, cell_kept h HT.out.c7, cell_kept h HT.out.c8, cell_kept h HT.out.c9, cell_kept h HT.out.c10, cell_kept h HT.out.c11, cell_kept h HT.out.c12, cell_kept h HT.out.c13⟩)
  have k0 : (0 : Int) ≤ (k : Int) := by omega
  have k1 : (k : Int) < (n3 : Int) := by omega
  have BD0 : Hid (Below w5.heap.size w5 w5.drew) := Lib.hid (below_drewN' (Below.refl _ _) 1)
  clear hq hT hE HC HA
  go_wp2_with fail
  go_cut [7, 8] (fun s7 s8 wx => ∃ g7 g8, s7 = .pointer (some ⟨g7, 0, none⟩) ∧ s8 = .pointer (some ⟨g8, 0, none⟩) ∧ Hid (TBox wx g7 Av nv cv Ag mg cg Ai ni ci Ao no co Ac nc cc q) ∧ Hid (wx.cell? ⟨g8, 0, none⟩ = some (.int .i64 (nv : Int))) ∧ Hid (Below w5.heap.size w5 wx))
  case first =>
    go_region_held3 (fun W => W.cell? ⟨w.heap.size, 2, none⟩ = some (.slice (some ⟨b, off, none⟩) n3 c3) ∧ W.cell? ⟨w.heap.size + 1, 0, none⟩ = some (.int .i64 (k : Int)) ∧ W.cell? ⟨b, off + k * 14, none⟩ = some (.string q.name) ∧ W.cell? ⟨b, off + k * 14 + 1, none⟩ = some (.slice Av nv cv) ∧ W.cell? ⟨b, off + k * 14 + 2, none⟩ = some (.int .i64 q.guard.kind) ∧ W.cell? ⟨b, off + k * 14 + 3, none⟩ = some (.int .i64 q.guard.num) ∧ W.cell? ⟨b, off + k * 14 + 4, none⟩ = some (.slice Ag mg cg) ∧ W.cell? ⟨b, off + k * 14 + 5, none⟩ = some (.int .i64 q.join) ∧ W.cell? ⟨b, off + k * 14 + 6, none⟩ = some (.int .i64 q.split) ∧ W.cell? ⟨b, off + k * 14 + 7, none⟩ = some (.slice Ai ni ci) ∧ W.cell? ⟨b, off + k * 14 + 8, none⟩ = some (.slice Ao no co) ∧ W.cell? ⟨b, off + k * 14 + 9, none⟩ = some (.slice Ac nc cc) ∧ W.cell? ⟨b, off + k * 14 + 10, none⟩ = some (.int .i64 q.after) ∧ W.cell? ⟨b, off + k * 14 + 11, none⟩ = some (.int .i64 q.m0) ∧ W.cell? ⟨b, off + k * 14 + 12, none⟩ = some (.int .i64 q.m1) ∧ W.cell? ⟨b, off + k * 14 + 13, none⟩ = some (.int .i64 q.m2))
      (first | (refine HCF.out _ ?_; repeat' (first | exact BD0.out | exact Below.refl _ _ | refine below_drew1 ?_ | refine Below.alloc ?_ ?_ _ | refine Below.setCell ?_ ?_ _ | (simp; done) | (simp; omega))))
      (fail)
    all_goals
      go_wp2_with fail
      go_meet
      first
        | exact ⟨_, _, rfl, rfl, Lib.hid (((TBox.new w5 Av nv cv Ag mg cg Ai ni ci Ao no co Ac nc cc q 53).below (alr _ _)).below (below_drew1 (Below.refl _ _))), Lib.hid (cell_kept (below_drew1 (Below.refl _ _)) ((show (w5.alloc (.cells #[.string q.name, .slice Av nv cv, .int .i64 q.guard.kind, .int .i64 q.guard.num, .slice Ag mg cg, .int .i64 q.join, .int .i64 q.split, .slice Ai ni ci, .slice Ao no co, .slice Ac nc cc, .int .i64 q.after, .int .i64 q.m0, .int .i64 q.m1, .int .i64 q.m2] 53)).heap.size = w5.heap.size + 1 from World.size_alloc _ _) ▸ cell_new (w5.alloc (.cells #[.string q.name, .slice Av nv cv, .int .i64 q.guard.kind, .int .i64 q.guard.num, .slice Ag mg cg, .int .i64 q.join, .int .i64 q.split, .slice Ai ni ci, .slice Ao no co, .slice Ac nc cc, .int .i64 q.after, .int .i64 q.m0, .int .i64 q.m1, .int .i64 q.m2] 53)) #[.int .i64 (nv : Int)] 3 0 _ rfl)), Lib.hid (below_drew1 (below_then (alr _ _) (alr _ _)))⟩
        | exact ⟨_, _, rfl, rfl, Lib.hid (((show (w5.alloc (.cells #[.int .i64 (nv : Int)] 3)).heap.size = w5.heap.size + 1 from World.size_alloc _ _) ▸ TBox.new (w5.alloc (.cells #[.int .i64 (nv : Int)] 3)) Av nv cv Ag mg cg Ai ni ci Ao no co Ac nc cc q 53).below (below_drew1 (Below.refl _ _))), Lib.hid (cell_kept (below_drew1 (Below.refl _ _)) (cell_kept (alr _ _) (cell_new w5 #[.int .i64 (nv : Int)] 3 0 _ rfl))), Lib.hid (below_drew1 (below_then (alr _ _) (alr _ _)))⟩
  case rest =>
    obtain ⟨g7, g8, rfl, rfl, hTB, hV, hB⟩ := hcut
    have HBC := Lib.hid (below_then HBW.out hB.out)
    have N5c := Lib.hid (NB1.out.below (below_then HB5.out hB.out))
    have K5c := Lib.hid (cell_kept (below_then HB5.out hB.out) K1.out)
    have HBA := Lib.hid (alr wc (.cells #[.func (.func 56) #[] #[.pointer (some ⟨g7, 0, none⟩)]] 86))
    have SZA := Lib.hid (show (wc.alloc (.cells #[.func (.func 56) #[] #[.pointer (some ⟨g7, 0, none⟩)]] 86)).heap.size = wc.heap.size + 1 from World.size_alloc _ _)
    have FN0 := Lib.hid (cell_new wc #[.func (.func 56) #[] #[.pointer (some ⟨g7, 0, none⟩)]] 86 0 _ rfl)
    have TD0 := Lib.hid (show ((wc.alloc (.cells #[.func (.func 56) #[] #[.pointer (some ⟨g7, 0, none⟩)]] 86)).alloc (.cells #[.int .i64 0] 31)).cell? ⟨wc.heap.size + 1, 0, none⟩ = some (.int .i64 0) from SZA.out ▸ cell_new (wc.alloc (.cells #[.func (.func 56) #[] #[.pointer (some ⟨g7, 0, none⟩)]] 86)) #[.int .i64 0] 31 0 _ rfl)
    have FZ0 := Lib.hid (show ((wc.alloc (.cells #[.func (.func 56) #[] #[.pointer (some ⟨g7, 0, none⟩)]] 86)).alloc (.cells #[.int .i64 0] 31)).frozen? ⟨wc.heap.size + 1, 0, none⟩ = false from SZA.out ▸ frozen_new (wc.alloc (.cells #[.func (.func 56) #[] #[.pointer (some ⟨g7, 0, none⟩)]] 86)) _ _ 0)
    have SZD := Lib.hid (show ((wc.alloc (.cells #[.func (.func 56) #[] #[.pointer (some ⟨g7, 0, none⟩)]] 86)).alloc (.cells #[.int .i64 0] 31)).heap.size = wc.heap.size + 1 + 1 by rw [World.size_alloc, World.size_alloc])
    have HAD := Lib.hid (alr (wc.alloc (.cells #[.func (.func 56) #[] #[.pointer (some ⟨g7, 0, none⟩)]] 86)) (.cells #[.int .i64 0] 31))
    obtain ⟨wd, hwd⟩ : ∃ x, x = (wc.alloc (.cells #[.func (.func 56) #[] #[.pointer (some ⟨g7, 0, none⟩)]] 86)).alloc (.cells #[.int .i64 0] 31) := ⟨_, rfl⟩
    rw [← hwd] at TD0 FZ0 SZD HAD
    have HWD := Lib.hid hwd.symm
    clear hwd
    obtain ⟨wa, hwa⟩ : ∃ x, x = (wc.alloc (.cells #[.func (.func 56) #[] #[.pointer (some ⟨g7, 0, none⟩)]] 86)) := ⟨_, rfl⟩
    rw [← hwa] at HBA SZA FN0 HAD
    clear hwa
    have NBa := Lib.hid (N5c.out.below HBA.out)
    have Ka := Lib.hid (cell_kept HBA.out K5c.out)
    have TBa := Lib.hid (hTB.out.below HBA.out)
    have Va := Lib.hid (cell_kept HBA.out hV.out)
    have HWa := Lib.hid (below_then HBC.out HBA.out)
    have HTa := Lib.hid (HT.out.below (below_then hB.out HBA.out))
    have HTab := Lib.hid (ht.out.below HWa.out)
    have HNa := Lib.hid (hN.out.below HWa.out)
    obtain ⟨gt, hgt⟩ : ∃ x, x = wc.heap.size + 1 := ⟨_, rfl⟩
    have HGT := Lib.hid hgt
    clear hgt BD0
    go_wp2_with fail
    rw [HWD.out]
    refine (ck_found (wc.heap.size + 1) (.func (.func 62) #[] #[.pointer (some ⟨w.heap.size, 0, none⟩), .pointer (some ⟨g7, 0, none⟩)]) 62 #[.pointer (some ⟨w.heap.size, 0, none⟩), .pointer (some ⟨g7, 0, none⟩)] rfl wd).mono ?_
    rintro e w6 ⟨rfl, hw6⟩
    have HB6 := Lib.hid (show Below wd.heap.size wd w6 by rw [← hw6]; exact below_then (alr _ _) (alr _ _))
    have P6 := Lib.hid (show w6.cell? ⟨wd.heap.size, 0, none⟩ = some (.pointer (some ⟨gt, 0, none⟩)) by rw [← hw6, HGT.out]; exact cell_kept (alr _ _) (cell_new wd _ _ 0 _ rfl))
    have Q6 := Lib.hid (show w6.cell? ⟨wd.heap.size + 1, 0, none⟩ = some (.func (.func 62) #[] #[.pointer (some ⟨w.heap.size, 0, none⟩), .pointer (some ⟨g7, 0, none⟩)]) by rw [← hw6]; exact (show (wd.alloc (.cells #[.pointer (some ⟨wc.heap.size + 1, 0, none⟩)] 89)).heap.size = wd.heap.size + 1 from World.size_alloc _ _) ▸ cell_new (wd.alloc (.cells #[.pointer (some ⟨wc.heap.size + 1, 0, none⟩)] 89)) _ _ 0 _ rfl)
    have Z6 := Lib.hid (show wd.heap.size + 1 + 1 ≤ w6.heap.size by rw [← hw6, World.size_alloc, World.size_alloc]; exact Nat.le_refl _)
    clear hw6
    go_wp2_with fail
    refine (ck_found (wc.heap.size + 1) (.func (.func 66) #[] #[.pointer (some ⟨w.heap.size, 0, none⟩), .pointer (some ⟨g7, 0, none⟩), .pointer (some ⟨g8, 0, none⟩)]) 66 #[.pointer (some ⟨w.heap.size, 0, none⟩), .pointer (some ⟨g7, 0, none⟩), .pointer (some ⟨g8, 0, none⟩)] rfl w6).mono ?_
    rintro e w7 ⟨rfl, hw7⟩
    have HB7 := Lib.hid (show Below w6.heap.size w6 w7 by rw [← hw7]; exact below_then (alr _ _) (alr _ _))
    have P7 := Lib.hid (show w7.cell? ⟨w6.heap.size, 0, none⟩ = some (.pointer (some ⟨gt, 0, none⟩)) by rw [← hw7, HGT.out]; exact cell_kept (alr _ _) (cell_new w6 _ _ 0 _ rfl))
    have Q7 := Lib.hid (show w7.cell? ⟨w6.heap.size + 1, 0, none⟩ = some (.func (.func 66) #[] #[.pointer (some ⟨w.heap.size, 0, none⟩), .pointer (some ⟨g7, 0, none⟩), .pointer (some ⟨g8, 0, none⟩)]) by rw [← hw7]; exact (show (w6.alloc (.cells #[.pointer (some ⟨wc.heap.size + 1, 0, none⟩)] 89)).heap.size = w6.heap.size + 1 from World.size_alloc _ _) ▸ cell_new (w6.alloc (.cells #[.pointer (some ⟨wc.heap.size + 1, 0, none⟩)] 89)) _ _ 0 _ rfl)
    have Z7 := Lib.hid (show w6.heap.size + 1 + 1 ≤ w7.heap.size by rw [← hw7, World.size_alloc, World.size_alloc]; exact Nat.le_refl _)
    clear hw7
    go_wp2_with fail
    refine (ck_found (wc.heap.size + 1) (.func (.func 68) #[] #[.pointer (some ⟨w.heap.size, 0, none⟩), .pointer (some ⟨g7, 0, none⟩), .pointer (some ⟨g8, 0, none⟩)]) 68 #[.pointer (some ⟨w.heap.size, 0, none⟩), .pointer (some ⟨g7, 0, none⟩), .pointer (some ⟨g8, 0, none⟩)] rfl w7).mono ?_
    rintro e w8 ⟨rfl, hw8⟩
    have HB8 := Lib.hid (show Below w7.heap.size w7 w8 by rw [← hw8]; exact below_then (alr _ _) (alr _ _))
    have P8 := Lib.hid (show w8.cell? ⟨w7.heap.size, 0, none⟩ = some (.pointer (some ⟨gt, 0, none⟩)) by rw [← hw8, HGT.out]; exact cell_kept (alr _ _) (cell_new w7 _ _ 0 _ rfl))
    have Q8 := Lib.hid (show w8.cell? ⟨w7.heap.size + 1, 0, none⟩ = some (.func (.func 68) #[] #[.pointer (some ⟨w.heap.size, 0, none⟩), .pointer (some ⟨g7, 0, none⟩), .pointer (some ⟨g8, 0, none⟩)]) by rw [← hw8]; exact (show (w7.alloc (.cells #[.pointer (some ⟨wc.heap.size + 1, 0, none⟩)] 89)).heap.size = w7.heap.size + 1 from World.size_alloc _ _) ▸ cell_new (w7.alloc (.cells #[.pointer (some ⟨wc.heap.size + 1, 0, none⟩)] 89)) _ _ 0 _ rfl)
    have Z8 := Lib.hid (show w7.heap.size + 1 + 1 ≤ w8.heap.size by rw [← hw8, World.size_alloc, World.size_alloc]; exact Nat.le_refl _)
    clear hw8
    go_wp2_with fail
    refine (ck_found (wc.heap.size + 1) (.func (.func 69) #[] #[.pointer (some ⟨w.heap.size, 0, none⟩), .pointer (some ⟨g7, 0, none⟩)]) 69 #[.pointer (some ⟨w.heap.size, 0, none⟩), .pointer (some ⟨g7, 0, none⟩)] rfl w8).mono ?_
    rintro e w9 ⟨rfl, hw9⟩
    have HB9 := Lib.hid (show Below w8.heap.size w8 w9 by rw [← hw9]; exact below_then (alr _ _) (alr _ _))
    have P9 := Lib.hid (show w9.cell? ⟨w8.heap.size, 0, none⟩ = some (.pointer (some ⟨gt, 0, none⟩)) by rw [← hw9, HGT.out]; exact cell_kept (alr _ _) (cell_new w8 _ _ 0 _ rfl))
    have Q9 := Lib.hid (show w9.cell? ⟨w8.heap.size + 1, 0, none⟩ = some (.func (.func 69) #[] #[.pointer (some ⟨w.heap.size, 0, none⟩), .pointer (some ⟨g7, 0, none⟩)]) by rw [← hw9]; exact (show (w8.alloc (.cells #[.pointer (some ⟨wc.heap.size + 1, 0, none⟩)] 89)).heap.size = w8.heap.size + 1 from World.size_alloc _ _) ▸ cell_new (w8.alloc (.cells #[.pointer (some ⟨wc.heap.size + 1, 0, none⟩)] 89)) _ _ 0 _ rfl)
    have Z9 := Lib.hid (show w8.heap.size + 1 + 1 ≤ w9.heap.size by rw [← hw9, World.size_alloc, World.size_alloc]; exact Nat.le_refl _)
    clear hw9
    go_wp2_with fail
    obtain ⟨w10, hw10⟩ : ∃ x, x = w9.alloc (.cells #[.func (.func 57) #[] #[.pointer (some ⟨g7, 0, none⟩)], .int .i64 1, .func (.func 58) #[] #[.pointer (some ⟨w.heap.size, 0, none⟩), .pointer (some ⟨w.heap.size + 1, 0, none⟩), .pointer (some ⟨wc.heap.size, 0, none⟩)], .int .i64 5, .func (.func 60) #[] #[.pointer (some ⟨g8, 0, none⟩), .pointer (some ⟨g7, 0, none⟩)], .int .i64 2, .func (.func 105) #[] #[.pointer (some ⟨wd.heap.size + 1, 0, none⟩), .pointer (some ⟨wd.heap.size, 0, none⟩)], .int .i64 (-1), .func (.func 64) #[] #[.pointer (some ⟨w.heap.size, 0, none⟩), .pointer (some ⟨w.heap.size + 1, 0, none⟩)], .int .i64 2, .func (.func 65) #[] #[.pointer (some ⟨g7, 0, none⟩), .pointer (some ⟨g8, 0, none⟩)], .int .i64 1, .func (.func 105) #[] #[.pointer (some ⟨w6.heap.size + 1, 0, none⟩), .pointer (some ⟨w6.heap.size, 0, none⟩)], .int .i64 (-1), .func (.func 105) #[] #[.pointer (some ⟨w7.heap.size + 1, 0, none⟩), .pointer (some ⟨w7.heap.size, 0, none⟩)], .int .i64 (-1), .func (.func 105) #[] #[.pointer (some ⟨w8.heap.size + 1, 0, none⟩), .pointer (some ⟨w8.heap.size, 0, none⟩)], .int .i64 (-1), .func (.func 71) #[] #[.pointer (some ⟨g7, 0, none⟩)], .int .i64 11] 68) := ⟨_, rfl⟩
    rw [← hw10]
    have HB10 := Lib.hid (show Below w9.heap.size w9 w10 by rw [hw10]; exact alr _ _)
    have Z10 := Lib.hid (show w10.heap.size = w9.heap.size + 1 by rw [hw10]; exact World.size_alloc _ _)
    have X0 := Lib.hid (show w10.cell? ⟨w9.heap.size, 0, none⟩ = some (.func (.func 57) #[] #[.pointer (some ⟨g7, 0, none⟩)]) by rw [hw10]; exact cell_new w9 _ _ 0 _ rfl)
    have X1 := Lib.hid (show w10.cell? ⟨w9.heap.size, 1, none⟩ = some (.int .i64 1) by rw [hw10]; exact cell_new w9 _ _ 1 _ rfl)
    have X2 := Lib.hid (show w10.cell? ⟨w9.heap.size, 2, none⟩ = some (.func (.func 58) #[] #[.pointer (some ⟨w.heap.size, 0, none⟩), .pointer (some ⟨w.heap.size + 1, 0, none⟩), .pointer (some ⟨wc.heap.size, 0, none⟩)]) by rw [hw10]; exact cell_new w9 _ _ 2 _ rfl)
    have X3 := Lib.hid (show w10.cell? ⟨w9.heap.size, 3, none⟩ = some (.int .i64 5) by rw [hw10]; exact cell_new w9 _ _ 3 _ rfl)
    have X4 := Lib.hid (show w10.cell? ⟨w9.heap.size, 4, none⟩ = some (.func (.func 60) #[] #[.pointer (some ⟨g8, 0, none⟩), .pointer (some ⟨g7, 0, none⟩)]) by rw [hw10]; exact cell_new w9 _ _ 4 _ rfl)
    have X5 := Lib.hid (show w10.cell? ⟨w9.heap.size, 5, none⟩ = some (.int .i64 2) by rw [hw10]; exact cell_new w9 _ _ 5 _ rfl)
    have X6 := Lib.hid (show w10.cell? ⟨w9.heap.size, 6, none⟩ = some (.func (.func 105) #[] #[.pointer (some ⟨wd.heap.size + 1, 0, none⟩), .pointer (some ⟨wd.heap.size, 0, none⟩)]) by rw [hw10]; exact cell_new w9 _ _ 6 _ rfl)
    have X7 := Lib.hid (show w10.cell? ⟨w9.heap.size, 7, none⟩ = some (.int .i64 (-1)) by rw [hw10]; exact cell_new w9 _ _ 7 _ rfl)
    have X8 := Lib.hid (show w10.cell? ⟨w9.heap.size, 8, none⟩ = some (.func (.func 64) #[] #[.pointer (some ⟨w.heap.size, 0, none⟩), .pointer (some ⟨w.heap.size + 1, 0, none⟩)]) by rw [hw10]; exact cell_new w9 _ _ 8 _ rfl)
    have X9 := Lib.hid (show w10.cell? ⟨w9.heap.size, 9, none⟩ = some (.int .i64 2) by rw [hw10]; exact cell_new w9 _ _ 9 _ rfl)
    have X10 := Lib.hid (show w10.cell? ⟨w9.heap.size, 10, none⟩ = some (.func (.func 65) #[] #[.pointer (some ⟨g7, 0, none⟩), .pointer (some ⟨g8, 0, none⟩)]) by rw [hw10]; exact cell_new w9 _ _ 10 _ rfl)
    have X11 := Lib.hid (show w10.cell? ⟨w9.heap.size, 11, none⟩ = some (.int .i64 1) by rw [hw10]; exact cell_new w9 _ _ 11 _ rfl)
    have X12 := Lib.hid (show w10.cell? ⟨w9.heap.size, 12, none⟩ = some (.func (.func 105) #[] #[.pointer (some ⟨w6.heap.size + 1, 0, none⟩), .pointer (some ⟨w6.heap.size, 0, none⟩)]) by rw [hw10]; exact cell_new w9 _ _ 12 _ rfl)
    have X13 := Lib.hid (show w10.cell? ⟨w9.heap.size, 13, none⟩ = some (.int .i64 (-1)) by rw [hw10]; exact cell_new w9 _ _ 13 _ rfl)
    have X14 := Lib.hid (show w10.cell? ⟨w9.heap.size, 14, none⟩ = some (.func (.func 105) #[] #[.pointer (some ⟨w7.heap.size + 1, 0, none⟩), .pointer (some ⟨w7.heap.size, 0, none⟩)]) by rw [hw10]; exact cell_new w9 _ _ 14 _ rfl)
    have X15 := Lib.hid (show w10.cell? ⟨w9.heap.size, 15, none⟩ = some (.int .i64 (-1)) by rw [hw10]; exact cell_new w9 _ _ 15 _ rfl)
    have X16 := Lib.hid (show w10.cell? ⟨w9.heap.size, 16, none⟩ = some (.func (.func 105) #[] #[.pointer (some ⟨w8.heap.size + 1, 0, none⟩), .pointer (some ⟨w8.heap.size, 0, none⟩)]) by rw [hw10]; exact cell_new w9 _ _ 16 _ rfl)
    have X17 := Lib.hid (show w10.cell? ⟨w9.heap.size, 17, none⟩ = some (.int .i64 (-1)) by rw [hw10]; exact cell_new w9 _ _ 17 _ rfl)
    have X18 := Lib.hid (show w10.cell? ⟨w9.heap.size, 18, none⟩ = some (.func (.func 71) #[] #[.pointer (some ⟨g7, 0, none⟩)]) by rw [hw10]; exact cell_new w9 _ _ 18 _ rfl)
    have X19 := Lib.hid (show w10.cell? ⟨w9.heap.size, 19, none⟩ = some (.int .i64 11) by rw [hw10]; exact cell_new w9 _ _ 19 _ rfl)
    clear hw10
    have ND9 := Lib.hid (below_then HB6.out (below_then HB7.out (below_then HB8.out HB9.out)))
    have HD10 := Lib.hid (below_then ND9.out HB10.out)
    have HA10 := Lib.hid (below_then HAD.out HD10.out)
    have GA := Lib.hid (show wa.heap.size ≤ gt by have h1 := SZA.out; have h2 := HGT.out; omega)
    have NE9 := Lib.hid (show w9.heap.size ≠ gt by have h1 := SZD.out; have h2 := HGT.out; have h3 := Z6.out; have h4 := Z7.out; have h5 := Z8.out; have h6 := Z9.out; omega)
    have LT10 := Lib.hid (show gt < w10.heap.size by have h1 := SZD.out; have h2 := HGT.out; have h3 := Z6.out; have h4 := Z7.out; have h5 := Z8.out; have h6 := Z9.out; have h7 := Z10.out; omega)
    have NP0 := Lib.hid (show gt < wd.heap.size by have h1 := SZD.out; have h2 := HGT.out; omega)
    have NP1 := Lib.hid (show gt < w6.heap.size by have h1 := SZD.out; have h2 := HGT.out; have h3 := Z6.out; omega)
    have NP2 := Lib.hid (show gt < w7.heap.size by have h1 := SZD.out; have h2 := HGT.out; have h3 := Z6.out; have h4 := Z7.out; omega)
    have NP3 := Lib.hid (show gt < w8.heap.size by have h1 := SZD.out; have h2 := HGT.out; have h3 := Z6.out; have h4 := Z7.out; have h5 := Z8.out; omega)
    have NQ0 := Lib.hid (show wd.heap.size + 1 ≠ gt by have h1 := NP0.out; omega)
    have PP0 := Lib.hid (cell_kept (below_then HB7.out (below_then HB8.out (below_then HB9.out HB10.out))) P6.out)
    have QQ0 := Lib.hid (cell_kept (below_then HB7.out (below_then HB8.out (below_then HB9.out HB10.out))) Q6.out)
    have NQ1 := Lib.hid (show w6.heap.size + 1 ≠ gt by have h1 := NP1.out; omega)
    have PP1 := Lib.hid (cell_kept (below_then HB8.out (below_then HB9.out HB10.out)) P7.out)
    have QQ1 := Lib.hid (cell_kept (below_then HB8.out (below_then HB9.out HB10.out)) Q7.out)
    have NQ2 := Lib.hid (show w7.heap.size + 1 ≠ gt by have h1 := NP2.out; omega)
    have PP2 := Lib.hid (cell_kept (below_then HB9.out HB10.out) P8.out)
    have QQ2 := Lib.hid (cell_kept (below_then HB9.out HB10.out) Q8.out)
    have NQ3 := Lib.hid (show w8.heap.size + 1 ≠ gt by have h1 := NP3.out; omega)
    have PP3 := Lib.hid (cell_kept HB10.out P9.out)
    have QQ3 := Lib.hid (cell_kept HB10.out Q9.out)
    have O0 := Lib.hid (show OnT w10 gt 0 w10 from ⟨World.grownBy.refl w10 _, cell_kept HD10.out (HGT.out ▸ TD0.out), (HD10.out.frozen (p := ⟨gt, 0, none⟩) NP0.out).trans (HGT.out ▸ FZ0.out)⟩)
    have cF := ck_first (fun i W => OnT w10 gt (tvs (varsE n1 q.vars) (arcsE n2 q.vars.length q.ins) (arcsE n2 q.vars.length q.outs) (cancelsE n2 q.cancel) i) W) w10.heap.size w9.heap.size 10 10 [⟨57, #[.pointer (some ⟨g7, 0, none⟩)], 1, freeB q.name⟩, ⟨58, #[.pointer (some ⟨w.heap.size, 0, none⟩), .pointer (some ⟨w.heap.size + 1, 0, none⟩), .pointer (some ⟨wc.heap.size, 0, none⟩)], 5, (!(N.tks.take k).any fun x => decide (x.name = q.name))⟩, ⟨60, #[.pointer (some ⟨g8, 0, none⟩), .pointer (some ⟨g7, 0, none⟩)], 2, sizesB q⟩, ⟨105, #[.pointer (some ⟨wd.heap.size + 1, 0, none⟩), .pointer (some ⟨wd.heap.size, 0, none⟩)], -1, decide (varsE n1 q.vars = 0)⟩, ⟨64, #[.pointer (some ⟨w.heap.size, 0, none⟩), .pointer (some ⟨w.heap.size + 1, 0, none⟩)], 2, decide (bindsE N k ≤ 1024)⟩, ⟨65, #[.pointer (some ⟨g7, 0, none⟩), .pointer (some ⟨g8, 0, none⟩)], 1, (rightT q.vars.length q.guard && (decide (0 < q.ins.length) && decide (0 < q.outs.length)))⟩, ⟨105, #[.pointer (some ⟨w6.heap.size + 1, 0, none⟩), .pointer (some ⟨w6.heap.size, 0, none⟩)], -1, decide (arcsE n2 q.vars.length q.ins = 0)⟩, ⟨105, #[.pointer (some ⟨w7.heap.size + 1, 0, none⟩), .pointer (some ⟨w7.heap.size, 0, none⟩)], -1, decide (arcsE n2 q.vars.length q.outs = 0)⟩, ⟨105, #[.pointer (some ⟨w8.heap.size + 1, 0, none⟩), .pointer (some ⟨w8.heap.size, 0, none⟩)], -1, decide (cancelsE n2 q.cancel = 0)⟩, ⟨71, #[.pointer (some ⟨g7, 0, none⟩)], 11, kindsB q⟩] w10 rfl (by omega) O0 (Lib.hid ⟨enters_of Tryz.func57 (by kernel_rfl) rfl, fun W h => ⟨OnT.cell h X0.out NE9.out, OnT.cell h X1.out NE9.out⟩, fun W h => (ck_task2 _ q.name W (Lib.hid (HTab.out.below (OnT.old h HA10.out GA.out))) (Lib.hid (cell_kept (OnT.old h HA10.out GA.out) TBa.out.c0))).mono fun e w' he => ⟨he.1, OnT.below h he.2, kept_of he.2⟩, enters_of Tryz.func58 (by kernel_rfl) rfl, fun W h => ⟨OnT.cell h X2.out NE9.out, OnT.cell h X3.out NE9.out⟩, fun W h => (ck_task3 N.tks (some ⟨b, off, none⟩) n3 c3 k _ _ _ _ q.name W hk (Lib.hid (cell_kept (OnT.old h HA10.out GA.out) NBa.out.c2)) (Lib.hid (cell_kept (OnT.old h HA10.out GA.out) Ka.out)) (Lib.hid (cell_kept (OnT.old h HA10.out GA.out) FN0.out)) (Lib.hid (cell_kept (OnT.old h HA10.out GA.out) TBa.out.c0)) (Lib.hid (HNa.out.tks.below TkAt.stays (OnT.old h HA10.out GA.out)))).mono fun e w' he => ⟨he.1, OnT.below h he.2, kept_of he.2⟩, enters_of Tryz.func60 (by kernel_rfl) rfl, fun W h => ⟨OnT.cell h X4.out NE9.out, OnT.cell h X5.out NE9.out⟩, fun W h => (ck_task4 q _ _ W (Lib.hid (cell_kept (OnT.old h HA10.out GA.out) Va.out)) (Lib.hid (TBa.out.below (OnT.old h HA10.out GA.out))) hl.out).mono fun e w' he => ⟨he.1, OnT.below h he.2, kept_of he.2⟩, enters_of Tryz.func105 (by kernel_rfl) rfl, fun W h => ⟨OnT.cell h X6.out NE9.out, OnT.cell h X7.out NE9.out⟩, fun W h => (ck_found1 62 #[.pointer (some ⟨w.heap.size, 0, none⟩), .pointer (some ⟨g7, 0, none⟩)] (varsE n1 q.vars) _ _ gt _ W (enters_of Tryz.func62 (by kernel_rfl) rfl) (Lib.hid (OnT.cell h QQ0.out NQ0.out)) (Lib.hid (OnT.cell h PP0.out (Ne.symm (Nat.ne_of_lt NP0.out)))) (Lib.hid (OnT.c h)) (Lib.hid (OnT.f h)) NP0.out (Lib.hid fun W' hb => ck_task5 q _ _ W' (Lib.hid (HTab.out.below (below_then (OnT.old h HA10.out GA.out) hb))) (Lib.hid (NBa.out.below (below_then (OnT.old h HA10.out GA.out) hb))) (Lib.hid (TBa.out.below (below_then (OnT.old h HA10.out GA.out) hb))) hn1 (Lib.hid (HTa.out.vars.below VrAt.stays (below_then (OnT.old h HA10.out GA.out) hb))))).mono fun e w' he => by obtain ⟨e1, v1, e2, rfl⟩ := he; exact ⟨e1, OnT.set (OnT.below h e2) _, fun bb h1 h2 => (Below.heap_setCell _ _ _ bb (by have := LT10.out; show bb ≠ gt; omega)).trans (e2.block bb h2)⟩, enters_of Tryz.func64 (by kernel_rfl) rfl, fun W h => ⟨OnT.cell h X8.out NE9.out, OnT.cell h X9.out NE9.out⟩, fun W h => (ck_task6 k _ _ W (Lib.hid (NBa.out.below (OnT.old h HA10.out GA.out))) (Lib.hid (cell_kept (OnT.old h HA10.out GA.out) Ka.out)) (Lib.hid (HNa.out.below (OnT.old h HA10.out GA.out)))).mono fun e w' he => ⟨he.1, OnT.below h he.2, kept_of he.2⟩, enters_of Tryz.func65 (by kernel_rfl) rfl, fun W h => ⟨OnT.cell h X10.out NE9.out, OnT.cell h X11.out NE9.out⟩, fun W h => (ck_task7 q _ _ W (Lib.hid (cell_kept (OnT.old h HA10.out GA.out) Va.out)) (Lib.hid (TBa.out.below (OnT.old h HA10.out GA.out))) (Lib.hid (HTa.out.guard.kept (OnT.old h HA10.out GA.out))) HSM.out.1 hl.out).mono fun e w' he => ⟨he.1, OnT.below h he.2, kept_of he.2⟩, enters_of Tryz.func105 (by kernel_rfl) rfl, fun W h => ⟨OnT.cell h X12.out NE9.out, OnT.cell h X13.out NE9.out⟩, fun W h => (ck_found1 66 #[.pointer (some ⟨w.heap.size, 0, none⟩), .pointer (some ⟨g7, 0, none⟩), .pointer (some ⟨g8, 0, none⟩)] (arcsE n2 q.vars.length q.ins) _ _ gt _ W (enters_of Tryz.func66 (by kernel_rfl) rfl) (Lib.hid (OnT.cell h QQ1.out NQ1.out)) (Lib.hid (OnT.cell h PP1.out (Ne.symm (Nat.ne_of_lt NP1.out)))) (Lib.hid (OnT.c h)) (Lib.hid (OnT.f h)) NP1.out (Lib.hid fun W' hb => (hl.out.1 ▸ ck_task8 q _ _ _ W' (Lib.hid (NBa.out.below (below_then (OnT.old h HA10.out GA.out) hb))) (Lib.hid (TBa.out.below (below_then (OnT.old h HA10.out GA.out) hb))) (Lib.hid (cell_kept (below_then (OnT.old h HA10.out GA.out) hb) Va.out)) hn2 (Lib.hid (HTa.out.ins.below ArAt.stays (below_then (OnT.old h HA10.out GA.out) hb))) (Lib.hid fun j hj => HSM.out.2.1 j (by have := hl.out.2.1; omega))))).mono fun e w' he => by obtain ⟨e1, v1, e2, rfl⟩ := he; exact ⟨e1, OnT.set (OnT.below h e2) _, fun bb h1 h2 => (Below.heap_setCell _ _ _ bb (by have := LT10.out; show bb ≠ gt; omega)).trans (e2.block bb h2)⟩, enters_of Tryz.func105 (by kernel_rfl) rfl, fun W h => ⟨OnT.cell h X14.out NE9.out, OnT.cell h X15.out NE9.out⟩, fun W h => (ck_found1 68 #[.pointer (some ⟨w.heap.size, 0, none⟩), .pointer (some ⟨g7, 0, none⟩), .pointer (some ⟨g8, 0, none⟩)] (arcsE n2 q.vars.length q.outs) _ _ gt _ W (enters_of Tryz.func68 (by kernel_rfl) rfl) (Lib.hid (OnT.cell h QQ2.out NQ2.out)) (Lib.hid (OnT.cell h PP2.out (Ne.symm (Nat.ne_of_lt NP2.out)))) (Lib.hid (OnT.c h)) (Lib.hid (OnT.f h)) NP2.out (Lib.hid fun W' hb => (hl.out.1 ▸ ck_task9 q _ _ _ W' (Lib.hid (NBa.out.below (below_then (OnT.old h HA10.out GA.out) hb))) (Lib.hid (TBa.out.below (below_then (OnT.old h HA10.out GA.out) hb))) (Lib.hid (cell_kept (below_then (OnT.old h HA10.out GA.out) hb) Va.out)) hn2 (Lib.hid (HTa.out.outs.below ArAt.stays (below_then (OnT.old h HA10.out GA.out) hb))) (Lib.hid fun j hj => HSM.out.2.2 j (by have := hl.out.2.2.1; omega))))).mono fun e w' he => by obtain ⟨e1, v1, e2, rfl⟩ := he; exact ⟨e1, OnT.set (OnT.below h e2) _, fun bb h1 h2 => (Below.heap_setCell _ _ _ bb (by have := LT10.out; show bb ≠ gt; omega)).trans (e2.block bb h2)⟩, enters_of Tryz.func105 (by kernel_rfl) rfl, fun W h => ⟨OnT.cell h X16.out NE9.out, OnT.cell h X17.out NE9.out⟩, fun W h => (ck_found1 69 #[.pointer (some ⟨w.heap.size, 0, none⟩), .pointer (some ⟨g7, 0, none⟩)] (cancelsE n2 q.cancel) _ _ gt _ W (enters_of Tryz.func69 (by kernel_rfl) rfl) (Lib.hid (OnT.cell h QQ3.out NQ3.out)) (Lib.hid (OnT.cell h PP3.out (Ne.symm (Nat.ne_of_lt NP3.out)))) (Lib.hid (OnT.c h)) (Lib.hid (OnT.f h)) NP3.out (Lib.hid fun W' hb => ck_task10 q _ _ W' (Lib.hid (NBa.out.below (below_then (OnT.old h HA10.out GA.out) hb))) (Lib.hid (TBa.out.below (below_then (OnT.old h HA10.out GA.out) hb))) hn2 (Lib.hid (HTa.out.cancel.below (below_then (OnT.old h HA10.out GA.out) hb))))).mono fun e w' he => by obtain ⟨e1, v1, e2, rfl⟩ := he; exact ⟨e1, OnT.set (OnT.below h e2) _, fun bb h1 h2 => (Below.heap_setCell _ _ _ bb (by have := LT10.out; show bb ≠ gt; omega)).trans (e2.block bb h2)⟩, enters_of Tryz.func71 (by kernel_rfl) rfl, fun W h => ⟨OnT.cell h X18.out NE9.out, OnT.cell h X19.out NE9.out⟩, fun W h => (ck_task11 q _ W (Lib.hid (TBa.out.below (OnT.old h HA10.out GA.out))) hl.out.2.1 hl.out.2.2.1).mono fun e w' he => ⟨he.1, OnT.below h he.2, kept_of he.2⟩, trivial⟩) (Lib.hid fun _ _ h => (OnT.gb h).size) (Lib.hid fun _ _ o h => OnT.alloc h o)
    have HTE := told_eq (varsE n1 q.vars) (arcsE n2 q.vars.length q.ins) (arcsE n2 q.vars.length q.outs) (cancelsE n2 q.cancel) 57 58 60 105 64 65 105 105 105 71 #[.pointer (some ⟨g7, 0, none⟩)] #[.pointer (some ⟨w.heap.size, 0, none⟩), .pointer (some ⟨w.heap.size + 1, 0, none⟩), .pointer (some ⟨wc.heap.size, 0, none⟩)] #[.pointer (some ⟨g8, 0, none⟩), .pointer (some ⟨g7, 0, none⟩)] #[.pointer (some ⟨wd.heap.size + 1, 0, none⟩), .pointer (some ⟨wd.heap.size, 0, none⟩)] #[.pointer (some ⟨w.heap.size, 0, none⟩), .pointer (some ⟨w.heap.size + 1, 0, none⟩)] #[.pointer (some ⟨g7, 0, none⟩), .pointer (some ⟨g8, 0, none⟩)] #[.pointer (some ⟨w6.heap.size + 1, 0, none⟩), .pointer (some ⟨w6.heap.size, 0, none⟩)] #[.pointer (some ⟨w7.heap.size + 1, 0, none⟩), .pointer (some ⟨w7.heap.size, 0, none⟩)] #[.pointer (some ⟨w8.heap.size + 1, 0, none⟩), .pointer (some ⟨w8.heap.size, 0, none⟩)] #[.pointer (some ⟨g7, 0, none⟩)] _ _ _ _ _ _ _ _ _ _ |>.trans HEE.out.symm
    obtain ⟨y, hy⟩ : ∃ y, y = firstQ [⟨57, #[.pointer (some ⟨g7, 0, none⟩)], 1, freeB q.name⟩, ⟨58, #[.pointer (some ⟨w.heap.size, 0, none⟩), .pointer (some ⟨w.heap.size + 1, 0, none⟩), .pointer (some ⟨wc.heap.size, 0, none⟩)], 5, (!(N.tks.take k).any fun x => decide (x.name = q.name))⟩, ⟨60, #[.pointer (some ⟨g8, 0, none⟩), .pointer (some ⟨g7, 0, none⟩)], 2, sizesB q⟩, ⟨105, #[.pointer (some ⟨wd.heap.size + 1, 0, none⟩), .pointer (some ⟨wd.heap.size, 0, none⟩)], -1, decide (varsE n1 q.vars = 0)⟩, ⟨64, #[.pointer (some ⟨w.heap.size, 0, none⟩), .pointer (some ⟨w.heap.size + 1, 0, none⟩)], 2, decide (bindsE N k ≤ 1024)⟩, ⟨65, #[.pointer (some ⟨g7, 0, none⟩), .pointer (some ⟨g8, 0, none⟩)], 1, (rightT q.vars.length q.guard && (decide (0 < q.ins.length) && decide (0 < q.outs.length)))⟩, ⟨105, #[.pointer (some ⟨w6.heap.size + 1, 0, none⟩), .pointer (some ⟨w6.heap.size, 0, none⟩)], -1, decide (arcsE n2 q.vars.length q.ins = 0)⟩, ⟨105, #[.pointer (some ⟨w7.heap.size + 1, 0, none⟩), .pointer (some ⟨w7.heap.size, 0, none⟩)], -1, decide (arcsE n2 q.vars.length q.outs = 0)⟩, ⟨105, #[.pointer (some ⟨w8.heap.size + 1, 0, none⟩), .pointer (some ⟨w8.heap.size, 0, none⟩)], -1, decide (cancelsE n2 q.cancel = 0)⟩, ⟨71, #[.pointer (some ⟨g7, 0, none⟩)], 11, kindsB q⟩] := ⟨_, rfl⟩
    obtain ⟨z, hz⟩ : ∃ z, z = (tvs (varsE n1 q.vars) (arcsE n2 q.vars.length q.ins) (arcsE n2 q.vars.length q.outs) (cancelsE n2 q.cancel) (stopQ 0 [⟨57, #[.pointer (some ⟨g7, 0, none⟩)], 1, freeB q.name⟩, ⟨58, #[.pointer (some ⟨w.heap.size, 0, none⟩), .pointer (some ⟨w.heap.size + 1, 0, none⟩), .pointer (some ⟨wc.heap.size, 0, none⟩)], 5, (!(N.tks.take k).any fun x => decide (x.name = q.name))⟩, ⟨60, #[.pointer (some ⟨g8, 0, none⟩), .pointer (some ⟨g7, 0, none⟩)], 2, sizesB q⟩, ⟨105, #[.pointer (some ⟨wd.heap.size + 1, 0, none⟩), .pointer (some ⟨wd.heap.size, 0, none⟩)], -1, decide (varsE n1 q.vars = 0)⟩, ⟨64, #[.pointer (some ⟨w.heap.size, 0, none⟩), .pointer (some ⟨w.heap.size + 1, 0, none⟩)], 2, decide (bindsE N k ≤ 1024)⟩, ⟨65, #[.pointer (some ⟨g7, 0, none⟩), .pointer (some ⟨g8, 0, none⟩)], 1, (rightT q.vars.length q.guard && (decide (0 < q.ins.length) && decide (0 < q.outs.length)))⟩, ⟨105, #[.pointer (some ⟨w6.heap.size + 1, 0, none⟩), .pointer (some ⟨w6.heap.size, 0, none⟩)], -1, decide (arcsE n2 q.vars.length q.ins = 0)⟩, ⟨105, #[.pointer (some ⟨w7.heap.size + 1, 0, none⟩), .pointer (some ⟨w7.heap.size, 0, none⟩)], -1, decide (arcsE n2 q.vars.length q.outs = 0)⟩, ⟨105, #[.pointer (some ⟨w8.heap.size + 1, 0, none⟩), .pointer (some ⟨w8.heap.size, 0, none⟩)], -1, decide (cancelsE n2 q.cancel = 0)⟩, ⟨71, #[.pointer (some ⟨g7, 0, none⟩)], 11, kindsB q⟩])) := ⟨_, rfl⟩
    rw [← hy] at cF
    have CF := Lib.hid cF
    rw [← hy, ← hz] at HTE
    have HZ := Lib.hid hz
    have HY := Lib.hid hy
    have HTE2 := Lib.hid HTE
    clear cF HTE hy hz
    by_cases hm : y = -1
    · have y0 : (y == -1) = true := by simpa using hm
      have HE3 := Lib.hid (show z = E by have := HTE2.out; rwa [if_pos hm] at this)
      clear hm
      refine CF.out.mono ?_
      rintro e w11 ⟨rfl, hO⟩
      have c11 := OnT.c hO
      rw [← HZ.out, HGT.out] at c11
      have HB11 := Lib.hid (below_then HWa.out (OnT.old hO HA10.out GA.out))
      clear hO
      go_wp2_with fail
      go_ret
      exact ⟨ret1 HE3.out, HB11.out⟩
    · have y0 : (y == -1) = false := by simpa using hm
      have HE3 := Lib.hid (show y = E by have := HTE2.out; rwa [if_neg hm] at this)
      clear hm
      refine CF.out.mono ?_
      rintro e w11 ⟨rfl, hO⟩
      have HB11 := Lib.hid (below_then HWa.out (OnT.old hO HA10.out GA.out))
      clear hO
      go_wp2_with fail
      go_ret
      exact ⟨ret1 HE3.out, HB11.out⟩

end
end Go.Proofs.YtaeeblceedklnaaGreatDoor
