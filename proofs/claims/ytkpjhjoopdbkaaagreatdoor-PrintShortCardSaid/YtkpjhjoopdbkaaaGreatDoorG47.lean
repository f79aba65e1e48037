/- Joined: Package print: clauses. Printed by gen_prD.py. -/
import Derived.Test.YtkpjhjoopdbkaaaGreatDoorG39
import Derived.Test.YtkpjhjoopdbkaaaGreatDoorG17
import Derived.Test.YtkpjhjoopdbkaaaGreatDoorG29
import Derived.Deep.DeepCutAuto
import Derived.Deep.RegionLaw
namespace Go.Proofs.YtkpjhjoopdbkaaaGreatDoor
open Go.RowKit
structure TkI (t : Tk) : Prop where
  join : I64 t.join
  split : I64 t.split
  cancel : ∀ x ∈ t.cancel, I64 x
  after : I64 t.after
  m0 : I64 t.m0
  m1 : I64 t.m1
  m2 : I64 t.m2
structure TkBd (t : Tk) : Prop where
  nv : t.vars.length ≤ 10000
  ni : t.ins.length ≤ 10000
  no : t.outs.length ≤ 10000
  nc : t.cancel.length ≤ 10000
  nm : t.name.size ≤ 1000
  vn : ∀ v ∈ t.vars, v.name.size ≤ 1000
  gt : (textT t.names t.guard).length ≤ 10000000000
  it : ∀ a ∈ t.ins, (textT t.names a.expr).length ≤ 10000000000
  ot : ∀ a ∈ t.outs, (textT t.names a.expr).length ≤ 10000000000
theorem strs_one (l : List ByteArray) : ∀ u ∈ strCells l, u.oneCell' = true := by
  intro u hu
  obtain ⟨x, _, rfl⟩ := List.mem_map.1 hu
  rfl
theorem strCells_app (l m : List ByteArray) : strCells l ++ strCells m = strCells (l ++ m) := by unfold strCells; rw [List.map_append]
theorem leaf_at (w : World) : TrAt w none 0 0 (.mk 1 1 []) := by
  rw [TrAt]
  exact ⟨by decide, by decide, rfl, Nat.le_refl _, by omega, .inl rfl⟩
theorem eq3_ (a b c d e f : Int) (w : World) (D : Nat) : (Op.equalIn (D + 2) 57 (.agg #[.int .i64 a, .int .i64 b, .int .i64 c]) (.agg #[.int .i64 d, .int .i64 e, .int .i64 f])).run Tryz.prog w = .ok (a == d && (b == e && c == f)) w := by
  obtain ⟨i, hi, _⟩ := info_parts (P := Tryz.prog) (e := 3) (z := .int .i64 0) (size := 1) (bytes := 8) (by kernel_rfl)
  rw [run_equalIn_array w (D + 1) #[.int .i64 a, .int .i64 b, .int .i64 c] #[.int .i64 d, .int .i64 e, .int .i64 f] Tryz.underlying57 hi]
  have hc : Tryz.prog.cellsOf 3 = 1 := by kernel_rfl
  have p0 : ∀ (x y z : Int) (w : World), (part 3 #[.int .i64 x, .int .i64 y, .int .i64 z] 0).run Tryz.prog w = .ok (.int .i64 x) w := fun _ _ _ _ => by kernel_rfl
  have p1 : ∀ (x y z : Int) (w : World), (part 3 #[.int .i64 x, .int .i64 y, .int .i64 z] 1).run Tryz.prog w = .ok (.int .i64 y) w := fun _ _ _ _ => by kernel_rfl
  have p2 : ∀ (x y z : Int) (w : World), (part 3 #[.int .i64 x, .int .i64 y, .int .i64 z] 2).run Tryz.prog w = .ok (.int .i64 z) w := fun _ _ _ _ => by kernel_rfl
  have e1 : List.range 3 = [0, 1, 2] := rfl
  have q := fun (x y : Int) (w : World) => run_equalIn_int (P := Tryz.prog) w D 3 .i64 .i64 x y Tryz.underlying3
  rw [hc, e1]
  simp only [Op.eqItems, Sem.run_bind, Nat.mul_one, p0, q, Result.andThen_ok]
  rcases h : (a == d) with _ | _
  · simp
  · simp only [Bool.not_true, Bool.false_eq_true, if_false, Sem.run_bind, p1, q, Result.andThen_ok, Bool.true_and]
    rcases h2 : (b == e) with _ | _
    · simp
    · simp only [Bool.not_true, Bool.false_eq_true, if_false, Sem.run_bind, p2, q, Result.andThen_ok, Bool.true_and]
      rcases (c == f) with _ | _ <;> simp
theorem neq3_ (a b c : Int) (w : World) : (binOp .neq 57 (.agg #[.int .i64 a, .int .i64 b, .int .i64 c]) (.agg #[.int .i64 0, .int .i64 0, .int .i64 0])).run Tryz.prog w = .ok (.bool (!(a == 0 && (b == 0 && c == 0)))) w := by
  rw [run_neq_struct, eq3_ a b c 0 0 0 w 9998]; rfl
theorem sl3 {w : World} {g : Nat} {a b c : Int} (h0 : w.cell? ⟨g, 11, none⟩ = some (.int .i64 a)) (h1 : w.cell? ⟨g, 12, none⟩ = some (.int .i64 b)) (h2 : w.cell? ⟨g, 13, none⟩ = some (.int .i64 c)) : Sl w (.slice (some ⟨g, 11, none⟩) 3 3) 3 1 (intCells [a, b, c]) :=
  ⟨_, _, rfl, by omega, by omega, rfl, fun _ => ⟨g, 11, rfl, fun j u hu => by
    rcases j with _ | _ | _ | j
    · injection hu with hu; subst hu; exact h0
    · injection hu with hu; subst hu; exact h1
    · injection hu with hu; subst hu; exact h2
    · exact absurd hu (by simp [intCells])⟩⟩
theorem join3_size {a b c : Int} (h0 : I64 a) (h1 : I64 b) (h2 : I64 c) : (joinB [itoaB a, itoaB b, itoaB c]).size ≤ 100 := by
  have e0 := itoaB_size h0
  have e1 := itoaB_size h1
  have e2 := itoaB_size h2
  show (Lib.join [(itoaB a).data.toList, (itoaB b).data.toList, (itoaB c).data.toList] [44, 32]).toArray.size ≤ 100
  have q : ∀ x : ByteArray, x.data.toList.length = x.size := fun x => by simp
  have e : Lib.join [(itoaB a).data.toList, (itoaB b).data.toList, (itoaB c).data.toList] [44, 32] = (itoaB a).data.toList ++ ([44, 32] ++ ((itoaB b).data.toList ++ ([44, 32] ++ (itoaB c).data.toList))) := by simp [Lib.join, List.intercalate]
  rw [e]
  simp only [List.size_toArray, List.length_append, q, List.length_cons, List.length_nil]
  omega
structure TkS2 (w : World) (Av : Option Addr) (nv cv : Nat) (Ag : Option Addr) (mg cg : Nat) (Ai : Option Addr) (ni ci : Nat) (Ao : Option Addr) (no co : Nat) (Ac : Option Addr) (nc cc : Nat) (t : Tk) : Prop where
  vars : SlOf 2 VrAt w Av nv cv t.vars
  guard : TrAt w Ag mg cg t.guard
  ins : SlOf 4 ArAt w Ai ni ci t.ins
  outs : SlOf 4 ArAt w Ao no co t.outs
  cancel : Sl w (.slice Ac nc cc) nc 1 (intCells t.cancel)
theorem getD_mem {α : Type} [Inhabited α] {l : List α} {k : Nat} (h : k < l.length) : l.getD k default ∈ l := by
  rw [List.getD, List.getElem?_eq_getElem h]; exact List.getElem_mem h
section
variable {A1 A2 A3 : Option Addr} {n1 c1 n2 c2 n3 c3 : Nat} {N : Nt}
theorem kindB_len (x : ByteArray) (k : Int) : (kindB x k).length ≤ 1 := by
  unfold kindB
  split
  · simp
  · split
    · simp
    · split <;> simp
theorem pr_arcs (names : List ByteArray) (word : ByteArray) (A : Option Addr) (n c : Nat) (l : List Ar) (gx gw gn : Nat) (NA : Option Addr) (nn nc : Nat) (w : World) (hW : Hid (WBox w gw A1 n1 c1 A2 n2 c2 A3 n3 c3 N)) (hC : Hid (SlOf 3 PlAt w A2 n2 c2 N.pls)) (hx : Hid (w.cell? ⟨gx, 0, none⟩ = some (.string word)))
    (hnm : Hid (w.cell? ⟨gn, 0, none⟩ = some (.slice NA nn nc))) (hNA : Hid (Sl w (.slice NA nn nc) nn 1 (strCells names))) (hl : Hid (SlOf 4 ArAt w A n c l)) (hn : n ≤ 10000) (htab : Hid (∀ W, Below w.heap.size w W → TabT W)) (hws : Hid (word.size ≤ 1000)) (hps : Hid (∀ k, (plB N.pls k).size ≤ 1000)) (hns : ∀ s ∈ names, s.size ≤ 1000) (hlen : ∀ a ∈ l, (textT names a.expr).length ≤ 10000000000) :
    Calls Tryz.prog 148 #[.slice A n c, .func (.func 145) #[] #[.pointer (some ⟨gx, 0, none⟩), .pointer (some ⟨gw, 0, none⟩), .pointer (some ⟨gn, 0, none⟩)]] w fun e w' => ∃ v, e = .returned v ∧ w'.ownsRow w.heap.size 9 1 v n (strCells (l.map (arcB N.pls names word))) ∧ Below w.heap.size w w' :=
  pr_each_arc (arcB N.pls names word) 145 _ A n c l w hl (by omega) (enters_of Tryz.func145 (by kernel_rfl) rfl) (Lib.hid (fun k hk W Ae me ce hb hT => by
    have hm : l.getD k default ∈ l := getD_mem (by have := hl.out.len.1; omega)
    obtain ⟨_, _, _, _, _, _, P⟩ := hl.out.at_ hk
    have hlx := hlen _ hm
    exact pr_cl21 (A1 := A1) (n1 := n1) (c1 := c1) (A2 := A2) (n2 := n2) (c2 := c2) (A3 := A3) (n3 := n3) (c3 := c3) (N := N) names word _ Ae me ce gx gw gn NA nn nc W (Lib.hid (hW.out.below hb)) (Lib.hid (hC.out.below PlAt.stays hb)) (Lib.hid (cell_kept hb hx.out)) (Lib.hid (cell_kept hb hnm.out)) (Lib.hid (hNA.out.below hb)) (Lib.hid hT) (Lib.hid (fun V hv => htab.out V (below_then hb hv))) P.i0 hws hps hns (Lib.hid (by omega))))
set_option maxRecDepth 100000 in
set_option maxHeartbeats 16000000 in
theorem pr_clauses (t : Tk) (Av : Option Addr) (nv cv : Nat) (Ag : Option Addr) (mg cg : Nat) (Ai : Option Addr) (ni ci : Nat) (Ao : Option Addr) (no co : Nat) (Ac : Option Addr) (nc cc : Nat) (w : World) (hT : Hid (TkS2 w Av nv cv Ag mg cg Ai ni ci Ao no co Ac nc cc t)) (hC : Hid (Cols w A1 n1 c1 N.cols)) (hP : Hid (SlOf 3 PlAt w A2 n2 c2 N.pls)) (hI : Hid (TkI t)) (hB : Hid (TkBd t)) (htab : Hid (∀ W, Below w.heap.size w W → TabT W)) (hcs : Hid (∀ k, (colB N.cols k).size ≤ 1000)) (hps : Hid (∀ k, (plB N.pls k).size ≤ 1000)) :
    Calls Tryz.prog 96 #[netV A1 n1 c1 A2 n2 c2 A3 n3 c3 N.from_ N.to_, t.val Av nv cv Ag mg cg Ai ni ci Ao no co Ac nc cc] w fun e w' => ∃ v n, e = .returned v ∧ Sl w' v n 1 (strCells (clausesB N.cols N.pls t)) ∧ Below w.heap.size w w' := by
  obtain ⟨w1, hw1⟩ : ∃ y, y = (w.alloc (.cells #[.slice A1 n1 c1, .slice A2 n2 c2, .slice A3 n3 c3, .int .i64 N.from_, .int .i64 N.to_] 101)).alloc (.cells #[.string t.name, .slice Av nv cv, .int .i64 t.guard.kind, .int .i64 t.guard.num, .slice Ag mg cg, .int .i64 t.join, .int .i64 t.split, .slice Ai ni ci, .slice Ao no co, .slice Ac nc cc, .int .i64 t.after, .int .i64 t.m0, .int .i64 t.m1, .int .i64 t.m2] 59) := ⟨_, rfl⟩
  have HB1 := Lib.hid (show Below w.heap.size w w1 by rw [hw1]; exact below_then (alrB w _) (alrB _ _))
  have hsz : (w.alloc (.cells #[.slice A1 n1 c1, .slice A2 n2 c2, .slice A3 n3 c3, .int .i64 N.from_, .int .i64 N.to_] 101)).heap.size = w.heap.size + 1 := World.size_alloc _ _
  have RA := Lib.hid (show WBox w1 w.heap.size A1 n1 c1 A2 n2 c2 A3 n3 c3 N by unfold WBox; rw [hw1]; exact row_alloc (heap_alloc_new w _) _)
  have RB := Lib.hid (show w1.heap[w.heap.size + 1]? = some (.cells #[.string t.name, .slice Av nv cv, .int .i64 t.guard.kind, .int .i64 t.guard.num, .slice Ag mg cg, .int .i64 t.join, .int .i64 t.split, .slice Ai ni ci, .slice Ao no co, .slice Ac nc cc, .int .i64 t.after, .int .i64 t.m0, .int .i64 t.m1, .int .i64 t.m2] 59 (0, 0)) by rw [hw1, ← hsz]; exact heap_alloc_new _ _)
  have HW := Lib.hid hw1.symm
  obtain ⟨g, hg⟩ : ∃ y, y = w.heap.size := ⟨_, rfl⟩
  have HG := Lib.hid hg.symm
  rw [← hg] at RA RB
  have HC := Lib.hid (show ∀ W, Below w1.heap.size w1 W → W.cell? ⟨g, 0, none⟩ = some (.slice A1 n1 c1) ∧ W.cell? ⟨g, 1, none⟩ = some (.slice A2 n2 c2) ∧ W.cell? ⟨g, 2, none⟩ = some (.slice A3 n3 c3) ∧ W.cell? ⟨g, 3, none⟩ = some (.int .i64 N.from_) ∧ W.cell? ⟨g, 4, none⟩ = some (.int .i64 N.to_) ∧ W.cell? ⟨g + 1, 0, none⟩ = some (.string t.name) ∧ W.cell? ⟨g + 1, 1, none⟩ = some (.slice Av nv cv) ∧ W.cell? ⟨g + 1, 2, none⟩ = some (.int .i64 t.guard.kind) ∧ W.cell? ⟨g + 1, 3, none⟩ = some (.int .i64 t.guard.num) ∧ W.cell? ⟨g + 1, 4, none⟩ = some (.slice Ag mg cg) ∧ W.cell? ⟨g + 1, 5, none⟩ = some (.int .i64 t.join) ∧ W.cell? ⟨g + 1, 6, none⟩ = some (.int .i64 t.split) ∧ W.cell? ⟨g + 1, 7, none⟩ = some (.slice Ai ni ci) ∧ W.cell? ⟨g + 1, 8, none⟩ = some (.slice Ao no co) ∧ W.cell? ⟨g + 1, 9, none⟩ = some (.slice Ac nc cc) ∧ W.cell? ⟨g + 1, 10, none⟩ = some (.int .i64 t.after) ∧ W.cell? ⟨g + 1, 11, none⟩ = some (.int .i64 t.m0) ∧ W.cell? ⟨g + 1, 12, none⟩ = some (.int .i64 t.m1) ∧ W.cell? ⟨g + 1, 13, none⟩ = some (.int .i64 t.m2) from fun W h => ⟨row_cell (row_below RA.out h) 0 _ rfl, row_cell (row_below RA.out h) 1 _ rfl, row_cell (row_below RA.out h) 2 _ rfl, row_cell (row_below RA.out h) 3 _ rfl, row_cell (row_below RA.out h) 4 _ rfl, row_cell (row_below RB.out h) 0 _ rfl, row_cell (row_below RB.out h) 1 _ rfl, row_cell (row_below RB.out h) 2 _ rfl, row_cell (row_below RB.out h) 3 _ rfl, row_cell (row_below RB.out h) 4 _ rfl, row_cell (row_below RB.out h) 5 _ rfl, row_cell (row_below RB.out h) 6 _ rfl, row_cell (row_below RB.out h) 7 _ rfl, row_cell (row_below RB.out h) 8 _ rfl, row_cell (row_below RB.out h) 9 _ rfl, row_cell (row_below RB.out h) 10 _ rfl, row_cell (row_below RB.out h) 11 _ rfl, row_cell (row_below RB.out h) 12 _ rfl, row_cell (row_below RB.out h) 13 _ rfl⟩)
  have HNV := Lib.hid (show nv ≤ 10000 by have h1 := hT.out.vars.len.1; have h2 := hB.out.nv; omega)
  have HLV := Lib.hid hT.out.vars.len.1
  have HLI := Lib.hid hT.out.ins.len.1
  have HLO := Lib.hid hT.out.outs.len.1
  have HLC := Lib.hid (show t.cancel.length = nc by have := hT.out.cancel.len; rw [intCells_len] at this; omega)
  have HNS := Lib.hid (show ∀ s ∈ t.names, s.size ≤ 1000 from fun s hs => by
    obtain ⟨v, hv, rfl⟩ := List.mem_map.1 hs
    exact hB.out.vn v hv)
  have CE1 := Lib.hid (pr_each_var (·.name) 143 #[] Av nv cv t.vars w1 (Lib.hid (hT.out.vars.below VrAt.stays HB1.out)) (by have := HNV.out; omega) (enters_of Tryz.func143 (by kernel_rfl) rfl) (Lib.hid (fun k hk W hb => pr_cl1 _ W)))
  obtain ⟨z0, z1, z2, z3, z4, z5, z6, z7, z8, z9, z10, z11, z12, z13, z14, z15, z16, z17, z18⟩ := HC.out w1 (Below.refl _ _)
  clear hsz hw1 hg
  go_enter Tryz.func96, Tryz.ntmps96
  go_upto_region 1 with fail
  rw [HG.out, HW.out]
  go_upto_region 2 with (go_at_call 142; refine CE1.out.mono ?_; rintro e w2 ⟨v, rfl, hown, hb⟩; obtain ⟨An, cn, rfl, _, _⟩ := own_form hown; have HS2 := Lib.hid (Sl.of_own hown); have HB2 := Lib.hid hb; clear hown hb)
  clear z0 z1 z2 z3 z4 z5 z6 z7 z8 z9 z10 z11 z12 z13 z14 z15 z16 z17 z18
  have hb3 := below_then HB2.out (alrB w2 (.cells #[.slice An nv cn] 23))
  have hr3 := heap_alloc_new w2 (.cells #[.slice An nv cn] 23)
  have hs3 := HS2.out.below (alrB w2 (.cells #[.slice An nv cn] 23))
  obtain ⟨w3, hw3⟩ : ∃ y, y = w2.alloc (.cells #[.slice An nv cn] 23) := ⟨_, rfl⟩
  obtain ⟨gn, hgn⟩ : ∃ y, y = w2.heap.size := ⟨_, rfl⟩
  rw [← hw3] at hb3 hr3 hs3 ⊢
  rw [← hgn] at hr3 ⊢
  clear hw3 hgn HS2 HB2 CE1
  have HB3 := Lib.hid hb3
  have HR3 := Lib.hid hr3
  have HS3 := Lib.hid (show Sl w3 (.slice An nv cn) nv 1 (strCells t.names) from hs3)
  clear hb3 hr3 hs3
  have HC3 := Lib.hid (show ∀ W, Below w3.heap.size w3 W → W.cell? ⟨g, 0, none⟩ = some (.slice A1 n1 c1) ∧ W.cell? ⟨g, 1, none⟩ = some (.slice A2 n2 c2) ∧ W.cell? ⟨g, 2, none⟩ = some (.slice A3 n3 c3) ∧ W.cell? ⟨g, 3, none⟩ = some (.int .i64 N.from_) ∧ W.cell? ⟨g, 4, none⟩ = some (.int .i64 N.to_) ∧ W.cell? ⟨g + 1, 0, none⟩ = some (.string t.name) ∧ W.cell? ⟨g + 1, 1, none⟩ = some (.slice Av nv cv) ∧ W.cell? ⟨g + 1, 2, none⟩ = some (.int .i64 t.guard.kind) ∧ W.cell? ⟨g + 1, 3, none⟩ = some (.int .i64 t.guard.num) ∧ W.cell? ⟨g + 1, 4, none⟩ = some (.slice Ag mg cg) ∧ W.cell? ⟨g + 1, 5, none⟩ = some (.int .i64 t.join) ∧ W.cell? ⟨g + 1, 6, none⟩ = some (.int .i64 t.split) ∧ W.cell? ⟨g + 1, 7, none⟩ = some (.slice Ai ni ci) ∧ W.cell? ⟨g + 1, 8, none⟩ = some (.slice Ao no co) ∧ W.cell? ⟨g + 1, 9, none⟩ = some (.slice Ac nc cc) ∧ W.cell? ⟨g + 1, 10, none⟩ = some (.int .i64 t.after) ∧ W.cell? ⟨g + 1, 11, none⟩ = some (.int .i64 t.m0) ∧ W.cell? ⟨g + 1, 12, none⟩ = some (.int .i64 t.m1) ∧ W.cell? ⟨g + 1, 13, none⟩ = some (.int .i64 t.m2) ∧ W.cell? ⟨gn, 0, none⟩ = some (.slice An nv cn) from fun W h => by
    obtain ⟨z0, z1, z2, z3, z4, z5, z6, z7, z8, z9, z10, z11, z12, z13, z14, z15, z16, z17, z18⟩ := HC.out W (below_then HB3.out h)
    exact ⟨z0, z1, z2, z3, z4, z5, z6, z7, z8, z9, z10, z11, z12, z13, z14, z15, z16, z17, z18, row_cell (row_below HR3.out h) 0 _ rfl⟩)
  have HWX := Lib.hid (fun W (h : Below w3.heap.size w3 W) => below_then (below_then HB1.out HB3.out) h)
  have HWB := Lib.hid (fun W (h : Below w3.heap.size w3 W) => (RA.out.below (below_then HB3.out h) : WBox W g A1 n1 c1 A2 n2 c2 A3 n3 c3 N))
  clear HC
  have BDA := Lib.hid (Below.refl w3.heap.size w3)
  have CE2 := Lib.hid (pr_each_var (varB N.cols) 146 #[.pointer (some ⟨g, 0, none⟩)] Av nv cv t.vars w3 (Lib.hid (hT.out.vars.below VrAt.stays (HWX.out _ BDA.out))) (by have := HNV.out; omega) (enters_of Tryz.func146 (by kernel_rfl) rfl) (Lib.hid (fun k hk W hb => by
    have hm : t.vars.getD k default ∈ t.vars := getD_mem (by have := HLV.out; omega)
    obtain ⟨_, _, _, P⟩ := hT.out.vars.at_ hk
    exact pr_cl3 (A1 := A1) (n1 := n1) (c1 := c1) (A2 := A2) (n2 := n2) (c2 := c2) (A3 := A3) (n3 := n3) (c3 := c3) (N := N) _ g W (Lib.hid (HWB.out W hb)) (Lib.hid (hC.out.below (HWX.out W hb))) P.i1 (Lib.hid (hB.out.vn _ hm)) hcs)))
  obtain ⟨bw, hbw⟩ : ∃ b, b = sameT t.guard (.mk 1 1 []) := ⟨_, rfl⟩
  have CS := Lib.hid (fun W (h : Below w3.heap.size w3 W) => (show Calls Tryz.prog 11 #[t.guard.val Ag mg cg, (Tr.mk 1 1 []).val none 0 0] W fun e w' => e = .returned (.bool bw) ∧ Below W.heap.size W w' by
    rw [hbw]; exact ex_Same t.guard.sz t.guard (.mk 1 1 []) (Nat.le_refl _) Ag mg cg none 0 0 W (Lib.hid (hT.out.guard.kept (HWX.out W h))) (Lib.hid (leaf_at W))))
  have HWH := Lib.hid (show whenB t = if bw = true then [] else [(⟨#[119, 104, 101, 110, 32]⟩ : ByteArray) ++ exprB t.names t.guard] by rw [hbw]; rfl)
  clear hbw
  obtain ⟨z0, z1, z2, z3, z4, z5, z6, z7, z8, z9, z10, z11, z12, z13, z14, z15, z16, z17, z18, z19⟩ := HC3.out w3 BDA.out
  go_upto_if 20 with (first
    | (go_at_call 142; refine CE2.out.mono ?_; rintro e w4 ⟨v, rfl, hown, hb⟩; obtain ⟨Au, cu, rfl, _, _⟩ := own_form hown; have HO4 := Lib.hid hown; have HB4 := Lib.hid hb; clear hown hb z0 z1 z2 z3 z4 z5 z6 z7 z8 z9 z10 z11 z12 z13 z14 z15 z16 z17 z18 z19; obtain ⟨z0, z1, z2, z3, z4, z5, z6, z7, z8, z9, z10, z11, z12, z13, z14, z15, z16, z17, z18, z19⟩ := HC3.out w4 HB4.out)
    | (go_at_call 11; refine (CS.out _ HB4.out).mono ?_; rintro e w5 ⟨rfl, hb⟩; have HK5 := Lib.hid hb; have HB5 := Lib.hid (below_then HB4.out hb); clear hb z0 z1 z2 z3 z4 z5 z6 z7 z8 z9 z10 z11 z12 z13 z14 z15 z16 z17 z18 z19))
  have HO5 := Lib.hid (own_below HO4.out HK5.out)
  clear HO4 HK5 HB4 CE2 CS
  go_cut [7] (fun s7 wx => ∃ A n c, s7 = .slice A n c ∧ Hid (n ≤ 10001) ∧ Hid (wx.ownsRow w3.heap.size 9 1 (.slice A n c) n (strCells (t.vars.map (varB N.cols) ++ whenB t))) ∧ Hid (Below w3.heap.size w3 wx))
  case first =>
    cases bw with
    | true =>
      go_wp2_with fail
      go_meet
      exact ⟨_, _, _, rfl, Lib.hid (by have := HNV.out; omega), Lib.hid (by rw [HWH.out]; simpa using HO5.out), HB5⟩
    | false =>
      have s1 : (exprB t.names t.guard).size ≤ 10000000000 := by
        have := hB.out.gt
        show (textT t.names t.guard).toArray.size ≤ _
        simpa using this
      have q0 : (9223372036854775807 < 5 + (exprB t.names t.guard).size) = False := eq_false (by omega)
      clear s1
      have CT := Lib.hid (show Calls Tryz.prog 19 #[t.guard.val Ag mg cg, .slice An nv cn] w5 fun e w' => e = .returned (.string (exprB t.names t.guard)) ∧ Below w5.heap.size w5 w' from ex_Text t.names An nv cn t.guard Ag mg cg w5 (Lib.hid (hT.out.guard.kept (HWX.out _ HB5.out))) (Lib.hid (fun V hv => htab.out V (HWX.out _ (below_then HB5.out hv)))) (Lib.hid (HS3.out.below HB5.out)) HNS.out (by have := hB.out.gt; omega))
      obtain ⟨z0, z1, z2, z3, z4, z5, z6, z7, z8, z9, z10, z11, z12, z13, z14, z15, z16, z17, z18, z19⟩ := HC3.out w5 HB5.out
      go_wp2_with (first
        | (go_at_call 19; refine CT.out.mono ?_; rintro e w6 ⟨rfl, hb⟩; have HK6 := Lib.hid hb; have HB6 := Lib.hid (below_then HB5.out hb); clear hb z0 z1 z2 z3 z4 z5 z6 z7 z8 z9 z10 z11 z12 z13 z14 z15 z16 z17 z18 z19)
        | (at_builtin; go_loud (refine wpList_append_sl strs_ty rfl (.tmp 21) (.tmp 27) rfl w3.heap.size rfl (by exact own_below HO5.out (below_then HK6.out (alrB _ _))) rfl (by exact Sl.new _ _ [.string ((⟨#[119, 104, 101, 110, 32]⟩ : ByteArray) ++ exprB t.names t.guard)] 1 1 rfl (by omega)) (by intro u hu; rw [List.mem_singleton.1 hu]; rfl) (by have := HNV.out; omega) (by have := HNV.out; omega) (by have := HB6.out.size; simp; omega) ?_); intro v9 w9 hown9 hg9 hat9))
      obtain ⟨A9, c9, rfl, _, _⟩ := own_form hown9
      go_meet
      refine ⟨_, _, _, rfl, Lib.hid (by have := HNV.out; omega), Lib.hid ?_, Lib.hid ?_⟩
      · rw [HWH.out, if_neg (by simp), ← strCells_app]; exact hown9
      · exact (below_then HB6.out (alrB _ _)).grown hg9 (by have := HB6.out.size; simp; omega) fun q hq => (HO5.out.lt q hq).1
  case rest =>
  obtain ⟨X1, m1, d1, rfl, HM1, HO1, HY1⟩ := hcut
  obtain ⟨v1, hv1⟩ : ∃ y, Hid (y = wc) := ⟨_, Lib.hid rfl⟩
  rw [← hv1.out] at HO1 HY1 ⊢
  obtain ⟨Q1, hQ1⟩ : ∃ l, l = t.vars.map (varB N.cols) ++ whenB t := ⟨_, rfl⟩
  have HQ1 := Lib.hid hQ1.symm
  rw [← hQ1] at HO1
  clear hQ1
  obtain ⟨k1, hk1⟩ : ∃ l, l = kindB ⟨#[106, 111, 105, 110]⟩ t.join := ⟨_, rfl⟩
  have HKL1 := Lib.hid (show k1.length ≤ 1 by rw [hk1]; exact kindB_len _ _)
  have CK1 := Lib.hid (show Calls Tryz.prog 147 #[.string ⟨#[106, 111, 105, 110]⟩, .int .i64 t.join] v1 fun e w' => ∃ v, e = .returned v ∧ Sl w' v k1.length 1 (strCells k1) ∧ Below v1.heap.size v1 w' by rw [hk1]; exact pr_kind ⟨#[106, 111, 105, 110]⟩ t.join v1 (Lib.hid (by decide)))
  have HKQ1 := Lib.hid hk1.symm
  obtain ⟨kl1, hkl1⟩ : ∃ n, n = k1.length := ⟨_, rfl⟩
  rw [← hkl1] at HKL1 CK1
  clear hk1 hkl1
  obtain ⟨z0, z1, z2, z3, z4, z5, z6, z7, z8, z9, z10, z11, z12, z13, z14, z15, z16, z17, z18, z19⟩ := HC3.out v1 HY1.out
  go_upto_region 7 with (first
    | (go_at_call 147; refine CK1.out.mono ?_; rintro e w6 ⟨v, rfl, hS, hb⟩; obtain ⟨A6, c6, rfl, _, _, _⟩ := hS.form; have HS6 := Lib.hid hS; have HK6 := Lib.hid hb; have HB6 := Lib.hid (below_then HY1.out hb); clear hS hb z0 z1 z2 z3 z4 z5 z6 z7 z8 z9 z10 z11 z12 z13 z14 z15 z16 z17 z18 z19)
    | (at_builtin; go_loud (refine wpList_append_sl strs_ty rfl (.tmp 29) (.tmp 32) rfl w3.heap.size rfl (by exact own_below HO1.out HK6.out) rfl (by exact HS6.out) (strs_one _) (by have := HM1.out; have := HKL1.out; omega) (by have := HM1.out; have := HKL1.out; omega) (by exact HB6.out.size) ?_); intro v9 w9 hown9 hg9 hat9))
  obtain ⟨X2, d2, rfl, _, _⟩ := own_form hown9
  obtain ⟨Q2, hQ2⟩ : ∃ l, l = Q1 ++ k1 := ⟨_, rfl⟩
  rw [strCells_app, ← hQ2] at hown9
  have HQ2 := Lib.hid hQ2.symm
  have HY2 := Lib.hid (HB6.out.grown hg9 HB6.out.size fun q hq => (HO1.out.lt q hq).1)
  have HO2 := Lib.hid hown9
  obtain ⟨m2, hm2⟩ : ∃ n, n = m1 + kl1 := ⟨_, rfl⟩
  rw [← hm2] at HO2 ⊢
  have HM2 := Lib.hid (show m2 ≤ 10001 + 1 by have := HM1.out; have := HKL1.out; omega)
  obtain ⟨v2, hv2⟩ : ∃ y, Hid (y = w9) := ⟨_, Lib.hid rfl⟩
  rw [← hv2.out] at HO2 HY2 ⊢
  clear hown9 hg9 hat9 hQ2 hm2 HS6 HK6 HB6 HO1 HY1 CK1 HKL1
  obtain ⟨k2, hk2⟩ : ∃ l, l = kindB ⟨#[115, 112, 108, 105, 116]⟩ t.split := ⟨_, rfl⟩
  have HKL2 := Lib.hid (show k2.length ≤ 1 by rw [hk2]; exact kindB_len _ _)
  have CK2 := Lib.hid (show Calls Tryz.prog 147 #[.string ⟨#[115, 112, 108, 105, 116]⟩, .int .i64 t.split] v2 fun e w' => ∃ v, e = .returned v ∧ Sl w' v k2.length 1 (strCells k2) ∧ Below v2.heap.size v2 w' by rw [hk2]; exact pr_kind ⟨#[115, 112, 108, 105, 116]⟩ t.split v2 (Lib.hid (by decide)))
  have HKQ2 := Lib.hid hk2.symm
  obtain ⟨kl2, hkl2⟩ : ∃ n, n = k2.length := ⟨_, rfl⟩
  rw [← hkl2] at HKL2 CK2
  clear hk2 hkl2
  obtain ⟨z0, z1, z2, z3, z4, z5, z6, z7, z8, z9, z10, z11, z12, z13, z14, z15, z16, z17, z18, z19⟩ := HC3.out v2 HY2.out
  go_upto_region 8 with (first
    | (go_at_call 147; refine CK2.out.mono ?_; rintro e w6 ⟨v, rfl, hS, hb⟩; obtain ⟨A6, c6, rfl, _, _, _⟩ := hS.form; have HS6 := Lib.hid hS; have HK6 := Lib.hid hb; have HB6 := Lib.hid (below_then HY2.out hb); clear hS hb z0 z1 z2 z3 z4 z5 z6 z7 z8 z9 z10 z11 z12 z13 z14 z15 z16 z17 z18 z19)
    | (at_builtin; go_loud (refine wpList_append_sl strs_ty rfl (.tmp 34) (.tmp 37) rfl w3.heap.size rfl (by exact own_below HO2.out HK6.out) rfl (by exact HS6.out) (strs_one _) (by have := HM2.out; have := HKL2.out; omega) (by have := HM2.out; have := HKL2.out; omega) (by exact HB6.out.size) ?_); intro v9 w9 hown9 hg9 hat9))
  obtain ⟨X3, d3, rfl, _, _⟩ := own_form hown9
  obtain ⟨Q3, hQ3⟩ : ∃ l, l = Q2 ++ k2 := ⟨_, rfl⟩
  rw [strCells_app, ← hQ3] at hown9
  have HQ3 := Lib.hid hQ3.symm
  have HY3 := Lib.hid (HB6.out.grown hg9 HB6.out.size fun q hq => (HO2.out.lt q hq).1)
  have HO3 := Lib.hid hown9
  obtain ⟨m3, hm3⟩ : ∃ n, n = m2 + kl2 := ⟨_, rfl⟩
  rw [← hm3] at HO3 ⊢
  have HM3 := Lib.hid (show m3 ≤ 10001 + 2 by have := HM2.out; have := HKL2.out; omega)
  obtain ⟨v3, hv3⟩ : ∃ y, Hid (y = w9) := ⟨_, Lib.hid rfl⟩
  rw [← hv3.out] at HO3 HY3 ⊢
  clear hown9 hg9 hat9 hQ3 hm3 HS6 HK6 HB6 HO2 HY2 CK2 HKL2
  obtain ⟨Q4, hQ4⟩ : ∃ l, l = Q3 ++ t.ins.map (arcB N.pls t.names ⟨#[105, 110, 32]⟩) := ⟨_, rfl⟩
  have HQ4 := Lib.hid hQ4.symm
  clear hQ4
  have HD3 := Lib.hid (below_drewN' (Below.refl v3.heap.size v3) 1)
  obtain ⟨z0, z1, z2, z3, z4, z5, z6, z7, z8, z9, z10, z11, z12, z13, z14, z15, z16, z17, z18, z19⟩ := HC3.out v3 HY3.out
  have z8a := cell_kept HD3.out z8
  go_cut [7] (fun s7 wx => ∃ A n c, s7 = .slice A n c ∧ Hid (n ≤ 10003 + 10000 * 1) ∧ Hid (wx.ownsRow w3.heap.size 9 1 (.slice A n c) n (strCells Q4)) ∧ Hid (Below w3.heap.size w3 wx))
  case first =>
    go_region_law (first
      | (refine step_append_sl strs_ty rfl (.tmp 39) (.tmp 44) rfl w3.heap.size rfl (by exact own_below HO3.out (below_then HK6.out HK7.out)) rfl (by exact HS7.out) (strs_one _) (by have := HM3.out; have := HLI.out; have := hB.out.ni; omega) (by have := HM3.out; have := HLI.out; have := hB.out.ni; omega) (by exact HB7.out.size) ?_; intro v9 w9 hown9 hg9 hat9)
      | (go_simp; go_at_call 144; refine (pr_cl2 ⟨#[105, 110, 32]⟩ g gn v3.drew).mono ?_; rintro e w6 ⟨gx, rfl, hb, hx⟩
         have HK6 := Lib.hid (below_then (show Below v3.heap.size v3 v3.drew from HD3.out) hb)
         have HB6 := Lib.hid (below_then HY3.out HK6.out)
         have HX6 := Lib.hid hx
         clear hb hx z0 z1 z2 z3 z4 z5 z6 z7 z8 z9 z10 z11 z12 z13 z14 z15 z16 z17 z18 z19
         obtain ⟨z0, z1, z2, z3, z4, z5, z6, z7, z8, z9, z10, z11, z12, z13, z14, z15, z16, z17, z18, z19⟩ := HC3.out w6 HB6.out)
      | (go_simp; go_at_call 148; refine (pr_arcs (A1 := A1) (n1 := n1) (c1 := c1) (A2 := A2) (n2 := n2) (c2 := c2) (A3 := A3) (n3 := n3) (c3 := c3) (N := N) t.names ⟨#[105, 110, 32]⟩ Ai ni ci t.ins gx g gn An nv cn w6 (Lib.hid (HWB.out _ HB6.out)) (Lib.hid (hP.out.below PlAt.stays (HWX.out _ HB6.out))) HX6 (Lib.hid z19) (Lib.hid (HS3.out.below HB6.out)) (Lib.hid (hT.out.ins.below ArAt.stays (HWX.out _ HB6.out))) (by have := HLI.out; have := hB.out.ni; omega) (Lib.hid (fun V hv => htab.out V (HWX.out _ (below_then HB6.out hv)))) (Lib.hid (by decide)) hps HNS.out hB.out.it).mono ?_; rintro e w7 ⟨v, rfl, hown, hb⟩
         obtain ⟨A7, c7, rfl, _, _⟩ := own_form hown
         have HS7 := Lib.hid (Sl.of_own hown)
         have HK7 := Lib.hid hb
         have HB7 := Lib.hid (below_then HB6.out hb)
         clear hown hb z0 z1 z2 z3 z4 z5 z6 z7 z8 z9 z10 z11 z12 z13 z14 z15 z16 z17 z18 z19))
    all_goals
      obtain ⟨A9, c9, rfl, _, _⟩ := own_form hown9
      go_wp2_with fail
      go_meet
      refine ⟨_, _, _, rfl, Lib.hid (by have := HM3.out; have := HLI.out; have := hB.out.ni; omega), Lib.hid ?_, Lib.hid ?_⟩
      · rw [← HQ4.out, ← strCells_app]; exact hown9
      · exact HB7.out.grown hg9 HB7.out.size fun q hq => (HO3.out.lt q hq).1
  case rest =>
  clear z0 z1 z2 z3 z4 z5 z6 z7 z8 z9 z10 z11 z12 z13 z14 z15 z16 z17 z18 z19 z8a HO3 HY3 HD3
  obtain ⟨X4, m4, d4, rfl, HM4, HO4, HY4⟩ := hcut
  obtain ⟨v4, hv4⟩ : ∃ y, Hid (y = wc) := ⟨_, Lib.hid rfl⟩
  rw [← hv4.out] at HO4 HY4 ⊢
  go_upto_region 9 with fail
  obtain ⟨Q5, hQ5⟩ : ∃ l, l = Q4 ++ t.outs.map (arcB N.pls t.names ⟨#[111, 117, 116, 32]⟩) := ⟨_, rfl⟩
  have HQ5 := Lib.hid hQ5.symm
  clear hQ5
  have HD4 := Lib.hid (below_drewN' (Below.refl v4.heap.size v4) 1)
  obtain ⟨z0, z1, z2, z3, z4, z5, z6, z7, z8, z9, z10, z11, z12, z13, z14, z15, z16, z17, z18, z19⟩ := HC3.out v4 HY4.out
  have z8a := cell_kept HD4.out z8
  go_cut [7] (fun s7 wx => ∃ A n c, s7 = .slice A n c ∧ Hid (n ≤ 10003 + 10000 * 2) ∧ Hid (wx.ownsRow w3.heap.size 9 1 (.slice A n c) n (strCells Q5)) ∧ Hid (Below w3.heap.size w3 wx))
  case first =>
    go_region_law (first
      | (refine step_append_sl strs_ty rfl (.tmp 46) (.tmp 51) rfl w3.heap.size rfl (by exact own_below HO4.out (below_then HK6.out HK7.out)) rfl (by exact HS7.out) (strs_one _) (by have := HM4.out; have := HLO.out; have := hB.out.no; omega) (by have := HM4.out; have := HLO.out; have := hB.out.no; omega) (by exact HB7.out.size) ?_; intro v9 w9 hown9 hg9 hat9)
      | (go_simp; go_at_call 144; refine (pr_cl2 ⟨#[111, 117, 116, 32]⟩ g gn v4.drew).mono ?_; rintro e w6 ⟨gx, rfl, hb, hx⟩
         have HK6 := Lib.hid (below_then (show Below v4.heap.size v4 v4.drew from HD4.out) hb)
         have HB6 := Lib.hid (below_then HY4.out HK6.out)
         have HX6 := Lib.hid hx
         clear hb hx z0 z1 z2 z3 z4 z5 z6 z7 z8 z9 z10 z11 z12 z13 z14 z15 z16 z17 z18 z19
         obtain ⟨z0, z1, z2, z3, z4, z5, z6, z7, z8, z9, z10, z11, z12, z13, z14, z15, z16, z17, z18, z19⟩ := HC3.out w6 HB6.out)
      | (go_simp; go_at_call 148; refine (pr_arcs (A1 := A1) (n1 := n1) (c1 := c1) (A2 := A2) (n2 := n2) (c2 := c2) (A3 := A3) (n3 := n3) (c3 := c3) (N := N) t.names ⟨#[111, 117, 116, 32]⟩ Ao no co t.outs gx g gn An nv cn w6 (Lib.hid (HWB.out _ HB6.out)) (Lib.hid (hP.out.below PlAt.stays (HWX.out _ HB6.out))) HX6 (Lib.hid z19) (Lib.hid (HS3.out.below HB6.out)) (Lib.hid (hT.out.outs.below ArAt.stays (HWX.out _ HB6.out))) (by have := HLO.out; have := hB.out.no; omega) (Lib.hid (fun V hv => htab.out V (HWX.out _ (below_then HB6.out hv)))) (Lib.hid (by decide)) hps HNS.out hB.out.ot).mono ?_; rintro e w7 ⟨v, rfl, hown, hb⟩
         obtain ⟨A7, c7, rfl, _, _⟩ := own_form hown
         have HS7 := Lib.hid (Sl.of_own hown)
         have HK7 := Lib.hid hb
         have HB7 := Lib.hid (below_then HB6.out hb)
         clear hown hb z0 z1 z2 z3 z4 z5 z6 z7 z8 z9 z10 z11 z12 z13 z14 z15 z16 z17 z18 z19))
    all_goals
      obtain ⟨A9, c9, rfl, _, _⟩ := own_form hown9
      go_wp2_with fail
      go_meet
      refine ⟨_, _, _, rfl, Lib.hid (by have := HM4.out; have := HLO.out; have := hB.out.no; omega), Lib.hid ?_, Lib.hid ?_⟩
      · rw [← HQ5.out, ← strCells_app]; exact hown9
      · exact HB7.out.grown hg9 HB7.out.size fun q hq => (HO4.out.lt q hq).1
  case rest =>
  clear z0 z1 z2 z3 z4 z5 z6 z7 z8 z9 z10 z11 z12 z13 z14 z15 z16 z17 z18 z19 z8a HO4 HY4 HD4
  obtain ⟨X5, m5, d5, rfl, HM5, HO5, HY5⟩ := hcut
  obtain ⟨v5, hv5⟩ : ∃ y, Hid (y = wc) := ⟨_, Lib.hid rfl⟩
  rw [← hv5.out] at HO5 HY5 ⊢
  go_upto_region 10 with fail
  obtain ⟨Q6, hQ6⟩ : ∃ l, l = Q5 ++ t.cancel.map (cancelB N.pls) := ⟨_, rfl⟩
  have CE5 := Lib.hid (pr_each_int (cancelB N.pls) 150 #[.pointer (some ⟨g, 0, none⟩)] Ac nc cc t.cancel v5 (Lib.hid (hT.out.cancel.below (HWX.out _ HY5.out))) (by have := HLC.out; have := hB.out.nc; omega) (enters_of Tryz.func150 (by kernel_rfl) rfl) (Lib.hid (fun k hk W hb => by
    have hm : t.cancel.getD k 0 ∈ t.cancel := getD_mem (by have := HLC.out; omega)
    exact pr_cl4 (A1 := A1) (n1 := n1) (c1 := c1) (A2 := A2) (n2 := n2) (c2 := c2) (A3 := A3) (n3 := n3) (c3 := c3) (N := N) _ g W (Lib.hid (HWB.out W (below_then HY5.out hb))) (Lib.hid (hP.out.below PlAt.stays (HWX.out _ (below_then HY5.out hb)))) (hI.out.cancel _ hm) hps)))
  obtain ⟨z0, z1, z2, z3, z4, z5, z6, z7, z8, z9, z10, z11, z12, z13, z14, z15, z16, z17, z18, z19⟩ := HC3.out v5 HY5.out
  go_upto_region 11 with (first
    | (go_at_call 149; refine CE5.out.mono ?_; rintro e w6 ⟨v, rfl, hown, hb⟩; obtain ⟨A6, c6, rfl, _, _⟩ := own_form hown; have HS6 := Lib.hid (Sl.of_own hown); have HK6 := Lib.hid hb; have HB6 := Lib.hid (below_then HY5.out hb); clear hown hb z0 z1 z2 z3 z4 z5 z6 z7 z8 z9 z10 z11 z12 z13 z14 z15 z16 z17 z18 z19)
    | (at_builtin; go_loud (refine wpList_append_sl strs_ty rfl (.tmp 53) (.tmp 57) rfl w3.heap.size rfl (by exact own_below HO5.out HK6.out) rfl (by exact HS6.out) (strs_one _) (by have := HM5.out; have := HLC.out; have := hB.out.nc; omega) (by have := HM5.out; have := HLC.out; have := hB.out.nc; omega) (by exact HB6.out.size) ?_); intro v9 w9 hown9 hg9 hat9))
  obtain ⟨X6, d6, rfl, _, _⟩ := own_form hown9
  rw [strCells_app, ← hQ6] at hown9
  have HQ6 := Lib.hid hQ6.symm
  have HY6 := Lib.hid (HB6.out.grown hg9 HB6.out.size fun q hq => (HO5.out.lt q hq).1)
  have HO6 := Lib.hid hown9
  obtain ⟨m6, hm6⟩ : ∃ n, n = m5 + nc := ⟨_, rfl⟩
  rw [← hm6] at HO6 ⊢
  have HM6 := Lib.hid (show m6 ≤ 50000 by have := HM5.out; have := HLC.out; have := hB.out.nc; omega)
  obtain ⟨v6, hv6⟩ : ∃ y, Hid (y = w9) := ⟨_, Lib.hid rfl⟩
  rw [← hv6.out] at HO6 HY6 ⊢
  clear hown9 hg9 hat9 hQ6 hm6 HS6 HK6 HB6 HO5 HY5 CE5
  obtain ⟨Q7, hQ7⟩ : ∃ l, l = Q6 ++ afterB t := ⟨_, rfl⟩
  have HQ7 := Lib.hid hQ7.symm
  clear hQ7
  obtain ⟨z0, z1, z2, z3, z4, z5, z6, z7, z8, z9, z10, z11, z12, z13, z14, z15, z16, z17, z18, z19⟩ := HC3.out v6 HY6.out
  obtain ⟨ba, hba⟩ : ∃ b, (t.after != 0) = b := ⟨_, rfl⟩
  go_upto_if 61 with fail
  have HBA := Lib.hid hba
  clear hba
  go_cut [7] (fun s7 wx => ∃ A n c, s7 = .slice A n c ∧ Hid (n ≤ 50001) ∧ Hid (wx.ownsRow w3.heap.size 9 1 (.slice A n c) n (strCells Q7)) ∧ Hid (Below w3.heap.size w3 wx))
  case first =>
    cases ba with
    | false =>
      have HH := Lib.hid (show t.after = 0 by simpa using HBA.out)
      go_wp2_with fail
      go_meet
      exact ⟨_, _, _, rfl, Lib.hid (by have := HM6.out; omega), Lib.hid (by rw [← HQ7.out]; unfold afterB; rw [if_pos HH.out, List.append_nil]; exact HO6.out), HY6⟩
    | true =>
      have HH := Lib.hid (show ¬ t.after = 0 by simpa using HBA.out)
      have s1 := itoaB_size hI.out.after
      have q0 : (9223372036854775807 < 6 + (itoaB t.after).size) = False := eq_false (by omega)
      clear s1
      go_wp2_with (first
        | (go_at_call 84; refine (pr_itoa t.after hI.out.after v6 (Lib.hid (htab.out _ (HWX.out _ HY6.out)))).mono ?_; rintro e w6 ⟨rfl, hb⟩; have HK6 := Lib.hid hb; have HB6 := Lib.hid (below_then HY6.out hb); clear hb z0 z1 z2 z3 z4 z5 z6 z7 z8 z9 z10 z11 z12 z13 z14 z15 z16 z17 z18 z19)
        | (at_builtin; go_loud (refine wpList_append_sl strs_ty rfl (.tmp 62) (.tmp 67) rfl w3.heap.size rfl (by exact own_below HO6.out (below_then HK6.out (alrB _ _))) rfl (by exact Sl.new _ _ [.string ((⟨#[97, 102, 116, 101, 114, 32]⟩ : ByteArray) ++ itoaB t.after)] 1 1 rfl (by omega)) (by intro u hu; rw [List.mem_singleton.1 hu]; rfl) (by have := HM6.out; omega) (by have := HM6.out; omega) (by have := HB6.out.size; simp; omega) ?_); intro v9 w9 hown9 hg9 hat9))
      obtain ⟨A9, c9, rfl, _, _⟩ := own_form hown9
      go_meet
      refine ⟨_, _, _, rfl, Lib.hid (by have := HM6.out; omega), Lib.hid ?_, Lib.hid ?_⟩
      · rw [← HQ7.out, ← strCells_app]; unfold afterB; rw [if_neg HH.out]; exact hown9
      · exact (below_then HB6.out (alrB _ _)).grown hg9 (by have := HB6.out.size; simp; omega) fun q hq => (HO6.out.lt q hq).1
  case rest =>
  clear z0 z1 z2 z3 z4 z5 z6 z7 z8 z9 z10 z11 z12 z13 z14 z15 z16 z17 z18 z19 HO6 HY6
  obtain ⟨X7, m7, d7, rfl, HM7, HO7, HY7⟩ := hcut
  obtain ⟨v7, hv7⟩ : ∃ y, Hid (y = wc) := ⟨_, Lib.hid rfl⟩
  rw [← hv7.out] at HO7 HY7 ⊢
  go_upto_region 13 with fail
  obtain ⟨Q8, hQ8⟩ : ∃ l, l = Q7 ++ manyB t := ⟨_, rfl⟩
  have HQ8 := Lib.hid hQ8.symm
  clear hQ8
  have nt := neq3_ t.m0 t.m1 t.m2
  obtain ⟨bm, hbm⟩ : ∃ b, b = (!(t.m0 == 0 && (t.m1 == 0 && t.m2 == 0))) := ⟨_, rfl⟩
  rw [← hbm] at nt
  have HBM := Lib.hid hbm
  clear hbm
  obtain ⟨z0, z1, z2, z3, z4, z5, z6, z7, z8, z9, z10, z11, z12, z13, z14, z15, z16, z17, z18, z19⟩ := HC3.out v7 HY7.out
  go_upto_if 72 with fail
  clear nt
  go_cut [7] (fun s7 wx => ∃ A n c, s7 = .slice A n c ∧ Hid (n ≤ 50002) ∧ Hid (wx.ownsRow w3.heap.size 9 1 (.slice A n c) n (strCells Q8)) ∧ Hid (Below w3.heap.size w3 wx))
  case first =>
    cases bm with
    | false =>
      have HH := Lib.hid (show t.m0 = 0 ∧ t.m1 = 0 ∧ t.m2 = 0 by simpa using HBM.out)
      go_wp2_with fail
      go_meet
      exact ⟨_, _, _, rfl, Lib.hid (by have := HM7.out; omega), Lib.hid (by rw [← HQ8.out]; unfold manyB; rw [if_pos HH.out, List.append_nil]; exact HO7.out), HY7⟩
    | true =>
      have HH := Lib.hid (show ¬ (t.m0 = 0 ∧ t.m1 = 0 ∧ t.m2 = 0) by rintro ⟨h1, h2, h3⟩; have := HBM.out; simp [h1, h2, h3] at this)
      have hj := join3_size hI.out.m0 hI.out.m1 hI.out.m2
      have CJ := Lib.hid (fun A6 c6 w6 (h : Sl w6 (.slice A6 3 c6) 3 1 (strCells ([t.m0, t.m1, t.m2].map itoaB))) => pr_join A6 3 c6 [itoaB t.m0, itoaB t.m1, itoaB t.m2] w6 (Lib.hid h) (by omega) (by omega))
      have HMB := Lib.hid (show manyB t = [(⟨#[109, 97, 110, 121, 32]⟩ : ByteArray) ++ joinB [itoaB t.m0, itoaB t.m1, itoaB t.m2]] by unfold manyB; rw [if_neg HH.out])
      obtain ⟨J, hJ⟩ : ∃ J, J = joinB [itoaB t.m0, itoaB t.m1, itoaB t.m2] := ⟨_, rfl⟩
      rw [← hJ] at hj CJ HMB
      have q0 : (9223372036854775807 < 5 + (J).size) = False := eq_false (by omega)
      clear hj hJ
      have CE7 := Lib.hid (pr_each_int itoaB 84 #[] (some ⟨g + 1, 11, none⟩) 3 3 [t.m0, t.m1, t.m2] v7 (Lib.hid (sl3 z16 z17 z18)) (by omega) (enters_of Tryz.func84 (by kernel_rfl) rfl) (Lib.hid (fun k hk W hb => by
        have hm : [t.m0, t.m1, t.m2].getD k 0 ∈ [t.m0, t.m1, t.m2] := getD_mem hk
        have hi : I64 ([t.m0, t.m1, t.m2].getD k 0) := by
          simp only [List.mem_cons, List.not_mem_nil, or_false] at hm
          rcases hm with h | h | h <;> rw [h]
          · exact hI.out.m0
          · exact hI.out.m1
          · exact hI.out.m2
        exact pr_itoa _ hi W (Lib.hid (htab.out _ (HWX.out _ (below_then HY7.out hb)))))))
      go_wp2_with (first
        | (go_at_call 149; refine CE7.out.mono ?_; rintro e w6 ⟨v, rfl, hown, hb⟩; obtain ⟨A6, c6, rfl, _, _⟩ := own_form hown; have HS6 := Lib.hid (Sl.of_own hown); have HK6 := Lib.hid hb; have HB6 := Lib.hid (below_then HY7.out hb); clear hown hb z0 z1 z2 z3 z4 z5 z6 z7 z8 z9 z10 z11 z12 z13 z14 z15 z16 z17 z18 z19)
        | (go_at_call 32; refine (CJ.out A6 c6 w6 HS6.out).mono ?_; rintro e w7 ⟨rfl, hb⟩; have HK7 := Lib.hid (below_then HK6.out hb); have HB7 := Lib.hid (below_then HB6.out hb); clear hb)
        | (at_builtin; go_loud (refine wpList_append_sl strs_ty rfl (.tmp 73) (.tmp 79) rfl w3.heap.size rfl (by exact own_below HO7.out (below_then HK7.out (alrB _ _))) rfl (by exact Sl.new _ _ [.string ((⟨#[109, 97, 110, 121, 32]⟩ : ByteArray) ++ J)] 1 1 rfl (by omega)) (by intro u hu; rw [List.mem_singleton.1 hu]; rfl) (by have := HM7.out; omega) (by have := HM7.out; omega) (by have := HB7.out.size; simp; omega) ?_); intro v9 w9 hown9 hg9 hat9))
      obtain ⟨A9, c9, rfl, _, _⟩ := own_form hown9
      go_meet
      refine ⟨_, _, _, rfl, Lib.hid (by have := HM7.out; omega), Lib.hid ?_, Lib.hid ?_⟩
      · rw [← HQ8.out, ← strCells_app, HMB.out]; exact hown9
      · exact (below_then HB7.out (alrB _ _)).grown hg9 (by have := HB7.out.size; simp; omega) fun q hq => (HO7.out.lt q hq).1
  case rest =>
  clear z0 z1 z2 z3 z4 z5 z6 z7 z8 z9 z10 z11 z12 z13 z14 z15 z16 z17 z18 z19 HO7 HY7
  obtain ⟨X8, m8, d8, rfl, HM8, HO8, HY8⟩ := hcut
  obtain ⟨v8, hv8⟩ : ∃ y, Hid (y = wc) := ⟨_, Lib.hid rfl⟩
  rw [← hv8.out] at HO8 HY8 ⊢
  go_wp2_with fail
  go_ret
  refine ⟨.slice X8 m8 d8, m8, rfl, ?_, HWX.out _ HY8.out⟩
  have e : Q8 = clausesB N.cols N.pls t := by
    rw [← HQ8.out, ← HQ7.out, ← HQ6.out, ← HQ5.out, ← HQ4.out, ← HQ3.out, ← HQ2.out, ← HQ1.out, ← HKQ1.out, ← HKQ2.out]
    rfl
  rw [← e]
  exact Sl.of_own HO8.out
end
end Go.Proofs.YtkpjhjoopdbkaaaGreatDoor
