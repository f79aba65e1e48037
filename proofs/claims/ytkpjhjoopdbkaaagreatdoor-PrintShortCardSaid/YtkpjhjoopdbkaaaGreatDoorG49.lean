/- Joined: Package print: a task. Printed by gen_prE.py. Package print: Same. Printed by gen_prJ.py. -/
import Derived.Test.YtkpjhjoopdbkaaaGreatDoorG47
import Derived.Test.YtkpjhjoopdbkaaaGreatDoorG48
namespace Go.Proofs.YtkpjhjoopdbkaaaGreatDoor
open Go.RowKit
/-- A task's text so far. -/
def accT (L : List Col) (P : List Pl) (t : Tk) (k : Nat) : ByteArray := ((clausesB L P t).take k).foldl (fun s c => s ++ clauseB c) ((⟨#[116, 97, 115, 107, 32]⟩ : ByteArray) ++ t.name ++ ⟨#[32, 123]⟩)
theorem accT_zero (L : List Col) (P : List Pl) (t : Tk) : ((⟨#[116, 97, 115, 107, 32]⟩ : ByteArray) ++ t.name) ++ ⟨#[32, 123]⟩ = accT L P t 0 := rfl
theorem accT_step (L : List Col) (P : List Pl) (t : Tk) {k : Nat} (h : k < (clausesB L P t).length) : accT L P t k ++ ((((⟨#[10, 9]⟩ : ByteArray) ++ (clausesB L P t).getD k ByteArray.empty)) ++ ⟨#[59]⟩) = accT L P t (k + 1) := by
  unfold accT
  rw [List.take_add_one, List.foldl_append, List.getElem?_eq_getElem h, List.getD, List.getElem?_eq_getElem h]
  rfl
theorem accT_end (L : List Col) (P : List Pl) (t : Tk) : accT L P t (clausesB L P t).length ++ ⟨#[10, 125]⟩ = taskB L P t := by
  unfold accT taskB
  rw [List.take_length]
structure ClB (L : List Col) (P : List Pl) (t : Tk) : Prop where
  len : (clausesB L P t).length ≤ 50000
  size : ∀ c ∈ clausesB L P t, c.size ≤ 20000000000
theorem lit_size (l : List UInt8) : (⟨l.toArray⟩ : ByteArray).size = l.length := by show l.toArray.size = _; simp
theorem exprB_size (names : List ByteArray) (t : Tr) : (exprB names t).size = (textT names t).length := by unfold exprB; exact lit_size _
theorem clauses_len (L : List Col) (P : List Pl) (t : Tk) : (clausesB L P t).length ≤ t.vars.length + t.ins.length + t.outs.length + t.cancel.length + 5 := by
  have e1 : (whenB t).length ≤ 1 := by unfold whenB; split <;> simp
  have e2 : (afterB t).length ≤ 1 := by unfold afterB; split <;> simp
  have e3 : (manyB t).length ≤ 1 := by unfold manyB; split <;> simp
  unfold clausesB
  have k1 := kindB_len ⟨#[106, 111, 105, 110]⟩ t.join
  have k2 := kindB_len ⟨#[115, 112, 108, 105, 116]⟩ t.split
  simp only [List.length_append, List.length_map]
  omega
theorem clauses_sz {L : List Col} {P : List Pl} {t : Tk} (E : Nat) (hI : TkI t) (vn : ∀ v ∈ t.vars, v.name.size ≤ 1000) (gt : (textT t.names t.guard).length ≤ E) (it : ∀ a ∈ t.ins, (textT t.names a.expr).length ≤ E) (ot : ∀ a ∈ t.outs, (textT t.names a.expr).length ≤ E) (hcs : ∀ k, (colB L k).size ≤ 1000) (hps : ∀ k, (plB P k).size ≤ 1000) : ∀ c ∈ clausesB L P t, c.size ≤ E + 2100 := by
  have kindB_size : ∀ (x : ByteArray) (k : Int), x.size ≤ 10 → ∀ c ∈ kindB x k, c.size ≤ E + 2100 := by
    intro x k hx c hc
    unfold kindB at hc
    split at hc
    · simp at hc
    split at hc
    · rw [List.mem_singleton] at hc; rw [hc, ByteArray.size_append]; show x.size + 4 ≤ _; omega
    split at hc
    · rw [List.mem_singleton] at hc; rw [hc, ByteArray.size_append]; show x.size + 3 ≤ _; omega
    · rw [List.mem_singleton] at hc; rw [hc, ByteArray.size_append]; show x.size + 2 ≤ _; omega
  have arc : ∀ (word : ByteArray) (a : Ar), word.size ≤ 10 → (textT t.names a.expr).length ≤ E → (arcB P t.names word a).size ≤ E + 2100 := by
    intro word a hw ha
    have := hps a.place
    unfold arcB
    rw [ByteArray.size_append, ByteArray.size_append, ByteArray.size_append, ByteArray.size_append, exprB_size]
    show word.size + (plB P a.place).size + 1 + _ + 1 ≤ _
    omega
  intro c hc
  unfold clausesB at hc
  simp only [List.mem_append] at hc
  rcases hc with (((((((hc | hc) | hc) | hc) | hc) | hc) | hc) | hc) | hc
  · obtain ⟨v, hv, rfl⟩ := List.mem_map.1 hc
    have := vn v hv
    have := hcs v.colour
    unfold varB
    rw [ByteArray.size_append, ByteArray.size_append, ByteArray.size_append]
    show 4 + v.name.size + 2 + _ ≤ _
    omega
  · unfold whenB at hc
    split at hc
    · simp at hc
    · rw [List.mem_singleton] at hc
      have := gt
      rw [hc, ByteArray.size_append, exprB_size]
      show 5 + _ ≤ _
      omega
  · exact kindB_size _ _ (by decide) c hc
  · exact kindB_size _ _ (by decide) c hc
  · obtain ⟨a, ha, rfl⟩ := List.mem_map.1 hc
    exact arc _ a (by decide) (it a ha)
  · obtain ⟨a, ha, rfl⟩ := List.mem_map.1 hc
    exact arc _ a (by decide) (ot a ha)
  · obtain ⟨k, _, rfl⟩ := List.mem_map.1 hc
    have := hps k
    unfold cancelB
    rw [ByteArray.size_append]
    show 7 + _ ≤ _
    omega
  · unfold afterB at hc
    split at hc
    · simp at hc
    · rw [List.mem_singleton] at hc
      have := itoaB_size hI.after
      rw [hc, ByteArray.size_append]
      show 6 + _ ≤ _
      omega
  · unfold manyB at hc
    split at hc
    · simp at hc
    · rw [List.mem_singleton] at hc
      have := join3_size hI.m0 hI.m1 hI.m2
      rw [hc, ByteArray.size_append]
      show 5 + _ ≤ _
      omega
theorem clauses_bd {L : List Col} {P : List Pl} {t : Tk} (hI : TkI t) (hB : TkBd t) (hcs : ∀ k, (colB L k).size ≤ 1000) (hps : ∀ k, (plB P k).size ≤ 1000) : ClB L P t := by
  refine ⟨?_, fun c hc => ?_⟩
  · have h := clauses_len L P t
    have h1 := hB.nv
    have h2 := hB.ni
    have h3 := hB.no
    have h4 := hB.nc
    omega
  · have h := clauses_sz 10000000000 hI hB.vn hB.gt hB.it hB.ot hcs hps c hc
    omega
theorem accT_size {L : List Col} {P : List Pl} {t : Tk} (hn : t.name.size ≤ 1000) (hc : ClB L P t) : ∀ k, k ≤ (clausesB L P t).length → (accT L P t k).size ≤ 2000 + k * 20000000010
  | 0, _ => by
    rw [← accT_zero, ByteArray.size_append, ByteArray.size_append]
    show 5 + t.name.size + 2 ≤ _
    omega
  | k + 1, h => by
    have ih := accT_size hn hc k (by omega)
    have hm : (clausesB L P t).getD k ByteArray.empty ∈ clausesB L P t := by rw [List.getD, List.getElem?_eq_getElem (by omega)]; exact List.getElem_mem _
    have := hc.size _ hm
    rw [← accT_step L P t (by omega), ByteArray.size_append, ByteArray.size_append, ByteArray.size_append]
    show (accT L P t k).size + (2 + _ + 1) ≤ _
    omega
section
variable {A1 A2 A3 : Option Addr} {n1 c1 n2 c2 n3 c3 : Nat} {N : Nt}
theorem TkS2.below {w w' : World} {t : Tk} {Av : Option Addr} {nv cv : Nat} {Ag : Option Addr} {mg cg : Nat} {Ai : Option Addr} {ni ci : Nat} {Ao : Option Addr} {no co : Nat} {Ac : Option Addr} {nc cc : Nat} (h : TkS2 w Av nv cv Ag mg cg Ai ni ci Ao no co Ac nc cc t) (hb : Below w.heap.size w w') : TkS2 w' Av nv cv Ag mg cg Ai ni ci Ao no co Ac nc cc t := ⟨h.vars.below VrAt.stays hb, h.guard.kept hb, h.ins.below ArAt.stays hb, h.outs.below ArAt.stays hb, h.cancel.below hb⟩
set_option maxRecDepth 100000 in
set_option maxHeartbeats 8000000 in
theorem pr_task (t : Tk) (Av : Option Addr) (nv cv : Nat) (Ag : Option Addr) (mg cg : Nat) (Ai : Option Addr) (ni ci : Nat) (Ao : Option Addr) (no co : Nat) (Ac : Option Addr) (nc cc : Nat) (w : World) (hT : Hid (TkS2 w Av nv cv Ag mg cg Ai ni ci Ao no co Ac nc cc t)) (hC : Hid (Cols w A1 n1 c1 N.cols)) (hP : Hid (SlOf 3 PlAt w A2 n2 c2 N.pls)) (hI : Hid (TkI t)) (hB : Hid (TkBd t)) (htab : Hid (∀ W, Below w.heap.size w W → TabT W)) (hcs : Hid (∀ k, (colB N.cols k).size ≤ 1000)) (hps : Hid (∀ k, (plB N.pls k).size ≤ 1000)) :
    Calls Tryz.prog 97 #[netV A1 n1 c1 A2 n2 c2 A3 n3 c3 N.from_ N.to_, t.val Av nv cv Ag mg cg Ai ni ci Ao no co Ac nc cc] w fun e w' => e = .returned (.string (taskB N.cols N.pls t)) ∧ Below w.heap.size w w' := by
  obtain ⟨w1, hw1⟩ : ∃ y, y = (w.alloc (.cells #[.slice A1 n1 c1, .slice A2 n2 c2, .slice A3 n3 c3, .int .i64 N.from_, .int .i64 N.to_] 101)).alloc (.cells #[.string t.name, .slice Av nv cv, .int .i64 t.guard.kind, .int .i64 t.guard.num, .slice Ag mg cg, .int .i64 t.join, .int .i64 t.split, .slice Ai ni ci, .slice Ao no co, .slice Ac nc cc, .int .i64 t.after, .int .i64 t.m0, .int .i64 t.m1, .int .i64 t.m2] 59) := ⟨_, rfl⟩
  have HB1 := Lib.hid (show Below w.heap.size w w1 by rw [hw1]; exact below_then (alrB w _) (alrB _ _))
  have hsz : (w.alloc (.cells #[.slice A1 n1 c1, .slice A2 n2 c2, .slice A3 n3 c3, .int .i64 N.from_, .int .i64 N.to_] 101)).heap.size = w.heap.size + 1 := World.size_alloc _ _
  have RA := Lib.hid (show w1.heap[w.heap.size]? = some (.cells #[.slice A1 n1 c1, .slice A2 n2 c2, .slice A3 n3 c3, .int .i64 N.from_, .int .i64 N.to_] 101 (0, 0)) by rw [hw1]; exact row_alloc (heap_alloc_new w _) _)
  have RB := Lib.hid (show w1.heap[w.heap.size + 1]? = some (.cells #[.string t.name, .slice Av nv cv, .int .i64 t.guard.kind, .int .i64 t.guard.num, .slice Ag mg cg, .int .i64 t.join, .int .i64 t.split, .slice Ai ni ci, .slice Ao no co, .slice Ac nc cc, .int .i64 t.after, .int .i64 t.m0, .int .i64 t.m1, .int .i64 t.m2] 59 (0, 0)) by rw [hw1, ← hsz]; exact heap_alloc_new _ _)
  have HW := Lib.hid hw1.symm
  obtain ⟨g, hg⟩ : ∃ y, y = w.heap.size := ⟨_, rfl⟩
  have HG := Lib.hid hg.symm
  rw [← hg] at RA RB
  have HC := Lib.hid (show ∀ W, Below w1.heap.size w1 W → W.cell? ⟨g, 0, none⟩ = some (.slice A1 n1 c1) ∧ W.cell? ⟨g, 1, none⟩ = some (.slice A2 n2 c2) ∧ W.cell? ⟨g, 2, none⟩ = some (.slice A3 n3 c3) ∧ W.cell? ⟨g, 3, none⟩ = some (.int .i64 N.from_) ∧ W.cell? ⟨g, 4, none⟩ = some (.int .i64 N.to_) ∧ W.cell? ⟨g + 1, 0, none⟩ = some (.string t.name) ∧ W.cell? ⟨g + 1, 1, none⟩ = some (.slice Av nv cv) ∧ W.cell? ⟨g + 1, 2, none⟩ = some (.int .i64 t.guard.kind) ∧ W.cell? ⟨g + 1, 3, none⟩ = some (.int .i64 t.guard.num) ∧ W.cell? ⟨g + 1, 4, none⟩ = some (.slice Ag mg cg) ∧ W.cell? ⟨g + 1, 5, none⟩ = some (.int .i64 t.join) ∧ W.cell? ⟨g + 1, 6, none⟩ = some (.int .i64 t.split) ∧ W.cell? ⟨g + 1, 7, none⟩ = some (.slice Ai ni ci) ∧ W.cell? ⟨g + 1, 8, none⟩ = some (.slice Ao no co) ∧ W.cell? ⟨g + 1, 9, none⟩ = some (.slice Ac nc cc) ∧ W.cell? ⟨g + 1, 10, none⟩ = some (.int .i64 t.after) ∧ W.cell? ⟨g + 1, 11, none⟩ = some (.int .i64 t.m0) ∧ W.cell? ⟨g + 1, 12, none⟩ = some (.int .i64 t.m1) ∧ W.cell? ⟨g + 1, 13, none⟩ = some (.int .i64 t.m2) from fun W h => ⟨row_cell (row_below RA.out h) 0 _ rfl, row_cell (row_below RA.out h) 1 _ rfl, row_cell (row_below RA.out h) 2 _ rfl, row_cell (row_below RA.out h) 3 _ rfl, row_cell (row_below RA.out h) 4 _ rfl, row_cell (row_below RB.out h) 0 _ rfl, row_cell (row_below RB.out h) 1 _ rfl, row_cell (row_below RB.out h) 2 _ rfl, row_cell (row_below RB.out h) 3 _ rfl, row_cell (row_below RB.out h) 4 _ rfl, row_cell (row_below RB.out h) 5 _ rfl, row_cell (row_below RB.out h) 6 _ rfl, row_cell (row_below RB.out h) 7 _ rfl, row_cell (row_below RB.out h) 8 _ rfl, row_cell (row_below RB.out h) 9 _ rfl, row_cell (row_below RB.out h) 10 _ rfl, row_cell (row_below RB.out h) 11 _ rfl, row_cell (row_below RB.out h) 12 _ rfl, row_cell (row_below RB.out h) 13 _ rfl⟩)
  have BD0 := Lib.hid (below_drewN' (Below.refl w1.heap.size w1) 1)
  clear hsz hw1 hg
  have CK := Lib.hid (fun W (h : Below w1.heap.size w1 W) => pr_clauses (A1 := A1) (n1 := n1) (c1 := c1) (A2 := A2) (n2 := n2) (c2 := c2) (A3 := A3) (n3 := n3) (c3 := c3) (N := N) t Av nv cv Ag mg cg Ai ni ci Ao no co Ac nc cc W (Lib.hid (hT.out.below (below_then HB1.out h))) (Lib.hid (hC.out.below (below_then HB1.out h))) (Lib.hid (hP.out.below PlAt.stays (below_then HB1.out h))) hI hB (Lib.hid (fun V hv => htab.out V (below_then (below_then HB1.out h) hv))) hcs hps)
  have HCB := Lib.hid (clauses_bd hI.out hB.out hcs.out hps.out)
  have HE := Lib.hid (accT_end N.cols N.pls t)
  have HS := Lib.hid (fun k => accT_step N.cols N.pls t (k := k))
  have HZ := Lib.hid (fun k => accT_size (L := N.cols) (P := N.pls) (t := t) hB.out.nm HCB.out k)
  have HA0 := Lib.hid (accT_zero N.cols N.pls t)
  have HM := Lib.hid (fun k (h : k < (clausesB N.cols N.pls t).length) => HCB.out.size ((clausesB N.cols N.pls t).getD k ByteArray.empty) (by rw [List.getD, List.getElem?_eq_getElem h]; exact List.getElem_mem h))
  have HL := Lib.hid HCB.out.len
  obtain ⟨CB, hCB⟩ : ∃ l, l = clausesB N.cols N.pls t := ⟨_, rfl⟩
  obtain ⟨AC, hAC⟩ : ∃ f, f = accT N.cols N.pls t := ⟨_, rfl⟩
  rw [← hCB] at HS HZ HM HL HE
  rw [← hCB] at CK
  rw [← hAC] at HS HZ HE HA0
  clear HCB hCB hAC
  obtain ⟨z0, z1, z2, z3, z4, z5, z6, z7, z8, z9, z10, z11, z12, z13, z14, z15, z16, z17, z18⟩ := HC.out w1 (Below.refl _ _)
  have s1 := hB.out.nm
  have q0 : (9223372036854775807 < 5 + (t.name).size) = False := eq_false (by omega)
  have q1 : (9223372036854775807 < 5 + (t.name).size + 2) = False := eq_false (by omega)
  clear s1
  go_enter Tryz.func97, Tryz.ntmps97
  go_upto_region 1 with fail
  rw [HG.out, HW.out]
  go_wp2_with (go_at_call 96; refine (CK.out _ (Below.refl _ _)).mono ?_; rintro e w2 ⟨v, n, rfl, hS, hb⟩; obtain ⟨A6, c6, rfl, _, _, _⟩ := hS.form; have HS2 := Lib.hid hS; have HB2 := Lib.hid hb; clear hS hb z0 z1 z2 z3 z4 z5 z6 z7 z8 z9 z10 z11 z12 z13 z14 z15 z16 z17 z18)
  have HN := Lib.hid (show CB.length = n by have := HS2.out.len; rw [strCells_len, Nat.mul_one] at this; exact this)
  rw [HA0.out]
  go_loopg [5, 16] (n + 1) (fun f v5 v16 wr => ∃ k : Nat, k ≤ n ∧ v16 = .int .i64 k ∧ v5 = .string (AC k) ∧ n < k + f ∧ Hid (Below w2.heap.size w2 wr))
  case atStart => exact ⟨0, by omega, rfl, rfl, by omega, Lib.hid (Below.refl _ _)⟩
  case round =>
    obtain ⟨k, hk, rfl, rfl, hf, HB⟩ := hrel
    obtain ⟨f, rfl⟩ : ∃ f, gk = f + 1 := ⟨gk - 1, by omega⟩
    have hl := HL.out
    have hn := HN.out
    have hz := HZ.out k (by omega)
    have hst := HS.out k
    obtain ⟨a, ha⟩ : ∃ a, a = AC k := ⟨_, rfl⟩
    rw [← ha] at hz hst ⊢
    by_cases hlt : k < n
    · obtain ⟨b, off, rfl, c0⟩ := (HS2.out.below HB.out).str_at hlt
      have hm := HM.out k (by omega)
      have hst2 := Lib.hid (hst (by omega))
      obtain ⟨x, hx⟩ : ∃ x, x = CB.getD k ByteArray.empty := ⟨_, rfl⟩
      rw [← hx] at c0 hm hst2
      have hlt2 : (k : Int) < (n : Int) := by omega
      have hk0 : (0 : Int) ≤ (k : Int) := by omega
      have q0 : (9223372036854775807 < 2 + x.size) = False := eq_false (by omega)
      have q1 : (9223372036854775807 < 2 + x.size + 1) = False := eq_false (by omega)
      have q2 : (9223372036854775807 < a.size + (2 + x.size + 1)) = False := eq_false (by omega)
      clear hx ha hst
      go_wp2_with fail
      go_roundg f
      case measure => omega
      case rel => exact ⟨k + 1, by omega, by go_num, by rw [hst2.out], by omega, HB⟩
    · have hkn : k = n := by omega
      subst hkn
      have q0 : (9223372036854775807 < a.size + 2) = False := eq_false (by omega)
      have HA := Lib.hid ha
      clear ha hst
      go_wp2_with fail
      go_ret
      refine ⟨?_, below_then HB1.out (below_then HB2.out HB.out)⟩
      rw [HA.out, ← HE.out, HN.out]
      rfl
set_option maxRecDepth 100000 in
set_option maxHeartbeats 8000000 in
theorem pr_taskLine (t : Tk) (Av : Option Addr) (nv cv : Nat) (Ag : Option Addr) (mg cg : Nat) (Ai : Option Addr) (ni ci : Nat) (Ao : Option Addr) (no co : Nat) (Ac : Option Addr) (nc cc : Nat) (w : World) (hT : Hid (TkS2 w Av nv cv Ag mg cg Ai ni ci Ao no co Ac nc cc t)) (hC : Hid (Cols w A1 n1 c1 N.cols)) (hP : Hid (SlOf 3 PlAt w A2 n2 c2 N.pls)) (hI : Hid (TkI t)) (hB : Hid (TkBd t)) (htab : Hid (∀ W, Below w.heap.size w W → TabT W)) (hcs : Hid (∀ k, (colB N.cols k).size ≤ 1000)) (hps : Hid (∀ k, (plB N.pls k).size ≤ 1000)) :
    Calls Tryz.prog 46 #[netV A1 n1 c1 A2 n2 c2 A3 n3 c3 N.from_ N.to_, t.val Av nv cv Ag mg cg Ai ni ci Ao no co Ac nc cc] w fun e w' => e = .returned (.string (tkLine N.cols N.pls t)) ∧ Below w.heap.size w w' := by
  obtain ⟨w1, hw1⟩ : ∃ y, y = (w.alloc (.cells #[.slice A1 n1 c1, .slice A2 n2 c2, .slice A3 n3 c3, .int .i64 N.from_, .int .i64 N.to_] 101)).alloc (.cells #[.string t.name, .slice Av nv cv, .int .i64 t.guard.kind, .int .i64 t.guard.num, .slice Ag mg cg, .int .i64 t.join, .int .i64 t.split, .slice Ai ni ci, .slice Ao no co, .slice Ac nc cc, .int .i64 t.after, .int .i64 t.m0, .int .i64 t.m1, .int .i64 t.m2] 59) := ⟨_, rfl⟩
  have HB1 := Lib.hid (show Below w.heap.size w w1 by rw [hw1]; exact below_then (alrB w _) (alrB _ _))
  have hsz : (w.alloc (.cells #[.slice A1 n1 c1, .slice A2 n2 c2, .slice A3 n3 c3, .int .i64 N.from_, .int .i64 N.to_] 101)).heap.size = w.heap.size + 1 := World.size_alloc _ _
  have RA := Lib.hid (show w1.heap[w.heap.size]? = some (.cells #[.slice A1 n1 c1, .slice A2 n2 c2, .slice A3 n3 c3, .int .i64 N.from_, .int .i64 N.to_] 101 (0, 0)) by rw [hw1]; exact row_alloc (heap_alloc_new w _) _)
  have RB := Lib.hid (show w1.heap[w.heap.size + 1]? = some (.cells #[.string t.name, .slice Av nv cv, .int .i64 t.guard.kind, .int .i64 t.guard.num, .slice Ag mg cg, .int .i64 t.join, .int .i64 t.split, .slice Ai ni ci, .slice Ao no co, .slice Ac nc cc, .int .i64 t.after, .int .i64 t.m0, .int .i64 t.m1, .int .i64 t.m2] 59 (0, 0)) by rw [hw1, ← hsz]; exact heap_alloc_new _ _)
  have HW := Lib.hid hw1.symm
  obtain ⟨g, hg⟩ : ∃ y, y = w.heap.size := ⟨_, rfl⟩
  have HG := Lib.hid hg.symm
  rw [← hg] at RA RB
  have HC := Lib.hid (show ∀ W, Below w1.heap.size w1 W → W.cell? ⟨g, 0, none⟩ = some (.slice A1 n1 c1) ∧ W.cell? ⟨g, 1, none⟩ = some (.slice A2 n2 c2) ∧ W.cell? ⟨g, 2, none⟩ = some (.slice A3 n3 c3) ∧ W.cell? ⟨g, 3, none⟩ = some (.int .i64 N.from_) ∧ W.cell? ⟨g, 4, none⟩ = some (.int .i64 N.to_) ∧ W.cell? ⟨g + 1, 0, none⟩ = some (.string t.name) ∧ W.cell? ⟨g + 1, 1, none⟩ = some (.slice Av nv cv) ∧ W.cell? ⟨g + 1, 2, none⟩ = some (.int .i64 t.guard.kind) ∧ W.cell? ⟨g + 1, 3, none⟩ = some (.int .i64 t.guard.num) ∧ W.cell? ⟨g + 1, 4, none⟩ = some (.slice Ag mg cg) ∧ W.cell? ⟨g + 1, 5, none⟩ = some (.int .i64 t.join) ∧ W.cell? ⟨g + 1, 6, none⟩ = some (.int .i64 t.split) ∧ W.cell? ⟨g + 1, 7, none⟩ = some (.slice Ai ni ci) ∧ W.cell? ⟨g + 1, 8, none⟩ = some (.slice Ao no co) ∧ W.cell? ⟨g + 1, 9, none⟩ = some (.slice Ac nc cc) ∧ W.cell? ⟨g + 1, 10, none⟩ = some (.int .i64 t.after) ∧ W.cell? ⟨g + 1, 11, none⟩ = some (.int .i64 t.m0) ∧ W.cell? ⟨g + 1, 12, none⟩ = some (.int .i64 t.m1) ∧ W.cell? ⟨g + 1, 13, none⟩ = some (.int .i64 t.m2) from fun W h => ⟨row_cell (row_below RA.out h) 0 _ rfl, row_cell (row_below RA.out h) 1 _ rfl, row_cell (row_below RA.out h) 2 _ rfl, row_cell (row_below RA.out h) 3 _ rfl, row_cell (row_below RA.out h) 4 _ rfl, row_cell (row_below RB.out h) 0 _ rfl, row_cell (row_below RB.out h) 1 _ rfl, row_cell (row_below RB.out h) 2 _ rfl, row_cell (row_below RB.out h) 3 _ rfl, row_cell (row_below RB.out h) 4 _ rfl, row_cell (row_below RB.out h) 5 _ rfl, row_cell (row_below RB.out h) 6 _ rfl, row_cell (row_below RB.out h) 7 _ rfl, row_cell (row_below RB.out h) 8 _ rfl, row_cell (row_below RB.out h) 9 _ rfl, row_cell (row_below RB.out h) 10 _ rfl, row_cell (row_below RB.out h) 11 _ rfl, row_cell (row_below RB.out h) 12 _ rfl, row_cell (row_below RB.out h) 13 _ rfl⟩)
  have BD0 := Lib.hid (below_drewN' (Below.refl w1.heap.size w1) 1)
  clear hsz hw1 hg
  have CK := Lib.hid (fun W (h : Below w1.heap.size w1 W) => pr_task (A1 := A1) (n1 := n1) (c1 := c1) (A2 := A2) (n2 := n2) (c2 := c2) (A3 := A3) (n3 := n3) (c3 := c3) (N := N) t Av nv cv Ag mg cg Ai ni ci Ao no co Ac nc cc W (Lib.hid (hT.out.below (below_then HB1.out h))) (Lib.hid (hC.out.below (below_then HB1.out h))) (Lib.hid (hP.out.below PlAt.stays (below_then HB1.out h))) hI hB (Lib.hid (fun V hv => htab.out V (below_then (below_then HB1.out h) hv))) hcs hps)
  have s1 : (taskB N.cols N.pls t).size ≤ 2000 + 50000 * 20000000010 + 2 := by
    have hcb := clauses_bd (L := N.cols) (P := N.pls) hI.out hB.out hcs.out hps.out
    have h1 := accT_size (L := N.cols) (P := N.pls) (t := t) hB.out.nm hcb _ (Nat.le_refl _)
    have h2 := hcb.len
    rw [← accT_end, ByteArray.size_append]
    show _ + 2 ≤ _
    omega
  obtain ⟨z0, z1, z2, z3, z4, z5, z6, z7, z8, z9, z10, z11, z12, z13, z14, z15, z16, z17, z18⟩ := HC.out w1 (Below.refl _ _)
  have q0 : (9223372036854775807 < (taskB N.cols N.pls t).size + 1) = False := eq_false (by omega)
  clear s1
  go_enter Tryz.func46, Tryz.ntmps46
  go_upto_region 1 with fail
  rw [HG.out, HW.out]
  go_wp2_with (go_at_call 97; refine (CK.out _ (Below.refl _ _)).mono ?_; rintro e w2 ⟨rfl, hb⟩; have HB2 := Lib.hid hb; clear hb z0 z1 z2 z3 z4 z5 z6 z7 z8 z9 z10 z11 z12 z13 z14 z15 z16 z17 z18)
  go_ret
  exact ⟨rfl, below_then HB1.out HB2.out⟩
end
end Go.Proofs.YtkpjhjoopdbkaaaGreatDoor
namespace Go.Proofs.YtkpjhjoopdbkaaaGreatDoor
open Go.RowKit
set_option maxRecDepth 100000 in
set_option maxHeartbeats 4000000 in
theorem sl_EqualFunc_tk (A B : Option Addr) (n m c d : Nat) (la lb : List Tk) (w : World) (hA : Hid (SlOf 14 TkAt w A n c la)) (hB : Hid (SlOf 14 TkAt w B m d lb)) :
    Calls Tryz.prog 53 #[.slice A n c, .slice B m d, .func (.func 54) #[] #[]] w (EqAns (la = lb) w) := by
  have hla := Lib.hid (show la.length = n by exact hA.out.len.1)
  have hlb := Lib.hid (show lb.length = m by exact hB.out.len.1)
  have hn := Lib.hid (show n ≤ 9223372036854775807 by have := hA.out.len; omega)
  by_cases hnm : n = m
  · subst hnm
    go_enter Tryz.func53, Tryz.ntmps53
    go_wp2
    go_loopw [17] (fun v wr => ∃ (k : Nat), k ≤ n ∧ v = .int .i64 (k : Int) ∧ Hid (Below w.heap.size w wr) ∧ Hid (∀ j, j < k → la.getD j default = lb.getD j default)) (fun v _ => n - (RowKit.intOf v).toNat)
    case atStart => exact ⟨0, by omega, rfl, Lib.hid (Below.refl _ _), fun j hj => by omega⟩
    case round =>
      obtain ⟨k, hk, rfl, HB, hj⟩ := hrel
      have hn9 := hn.out
      by_cases hlt : k < n
      · obtain ⟨b1, o1, rfl, Avx, nvx, cvx, Agx, mgx, cgx, Aix, nix, cix, Aox, nox, cox, Acx, ncx, ccx, P⟩ := (hA.out.below TkAt.stays HB.out).at_ hlt
        obtain ⟨b2, o2, rfl, Avy, nvy, cvy, Agy, mgy, cgy, Aiy, niy, ciy, Aoy, noy, coy, Acy, ncy, ccy, Q⟩ := (hB.out.below TkAt.stays HB.out).at_ hlt
        obtain ⟨x, hx⟩ : ∃ x, x = la.getD k default := ⟨_, rfl⟩
        obtain ⟨y, hy⟩ : ∃ y, y = lb.getD k default := ⟨_, rfl⟩
        rw [← hx] at P
        rw [← hy] at Q
        have HX := Lib.hid hx
        have HY := Lib.hid hy
        have hlt2 : (k : Int) < (n : Int) := by omega
        have hk0 : (0 : Int) ≤ (k : Int) := by omega
        have h1 := alrB wr (.cells #[.string x.name, .slice Avx nvx cvx, .int .i64 x.guard.kind, .int .i64 x.guard.num, .slice Agx mgx cgx, .int .i64 x.join, .int .i64 x.split, .slice Aix nix cix, .slice Aox nox cox, .slice Acx ncx ccx, .int .i64 x.after, .int .i64 x.m0, .int .i64 x.m1, .int .i64 x.m2] 59)
        have h2 := below_then h1 (alrB _ (.cells #[.string y.name, .slice Avy nvy cvy, .int .i64 y.guard.kind, .int .i64 y.guard.num, .slice Agy mgy cgy, .int .i64 y.join, .int .i64 y.split, .slice Aiy niy ciy, .slice Aoy noy coy, .slice Acy ncy ccy, .int .i64 y.after, .int .i64 y.m0, .int .i64 y.m1, .int .i64 y.m2] 59))
        have cx := pr_sameTask x y Avx nvx cvx Agx mgx cgx Aix nix cix Aox nox cox Acx ncx ccx Avy nvy cvy Agy mgy cgy Aiy niy ciy Aoy noy coy Acy ncy ccy _ (Lib.hid (TkS2.below ⟨P.vars, P.guard, P.ins, P.outs, P.cancel⟩ h2)) (Lib.hid (TkS2.below ⟨Q.vars, Q.guard, Q.ins, Q.outs, Q.cancel⟩ h2))
        have HB2 := Lib.hid (below_then HB.out h2)
        have c0 := P.c0
        have c1 := P.c1
        have c2 := P.c2
        have c3 := P.c3
        have c4 := P.c4
        have c5 := P.c5
        have c6 := P.c6
        have c7 := P.c7
        have c8 := P.c8
        have c9 := P.c9
        have c10 := P.c10
        have c11 := P.c11
        have c12 := P.c12
        have c13 := P.c13
        have e0 := cell_kept h1 Q.c0
        have e1 := cell_kept h1 Q.c1
        have e2 := cell_kept h1 Q.c2
        have e3 := cell_kept h1 Q.c3
        have e4 := cell_kept h1 Q.c4
        have e5 := cell_kept h1 Q.c5
        have e6 := cell_kept h1 Q.c6
        have e7 := cell_kept h1 Q.c7
        have e8 := cell_kept h1 Q.c8
        have e9 := cell_kept h1 Q.c9
        have e10 := cell_kept h1 Q.c10
        have e11 := cell_kept h1 Q.c11
        have e12 := cell_kept h1 Q.c12
        have e13 := cell_kept h1 Q.c13
        clear hx hy P Q h1 h2
        by_cases h : x = y
        · have CX := Lib.hid (cx.mono fun _ _ q => EqAns.of_yes h q)
          have HE := Lib.hid h
          clear h cx
          go_wp2_with (go_at_call 54; refine CX.out.mono ?_; rintro e w5 ⟨rfl, hb5⟩; have HB5 := Lib.hid (below_then HB2.out hb5); clear hb5)
          go_roundw
          case rel =>
            refine ⟨k + 1, by omega, by go_num, HB5, fun j hj2 => ?_⟩
            by_cases e : j = k
            · rw [e, ← HX.out, ← HY.out]; exact HE.out
            · exact hj.out j (by omega)
          case measure => simp [RowKit.intOf]; omega
        · have CX := Lib.hid (cx.mono fun _ _ q => EqAns.of_no h q)
          have HE := Lib.hid h
          clear h cx
          go_wp2_with (go_at_call 54; refine CX.out.mono ?_; rintro e w5 ⟨rfl, hb5⟩; have HB5 := Lib.hid (below_then HB2.out hb5); clear hb5)
          go_ret
          exact EqAns.no (fun e => HE.out (by rw [HX.out, HY.out, e])) rfl HB5.out
      · have HK := Lib.hid (show k = n by omega)
        go_wp2
        go_ret
        exact EqAns.yes (eq_of_getD default (by rw [hla.out, hlb.out]) fun j h => hj.out j (by rw [hla.out] at h; have := HK.out; omega)) rfl HB.out
  · have HN := Lib.hid hnm
    have d1 : ((n : Int) != (m : Int)) = true := by simp; omega
    clear hnm
    go_enter Tryz.func53, Tryz.ntmps53
    go_wp2
    go_ret
    exact EqAns.no (fun e => HN.out (by rw [← hla.out, ← hlb.out, e])) rfl (Below.refl _ _)
set_option maxRecDepth 100000 in
set_option maxHeartbeats 16000000 in
/-- Whether two nets are alike. -/
theorem pr_Same (X Y : Nt) (P1 : Option Addr) (Pn1 Pc1 : Nat) (P2 : Option Addr) (Pn2 Pc2 : Nat) (P3 : Option Addr) (Pn3 Pc3 : Nat) (Q1 : Option Addr) (Qn1 Qc1 : Nat) (Q2 : Option Addr) (Qn2 Qc2 : Nat) (Q3 : Option Addr) (Qn3 Qc3 : Nat) (w : World) (ha : Hid (NetAt w P1 Pn1 Pc1 P2 Pn2 Pc2 P3 Pn3 Pc3 X)) (hb : Hid (NetAt w Q1 Qn1 Qc1 Q2 Qn2 Qc2 Q3 Qn3 Qc3 Y)) :
    Calls Tryz.prog 23 #[netV P1 Pn1 Pc1 P2 Pn2 Pc2 P3 Pn3 Pc3 X.from_ X.to_, netV Q1 Qn1 Qc1 Q2 Qn2 Qc2 Q3 Qn3 Qc3 Y.from_ Y.to_] w (EqAns (X = Y) w) := by
  obtain ⟨w1, hw1⟩ : ∃ Z, Z = (w.alloc (.cells #[.slice P1 Pn1 Pc1, .slice P2 Pn2 Pc2, .slice P3 Pn3 Pc3, .int .i64 X.from_, .int .i64 X.to_] 39)).alloc (.cells #[.slice Q1 Qn1 Qc1, .slice Q2 Qn2 Qc2, .slice Q3 Qn3 Qc3, .int .i64 Y.from_, .int .i64 Y.to_] 39) := ⟨_, rfl⟩
  have HB1 := Lib.hid (show Below w.heap.size w w1 by rw [hw1]; exact below_then (alrB w _) (alrB _ _))
  have hsz : (w.alloc (.cells #[.slice P1 Pn1 Pc1, .slice P2 Pn2 Pc2, .slice P3 Pn3 Pc3, .int .i64 X.from_, .int .i64 X.to_] 39)).heap.size = w.heap.size + 1 := World.size_alloc _ _
  have RA := Lib.hid (show w1.heap[w.heap.size]? = some (.cells #[.slice P1 Pn1 Pc1, .slice P2 Pn2 Pc2, .slice P3 Pn3 Pc3, .int .i64 X.from_, .int .i64 X.to_] 39 (0, 0)) by rw [hw1]; exact row_alloc (heap_alloc_new w _) _)
  have RB := Lib.hid (show w1.heap[w.heap.size + 1]? = some (.cells #[.slice Q1 Qn1 Qc1, .slice Q2 Qn2 Qc2, .slice Q3 Qn3 Qc3, .int .i64 Y.from_, .int .i64 Y.to_] 39 (0, 0)) by rw [hw1, ← hsz]; exact heap_alloc_new _ _)
  have HW := Lib.hid hw1.symm
  obtain ⟨g, hg⟩ : ∃ y, y = w.heap.size := ⟨_, rfl⟩
  have HG := Lib.hid hg.symm
  rw [← hg] at RA RB
  have HC := Lib.hid (show ∀ W, Below w1.heap.size w1 W → W.cell? ⟨g, 0, none⟩ = some (.slice P1 Pn1 Pc1) ∧ W.cell? ⟨g, 1, none⟩ = some (.slice P2 Pn2 Pc2) ∧ W.cell? ⟨g, 2, none⟩ = some (.slice P3 Pn3 Pc3) ∧ W.cell? ⟨g, 3, none⟩ = some (.int .i64 X.from_) ∧ W.cell? ⟨g, 4, none⟩ = some (.int .i64 X.to_) ∧ W.cell? ⟨g + 1, 0, none⟩ = some (.slice Q1 Qn1 Qc1) ∧ W.cell? ⟨g + 1, 1, none⟩ = some (.slice Q2 Qn2 Qc2) ∧ W.cell? ⟨g + 1, 2, none⟩ = some (.slice Q3 Qn3 Qc3) ∧ W.cell? ⟨g + 1, 3, none⟩ = some (.int .i64 Y.from_) ∧ W.cell? ⟨g + 1, 4, none⟩ = some (.int .i64 Y.to_) from fun W h => ⟨row_cell (row_below RA.out h) 0 _ rfl, row_cell (row_below RA.out h) 1 _ rfl, row_cell (row_below RA.out h) 2 _ rfl, row_cell (row_below RA.out h) 3 _ rfl, row_cell (row_below RA.out h) 4 _ rfl, row_cell (row_below RB.out h) 0 _ rfl, row_cell (row_below RB.out h) 1 _ rfl, row_cell (row_below RB.out h) 2 _ rfl, row_cell (row_below RB.out h) 3 _ rfl, row_cell (row_below RB.out h) 4 _ rfl⟩)
  obtain ⟨z0, z1, z2, z3, z4, z5, z6, z7, z8, z9⟩ := HC.out w1 (Below.refl _ _)
  clear hsz hw1 hg
  have D2 := Lib.hid (fun W (h : Below w1.heap.size w1 W) => sl_EqualFunc_col P1 Q1 Pn1 Qn1 Pc1 Qc1 X.cols Y.cols W (Lib.hid (ha.out.cols.below (below_then HB1.out h))) (Lib.hid (hb.out.cols.below (below_then HB1.out h))))
  have D3 := Lib.hid (fun W (h : Below w1.heap.size w1 W) => sl_EqualFunc_pl P2 Q2 Pn2 Qn2 Pc2 Qc2 X.pls Y.pls W (Lib.hid (ha.out.pls.below PlAt.stays (below_then HB1.out h))) (Lib.hid (hb.out.pls.below PlAt.stays (below_then HB1.out h))))
  have D4 := Lib.hid (fun W (h : Below w1.heap.size w1 W) => sl_EqualFunc_tk P3 Q3 Pn3 Qn3 Pc3 Qc3 X.tks Y.tks W (Lib.hid (ha.out.tks.below TkAt.stays (below_then HB1.out h))) (Lib.hid (hb.out.tks.below TkAt.stays (below_then HB1.out h))))
  by_cases h0 : X.from_ = Y.from_
  · obtain ⟨a0, b0⟩ := int_yes h0
    have H0 := Lib.hid h0
    clear h0
    by_cases h1 : X.to_ = Y.to_
    · obtain ⟨a1, b1⟩ := int_yes h1
      have H1 := Lib.hid h1
      clear h1
      by_cases h2 : X.cols = Y.cols
      · have C2 := Lib.hid (fun W hw => (D2.out W hw).mono fun _ _ q => EqAns.of_yes h2 q)
        have H2 := Lib.hid h2
        clear h2
        by_cases h3 : X.pls = Y.pls
        · have C3 := Lib.hid (fun W hw => (D3.out W hw).mono fun _ _ q => EqAns.of_yes h3 q)
          have H3 := Lib.hid h3
          clear h3
          by_cases h4 : X.tks = Y.tks
          · have C4 := Lib.hid (fun W hw => (D4.out W hw).mono fun _ _ q => EqAns.of_yes h4 q)
            have H4 := Lib.hid h4
            clear h4
            go_enter Tryz.func23, Tryz.ntmps23
            go_upto_region 1 with fail
            rw [HG.out, HW.out]
            go_wp2_with (first
              | (go_at_call 49; refine (C2.out _ (by first | exact Below.refl _ _ | exact below_drewN' (Below.refl _ _) _)).mono ?_; rintro e w4 ⟨rfl, hb⟩; have HB2 := Lib.hid (below_then (show Below w1.heap.size w1 _ from (by first | exact Below.refl _ _ | exact below_drewN' (Below.refl _ _) _)) hb); clear hb z0 z1 z2 z3 z4 z5 z6 z7 z8 z9; obtain ⟨z0, z1, z2, z3, z4, z5, z6, z7, z8, z9⟩ := HC.out _ HB2.out)
              | (go_at_call 51; refine (C3.out _ HB2.out).mono ?_; rintro e w5 ⟨rfl, hb⟩; have HB3 := Lib.hid (below_then (show Below w1.heap.size w1 _ from HB2.out) hb); clear hb z0 z1 z2 z3 z4 z5 z6 z7 z8 z9; obtain ⟨z0, z1, z2, z3, z4, z5, z6, z7, z8, z9⟩ := HC.out _ HB3.out)
              | (go_at_call 53; refine (C4.out _ HB3.out).mono ?_; rintro e w6 ⟨rfl, hb⟩; have HB4 := Lib.hid (below_then (show Below w1.heap.size w1 _ from HB3.out) hb); clear hb z0 z1 z2 z3 z4 z5 z6 z7 z8 z9; obtain ⟨z0, z1, z2, z3, z4, z5, z6, z7, z8, z9⟩ := HC.out _ HB4.out))
            go_ret
            exact EqAns.yes (by obtain ⟨_, _, _, _, _⟩ := X; obtain ⟨_, _, _, _, _⟩ := Y; have e0 := H0.out; have e1 := H1.out; have e2 := H2.out; have e3 := H3.out; have e4 := H4.out; simp only at e0 e1 e2 e3 e4; rw [e0, e1, e2, e3, e4]) rfl (below_then HB1.out HB4.out)
          · have C4 := Lib.hid (fun W hw => (D4.out W hw).mono fun _ _ q => EqAns.of_no h4 q)
            have H4 := Lib.hid h4
            clear h4
            go_enter Tryz.func23, Tryz.ntmps23
            go_upto_region 1 with fail
            rw [HG.out, HW.out]
            go_wp2_with (first
              | (go_at_call 49; refine (C2.out _ (by first | exact Below.refl _ _ | exact below_drewN' (Below.refl _ _) _)).mono ?_; rintro e w4 ⟨rfl, hb⟩; have HB2 := Lib.hid (below_then (show Below w1.heap.size w1 _ from (by first | exact Below.refl _ _ | exact below_drewN' (Below.refl _ _) _)) hb); clear hb z0 z1 z2 z3 z4 z5 z6 z7 z8 z9; obtain ⟨z0, z1, z2, z3, z4, z5, z6, z7, z8, z9⟩ := HC.out _ HB2.out)
              | (go_at_call 51; refine (C3.out _ HB2.out).mono ?_; rintro e w5 ⟨rfl, hb⟩; have HB3 := Lib.hid (below_then (show Below w1.heap.size w1 _ from HB2.out) hb); clear hb z0 z1 z2 z3 z4 z5 z6 z7 z8 z9; obtain ⟨z0, z1, z2, z3, z4, z5, z6, z7, z8, z9⟩ := HC.out _ HB3.out)
              | (go_at_call 53; refine (C4.out _ HB3.out).mono ?_; rintro e w6 ⟨rfl, hb⟩; have HB4 := Lib.hid (below_then (show Below w1.heap.size w1 _ from HB3.out) hb); clear hb z0 z1 z2 z3 z4 z5 z6 z7 z8 z9; obtain ⟨z0, z1, z2, z3, z4, z5, z6, z7, z8, z9⟩ := HC.out _ HB4.out))
            go_ret
            exact EqAns.no (fun e => H4.out (by rw [e])) rfl (below_then HB1.out HB4.out)
        · have C3 := Lib.hid (fun W hw => (D3.out W hw).mono fun _ _ q => EqAns.of_no h3 q)
          have H3 := Lib.hid h3
          clear h3
          go_enter Tryz.func23, Tryz.ntmps23
          go_upto_region 1 with fail
          rw [HG.out, HW.out]
          go_wp2_with (first
            | (go_at_call 49; refine (C2.out _ (by first | exact Below.refl _ _ | exact below_drewN' (Below.refl _ _) _)).mono ?_; rintro e w4 ⟨rfl, hb⟩; have HB2 := Lib.hid (below_then (show Below w1.heap.size w1 _ from (by first | exact Below.refl _ _ | exact below_drewN' (Below.refl _ _) _)) hb); clear hb z0 z1 z2 z3 z4 z5 z6 z7 z8 z9; obtain ⟨z0, z1, z2, z3, z4, z5, z6, z7, z8, z9⟩ := HC.out _ HB2.out)
            | (go_at_call 51; refine (C3.out _ HB2.out).mono ?_; rintro e w5 ⟨rfl, hb⟩; have HB3 := Lib.hid (below_then (show Below w1.heap.size w1 _ from HB2.out) hb); clear hb z0 z1 z2 z3 z4 z5 z6 z7 z8 z9; obtain ⟨z0, z1, z2, z3, z4, z5, z6, z7, z8, z9⟩ := HC.out _ HB3.out))
          go_ret
          exact EqAns.no (fun e => H3.out (by rw [e])) rfl (below_then HB1.out HB3.out)
      · have C2 := Lib.hid (fun W hw => (D2.out W hw).mono fun _ _ q => EqAns.of_no h2 q)
        have H2 := Lib.hid h2
        clear h2
        go_enter Tryz.func23, Tryz.ntmps23
        go_upto_region 1 with fail
        rw [HG.out, HW.out]
        go_wp2_with (first
          | (go_at_call 49; refine (C2.out _ (by first | exact Below.refl _ _ | exact below_drewN' (Below.refl _ _) _)).mono ?_; rintro e w4 ⟨rfl, hb⟩; have HB2 := Lib.hid (below_then (show Below w1.heap.size w1 _ from (by first | exact Below.refl _ _ | exact below_drewN' (Below.refl _ _) _)) hb); clear hb z0 z1 z2 z3 z4 z5 z6 z7 z8 z9; obtain ⟨z0, z1, z2, z3, z4, z5, z6, z7, z8, z9⟩ := HC.out _ HB2.out))
        go_ret
        exact EqAns.no (fun e => H2.out (by rw [e])) rfl (below_then HB1.out HB2.out)
    · obtain ⟨a1, b1⟩ := int_no h1
      have H1 := Lib.hid h1
      clear h1
      go_enter Tryz.func23, Tryz.ntmps23
      go_upto_region 1 with fail
      rw [HG.out, HW.out]
      go_wp2_with fail
      go_ret
      exact EqAns.no (fun e => H1.out (by rw [e])) rfl HB1.out
  · obtain ⟨a0, b0⟩ := int_no h0
    have H0 := Lib.hid h0
    clear h0
    go_enter Tryz.func23, Tryz.ntmps23
    go_upto_region 1 with fail
    rw [HG.out, HW.out]
    go_wp2_with fail
    go_ret
    exact EqAns.no (fun e => H0.out (by rw [e])) rfl HB1.out
end Go.Proofs.YtkpjhjoopdbkaaaGreatDoor
