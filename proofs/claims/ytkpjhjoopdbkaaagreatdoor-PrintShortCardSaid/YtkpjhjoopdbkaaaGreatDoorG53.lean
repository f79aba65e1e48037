/- Joined: Package print: Text. Printed by gen_prF.py. -/
import Derived.Test.YtkpjhjoopdbkaaaGreatDoorG49
import Derived.Test.YtkpjhjoopdbkaaaGreatDoorG52
namespace Go.Proofs.YtkpjhjoopdbkaaaGreatDoor
open Go.RowKit
theorem BdAt.below {w w' : World} {B b : Nat} {p v : Value} {l : List UInt8} (h : BdAt w B b p l v) (hb : Below w.heap.size w w') : BdAt w' B b p l v :=
  ⟨h.ge, row_below h.hb hb, own_below h.own hb, h.ne, h.nil_⟩
theorem Bk.of_below {B b : Nat} {w w' : World} (h : Below w.heap.size w w') (hB : B ≤ w.heap.size) : Bk B b w w' :=
  ⟨h.mono hB, fun k hk _ _ => h.block k hk⟩
/-- What a net may hold that is written. -/
structure NtBd (N : Nt) : Prop where
  cn : ∀ c ∈ N.cols, c.names.length ≤ 1000000 ∧ (joinB c.names).size ≤ 1000000000 ∧ c.name.size ≤ 1000 ∧ (membersB N.cols c).size ≤ 10000000000
  pn : ∀ p ∈ N.pls, p.first.length ≤ 1000000 ∧ (joinB (p.first.map pairB)).size ≤ 1000000000 ∧ p.name.size ≤ 1000 ∧ (firstB p).size ≤ 10000000000
  tk : ∀ t ∈ N.tks, TkBd t
  cs : ∀ k, (colB N.cols k).size ≤ 1000
  ps : ∀ k, (plB N.pls k).size ≤ 1000
  all : (textN' N).length ≤ 140000000000000
def preC (N : Nt) (k : Nat) : List UInt8 := ((N.cols.take k).map fun c => (colLine N.cols c).data.toList).flatten
def preP (N : Nt) (k : Nat) : List UInt8 := preC N N.cols.length ++ ((N.pls.take k).map fun p => (plLine N.cols p).data.toList).flatten
def preT (N : Nt) (k : Nat) : List UInt8 := preP N N.pls.length ++ ((N.tks.take k).map fun t => (tkLine N.cols N.pls t).data.toList).flatten
theorem flat_step {α : Type} [Inhabited α] (f : α → List UInt8) (l : List α) {k : Nat} (h : k < l.length) : ((l.take k).map f).flatten ++ f (l.getD k default) = ((l.take (k + 1)).map f).flatten := by
  rw [List.take_add_one, List.getElem?_eq_getElem h, List.map_append, List.flatten_append, List.getD, List.getElem?_eq_getElem h]
  simp
theorem flat_le {α : Type} (f : α → List UInt8) (l : List α) (k : Nat) : ((l.take k).map f).flatten.length ≤ (l.map f).flatten.length := by
  have e : (l.map f).flatten = ((l.take k).map f).flatten ++ ((l.drop k).map f).flatten := by
    rw [← List.flatten_append, ← List.map_append, List.take_append_drop]
  rw [e, List.length_append]; omega
theorem pre_end (N : Nt) : preT N N.tks.length ++ (endLine N).data.toList = textN' N := by
  unfold preT preP preC textN'
  rw [List.take_length, List.take_length, List.take_length]
theorem pre_le (N : Nt) (hT : (textN' N).length ≤ 140000000000000) : (∀ k, (preC N k).length ≤ 140000000000000) ∧ (∀ k, (preP N k).length ≤ 140000000000000) ∧ (∀ k, (preT N k).length ≤ 140000000000000) ∧ (preT N N.tks.length).length + (endLine N).size ≤ 140000000000000 := by
  have e := congrArg List.length (pre_end N)
  rw [List.length_append] at e
  have t1 : ∀ k, (preT N k).length ≤ (preT N N.tks.length).length := fun k => by
    unfold preT
    rw [List.take_length, List.length_append, List.length_append]
    have := flat_le (fun t => (tkLine N.cols N.pls t).data.toList) N.tks k
    omega
  have p1 : ∀ k, (preP N k).length ≤ (preP N N.pls.length).length := fun k => by
    unfold preP
    rw [List.take_length, List.length_append, List.length_append]
    have := flat_le (fun p => (plLine N.cols p).data.toList) N.pls k
    omega
  have c1 : ∀ k, (preC N k).length ≤ (preC N N.cols.length).length := fun k => by
    unfold preC
    rw [List.take_length]
    exact flat_le (fun c => (colLine N.cols c).data.toList) N.cols k
  have p2 : (preC N N.cols.length).length ≤ (preP N N.pls.length).length := by unfold preP; rw [List.length_append]; omega
  have t2 : (preP N N.pls.length).length ≤ (preT N N.tks.length).length := by unfold preT; rw [List.length_append]; omega
  have s1 : (endLine N).data.toList.length = (endLine N).size := by simp
  refine ⟨fun k => ?_, fun k => ?_, fun k => ?_, by omega⟩
  · have := c1 k; omega
  · have := p1 k; omega
  · have := t1 k; omega
theorem pre_steps (N : Nt) : (∀ k, k < N.cols.length → preC N k ++ (colLine N.cols (N.cols.getD k default)).data.toList = preC N (k + 1)) ∧ (∀ k, k < N.pls.length → preP N k ++ (plLine N.cols (N.pls.getD k default)).data.toList = preP N (k + 1)) ∧ (∀ k, k < N.tks.length → preT N k ++ (tkLine N.cols N.pls (N.tks.getD k default)).data.toList = preT N (k + 1)) := by
  refine ⟨fun k h => flat_step _ _ h, fun k h => ?_, fun k h => ?_⟩
  · unfold preP; rw [List.append_assoc, flat_step (fun p => (plLine N.cols p).data.toList) _ h]
  · unfold preT; rw [List.append_assoc, flat_step (fun t => (tkLine N.cols N.pls t).data.toList) _ h]
theorem pre_zero (N : Nt) : preC N 0 = [] ∧ preP N 0 = preC N N.cols.length ∧ preT N 0 = preP N N.pls.length := by
  refine ⟨rfl, ?_, ?_⟩
  · unfold preP; simp
  · unfold preT; simp
theorem size_list (x : ByteArray) : x.data.toList.length = x.size := by simp
theorem below_of {w w3 W : World} {B : Nat} (h : Below w.heap.size w w3) (k : Below B w3 W) (e : w.heap.size = B) : Below w.heap.size w W := by rw [e] at h ⊢; exact h.trans k
section
variable {A1 A2 A3 : Option Addr} {n1 c1 n2 c2 n3 c3 : Nat} {N : Nt}
set_option maxRecDepth 100000 in
set_option maxHeartbeats 16000000 in
theorem pr_Text (w : World) (hN : Hid (NetAt w A1 n1 c1 A2 n2 c2 A3 n3 c3 N)) (HBN : Hid (NtBd N)) (htab : Hid (∀ W, Below w.heap.size w W → TabT W)) :
    Calls Tryz.prog 22 #[netV A1 n1 c1 A2 n2 c2 A3 n3 c3 N.from_ N.to_] w fun e w' => e = .returned (.string (netB N)) ∧ Below w.heap.size w w' := by
  obtain ⟨B, hB⟩ : ∃ y, y = w.heap.size := ⟨_, rfl⟩
  obtain ⟨w3, hw3⟩ : ∃ y, y = ((w.alloc (.cells #[.slice A1 n1 c1, .slice A2 n2 c2, .slice A3 n3 c3, .int .i64 N.from_, .int .i64 N.to_] 39)).alloc (.cells #[.slice A1 n1 c1, .slice A2 n2 c2, .slice A3 n3 c3, .int .i64 N.from_, .int .i64 N.to_] 101)).alloc (.cells #[.pointer none, .slice none 0 0] 90) := ⟨_, rfl⟩
  have e1 : (w.alloc (.cells #[.slice A1 n1 c1, .slice A2 n2 c2, .slice A3 n3 c3, .int .i64 N.from_, .int .i64 N.to_] 39)).heap.size = w.heap.size + 1 := World.size_alloc _ _
  have e2 : ((w.alloc (.cells #[.slice A1 n1 c1, .slice A2 n2 c2, .slice A3 n3 c3, .int .i64 N.from_, .int .i64 N.to_] 39)).alloc (.cells #[.slice A1 n1 c1, .slice A2 n2 c2, .slice A3 n3 c3, .int .i64 N.from_, .int .i64 N.to_] 101)).heap.size = w.heap.size + 2 := by rw [World.size_alloc, e1]
  have HB3 := Lib.hid (show Below w.heap.size w w3 by rw [hw3]; exact below_then (below_then (alrB w _) (alrB _ _)) (alrB _ _))
  have RA := Lib.hid (show w3.heap[w.heap.size]? = some (.cells #[.slice A1 n1 c1, .slice A2 n2 c2, .slice A3 n3 c3, .int .i64 N.from_, .int .i64 N.to_] 39 (0, 0)) by rw [hw3]; exact row_alloc (row_alloc (heap_alloc_new w _) _) _)
  have RB := Lib.hid (show w3.heap[w.heap.size + 1]? = some (.cells #[.slice A1 n1 c1, .slice A2 n2 c2, .slice A3 n3 c3, .int .i64 N.from_, .int .i64 N.to_] 101 (0, 0)) by rw [hw3, ← e1]; exact row_alloc (heap_alloc_new _ _) _)
  have RC := Lib.hid (show w3.heap[w.heap.size + 2]? = some (.cells #[.pointer none, .slice none 0 0] 90 (0, 0)) by rw [hw3, ← e2]; exact heap_alloc_new _ _)
  have HW0 := Lib.hid hw3.symm
  obtain ⟨g, hg⟩ : ∃ y, y = w.heap.size := ⟨_, rfl⟩
  have HG := Lib.hid hg.symm
  have HBE := Lib.hid hB.symm
  rw [← hg] at RA RB RC
  have HBG := Lib.hid (show B = g by rw [hB, hg])
  have HBD := Lib.hid (show BdAt w3 B (g + 2) (.pointer none) (preC N 0) (.slice none 0 0) from ⟨by have := HBG.out; omega, RC.out, World.ownsRow_nil _ _ _ _, by simp [Value.ownBlock], by simp [(pre_zero N).1]⟩)
  have HC := Lib.hid (show ∀ W, Bk B (g + 2) w3 W → W.cell? ⟨g, 0, none⟩ = some (.slice A1 n1 c1) ∧ W.cell? ⟨g, 1, none⟩ = some (.slice A2 n2 c2) ∧ W.cell? ⟨g, 2, none⟩ = some (.slice A3 n3 c3) ∧ W.cell? ⟨g, 3, none⟩ = some (.int .i64 N.from_) ∧ W.cell? ⟨g, 4, none⟩ = some (.int .i64 N.to_) ∧ W.cell? ⟨g + 1, 0, none⟩ = some (.slice A1 n1 c1) ∧ W.cell? ⟨g + 1, 1, none⟩ = some (.slice A2 n2 c2) ∧ W.cell? ⟨g + 1, 2, none⟩ = some (.slice A3 n3 c3) ∧ W.cell? ⟨g + 1, 3, none⟩ = some (.int .i64 N.from_) ∧ W.cell? ⟨g + 1, 4, none⟩ = some (.int .i64 N.to_) from fun W h => ⟨row_cell (h.box RA.out (by omega) (by decide)) 0 _ rfl, row_cell (h.box RA.out (by omega) (by decide)) 1 _ rfl, row_cell (h.box RA.out (by omega) (by decide)) 2 _ rfl, row_cell (h.box RA.out (by omega) (by decide)) 3 _ rfl, row_cell (h.box RA.out (by omega) (by decide)) 4 _ rfl, row_cell (h.box RB.out (by omega) (by decide)) 0 _ rfl, row_cell (h.box RB.out (by omega) (by decide)) 1 _ rfl, row_cell (h.box RB.out (by omega) (by decide)) 2 _ rfl, row_cell (h.box RB.out (by omega) (by decide)) 3 _ rfl, row_cell (h.box RB.out (by omega) (by decide)) 4 _ rfl⟩)
  have HPL := Lib.hid (pre_le N HBN.out.all)
  have HST := Lib.hid (pre_steps N)
  have HZ1 := Lib.hid (pre_zero N).2.1
  have HZ2 := Lib.hid (pre_zero N).2.2
  have HPE := Lib.hid (show netB N = ⟨(preT N N.tks.length ++ (endLine N).data.toList).toArray⟩ by unfold netB; rw [pre_end])
  have HL0 := Lib.hid (show N.cols.length = n1 from hN.out.cols.2.2.1)
  have HL1 := Lib.hid (show N.pls.length = n2 from hN.out.pls.len.1)
  have HL2 := Lib.hid (show N.tks.length = n3 from hN.out.tks.len.1)
  have HN1 := Lib.hid (show n1 ≤ 9223372036854775807 by have h1 := hN.out.cols.1; have h2 := hN.out.cols.2.1; omega)
  have HN2 := Lib.hid (show n2 ≤ 9223372036854775807 by have := hN.out.pls.len; omega)
  have HN3 := Lib.hid (show n3 ≤ 9223372036854775807 by have := hN.out.tks.len; omega)
  obtain ⟨z0, z1, z2, z3, z4, z5, z6, z7, z8, z9⟩ := HC.out w3 (Bk.refl _ _ _)
  clear hw3 e1 e2 hg hB
  go_enter Tryz.func22, Tryz.ntmps22
  go_upto_region 4 with fail
  rw [HG.out, HW0.out]
  go_wp2_with fail
  clear z0 z1 z2 z3 z4 z5 z6 z7 z8 z9
  go_loopg [19] (n1 + 1) (fun f v19 wr => ∃ (k : Nat) (p v : Value), k ≤ n1 ∧ v19 = .int .i64 k ∧ n1 < k + f ∧ (p = .pointer none ∨ p = selfP (g + 2)) ∧ Hid (BdAt wr B (g + 2) p (preC N k) v) ∧ Hid (Bk B (g + 2) w3 wr))
  case atStart => exact ⟨0, _, _, by omega, rfl, by omega, .inl rfl, HBD, Lib.hid (Bk.refl _ _ _)⟩
  case round =>
    obtain ⟨k, p, v, hk, rfl, hf, hp, HW, HK⟩ := hrel
    obtain ⟨f, rfl⟩ : ∃ f, gk = f + 1 := ⟨gk - 1, by omega⟩
    have HBW := Lib.hid (below_of (HB3.out) HK.out.below HBE.out)
    by_cases hlt : k < n1
    · have hlt2 : (k : Int) < (n1 : Int) := by omega
      have hn9 := HN1.out
      have hk0 : (0 : Int) ≤ (k : Int) := by omega
      have hle := HPL.out.1 k
      have hst := HST.out.1 k (by have := HL0.out; omega)
      have hmem := getD_mem (l := N.cols) (k := k) (by have := HL0.out; omega)
      obtain ⟨b1, o1, rfl, Ap, np, cp, P⟩ := (hN.out.cols.below HBW.out).at_ hlt
      have hbd := HBN.out.cn _ hmem
      obtain ⟨x, hx⟩ : ∃ x, x = N.cols.getD k default := ⟨_, rfl⟩
      rw [← hx] at P hbd hst
      have CX := Lib.hid (pr_colourLine (n1 := n1) (c1 := c1) (A2 := A2) (n2 := n2) (c2 := c2) (A3 := A3) (n3 := n3) (c3 := c3) (N := N) x Ap np cp (wr.alloc (.cells #[.string x.name, .int .i64 x.kind, .int .i64 x.lo, .int .i64 x.hi, .slice Ap np cp, .int .i64 x.first, .int .i64 x.then_] 82)) (Lib.hid ((hN.out.cols.below HBW.out).below (alrB _ _))) (Lib.hid (P.names.below (alrB _ _))) (Lib.hid P.ok.2) (Lib.hid (fun V hv => htab.out V (below_then (below_then HBW.out (alrB _ _)) hv))) (by have := P.len.1; have := hbd.1; omega) (Lib.hid hbd.2.1) (Lib.hid HBN.out.cs) (Lib.hid hbd.2.2.1) (Lib.hid hbd.2.2.2))
      have c0 := P.c0
      have c1 := P.c1
      have c2 := P.c2
      have c3 := P.c3
      have c4 := P.c4
      have c5 := P.c5
      have c6 := P.c6
      clear P hx hmem hbd

      have hle2 := HPL.out.1 (k + 1)
      rw [← hst, List.length_append, size_list] at hle2
      have HLE := Lib.hid hle2
      have HSTK := Lib.hid hst
      clear hle hle2 hst
      obtain ⟨LN, hLN⟩ : ∃ y, y = colLine N.cols x := ⟨_, rfl⟩
      rw [← hLN] at HSTK HLE CX
      clear hLN
      have HW2 := Lib.hid (HW.out.alloc (.cells #[.string x.name, .int .i64 x.kind, .int .i64 x.lo, .int .i64 x.hi, .slice Ap np cp, .int .i64 x.first, .int .i64 x.then_] 82))
      have HK2 := Lib.hid (HK.out.alloc (by have := HK.out.below.size; have := HBE.out; have := HB3.out.size; omega) (.cells #[.string x.name, .int .i64 x.kind, .int .i64 x.lo, .int .i64 x.hi, .slice Ap np cp, .int .i64 x.first, .int .i64 x.then_] 82))
      have hbox := heap_alloc_new wr (.cells #[.string x.name, .int .i64 x.kind, .int .i64 x.lo, .int .i64 x.hi, .slice Ap np cp, .int .i64 x.first, .int .i64 x.then_] 82)
      obtain ⟨z0, z1, z2, z3, z4, z5, z6, z7, z8, z9⟩ := HC.out _ HK2.out
      go_wp2_with (first
        | (go_at_call 44; refine CX.out.mono ?_; rintro e w4 ⟨rfl, hb⟩
           have HW4 := Lib.hid (HW2.out.below hb)
           have HK4 := Lib.hid (HK2.out.trans (Bk.of_below hb (by have := HK2.out.below.size; have := HBE.out; have := HB3.out.size; omega)))
           clear hb z0 z1 z2 z3 z4 z5 z6 z7 z8 z9)
        | (go_at_call 47; refine (bd_WriteString B (g + 2) p v (preC N k) LN w4 HW4 hp (by have := HK4.out.below.size; have := HBE.out; have := HB3.out.size; omega) (by have := HLE.out; omega)).mono ?_
           rintro e w5 ⟨⟨r, rfl⟩, ⟨v5, hW5⟩, hK5⟩))
      go_roundg f
      case measure => omega
      case rel => exact ⟨k + 1, _, v5, by omega, by go_num, by omega, .inr rfl, Lib.hid (by rw [← HSTK.out]; exact hW5.out), Lib.hid (HK4.out.trans hK5.out)⟩
    · have hkn : k = n1 := by omega
      have HKN := Lib.hid hkn
      clear hkn
      have HBD1 := Lib.hid (show BdAt wr B (g + 2) p (preC N N.cols.length) v by rw [HL0.out, ← HKN.out]; exact HW.out)
      obtain ⟨p1, e1⟩ : ∃ y, y = p := ⟨_, rfl⟩
      obtain ⟨u1, d1⟩ : ∃ y, y = v := ⟨_, rfl⟩
      rw [← e1, ← d1] at HBD1
      rw [← e1] at hp
      have hp1 := hp
      have HK1 := HK
      clear hp e1 d1
      obtain ⟨z0, z1, z2, z3, z4, z5, z6, z7, z8, z9⟩ := HC.out _ HK1.out
      have hge : ¬ (k : Int) < (n1 : Int) := by have := HKN.out; omega
      go_wp2_with fail
      clear z0 z1 z2 z3 z4 z5 z6 z7 z8 z9
      go_loopg [32] (n2 + 1) (fun f v32 wr => ∃ (k : Nat) (p v : Value), k ≤ n2 ∧ v32 = .int .i64 k ∧ n2 < k + f ∧ (p = .pointer none ∨ p = selfP (g + 2)) ∧ Hid (BdAt wr B (g + 2) p (preP N k) v) ∧ Hid (Bk B (g + 2) w3 wr))
      case atStart => exact ⟨0, p1, u1, by omega, rfl, by omega, hp1, Lib.hid (by rw [HZ1.out]; exact HBD1.out), HK1⟩
      case round =>
        obtain ⟨k, p, v, hk, rfl, hf, hp, HW, HK⟩ := hrel
        obtain ⟨f, rfl⟩ : ∃ f, gk = f + 1 := ⟨gk - 1, by omega⟩
        have HBW := Lib.hid (below_of (HB3.out) HK.out.below HBE.out)
        by_cases hlt : k < n2
        · have hlt2 : (k : Int) < (n2 : Int) := by omega
          have hn9 := HN2.out
          have hk0 : (0 : Int) ≤ (k : Int) := by omega
          have hle := HPL.out.2.1 k
          have hst := HST.out.2.1 k (by have := HL1.out; omega)
          have hmem := getD_mem (l := N.pls) (k := k) (by have := HL1.out; omega)
          obtain ⟨b1, o1, rfl, Ap, np, cp, P⟩ := (hN.out.pls.below PlAt.stays HBW.out).at_ hlt
          have hbd := HBN.out.pn _ hmem
          obtain ⟨x, hx⟩ : ∃ x, x = N.pls.getD k default := ⟨_, rfl⟩
          rw [← hx] at P hbd hst
          have CX := Lib.hid (pr_placeLine (A1 := A1) (n1 := n1) (c1 := c1) (A2 := some ⟨b1, o1, none⟩) (n2 := n2) (c2 := c2) (A3 := A3) (n3 := n3) (c3 := c3) (N := N) x Ap np cp (wr.alloc (.cells #[.string x.name, .int .i64 x.colour, .slice Ap np cp] 66)) (Lib.hid ((hN.out.cols.below HBW.out).below (alrB _ _))) (Lib.hid (P.sl.below (alrB _ _))) (Lib.hid P.i2) P.i1 (Lib.hid (fun V hv => htab.out V (below_then (below_then HBW.out (alrB _ _)) hv))) (by have h1 := P.sl.len; rw [pairCells_len] at h1; have := hbd.1; omega) (Lib.hid hbd.2.1) (Lib.hid HBN.out.cs) (Lib.hid hbd.2.2.1) (Lib.hid hbd.2.2.2))
          have c0 := P.c0
          have c1 := P.c1
          have c2 := P.c2
          clear P hx hmem hbd

          have hle2 := HPL.out.2.1 (k + 1)
          rw [← hst, List.length_append, size_list] at hle2
          have HLE := Lib.hid hle2
          have HSTK := Lib.hid hst
          clear hle hle2 hst
          obtain ⟨LN, hLN⟩ : ∃ y, y = plLine N.cols x := ⟨_, rfl⟩
          rw [← hLN] at HSTK HLE CX
          clear hLN
          have HW2 := Lib.hid (HW.out.alloc (.cells #[.string x.name, .int .i64 x.colour, .slice Ap np cp] 66))
          have HK2 := Lib.hid (HK.out.alloc (by have := HK.out.below.size; have := HBE.out; have := HB3.out.size; omega) (.cells #[.string x.name, .int .i64 x.colour, .slice Ap np cp] 66))
          have hbox := heap_alloc_new wr (.cells #[.string x.name, .int .i64 x.colour, .slice Ap np cp] 66)
          obtain ⟨z0, z1, z2, z3, z4, z5, z6, z7, z8, z9⟩ := HC.out _ HK2.out
          go_wp2_with (first
            | (go_at_call 45; refine CX.out.mono ?_; rintro e w4 ⟨rfl, hb⟩
               have HW4 := Lib.hid (HW2.out.below hb)
               have HK4 := Lib.hid (HK2.out.trans (Bk.of_below hb (by have := HK2.out.below.size; have := HBE.out; have := HB3.out.size; omega)))
               clear hb z0 z1 z2 z3 z4 z5 z6 z7 z8 z9)
            | (go_at_call 47; refine (bd_WriteString B (g + 2) p v (preP N k) LN w4 HW4 hp (by have := HK4.out.below.size; have := HBE.out; have := HB3.out.size; omega) (by have := HLE.out; omega)).mono ?_
               rintro e w5 ⟨⟨r, rfl⟩, ⟨v5, hW5⟩, hK5⟩))
          go_roundg f
          case measure => omega
          case rel => exact ⟨k + 1, _, v5, by omega, by go_num, by omega, .inr rfl, Lib.hid (by rw [← HSTK.out]; exact hW5.out), Lib.hid (HK4.out.trans hK5.out)⟩
        · have hkn : k = n2 := by omega
          have HKN := Lib.hid hkn
          clear hkn
          have HBD2 := Lib.hid (show BdAt wr B (g + 2) p (preP N N.pls.length) v by rw [HL1.out, ← HKN.out]; exact HW.out)
          obtain ⟨p2, e2⟩ : ∃ y, y = p := ⟨_, rfl⟩
          obtain ⟨u2, d2⟩ : ∃ y, y = v := ⟨_, rfl⟩
          rw [← e2, ← d2] at HBD2
          rw [← e2] at hp
          have hp2 := hp
          have HK2 := HK
          clear hp e2 d2
          obtain ⟨z0, z1, z2, z3, z4, z5, z6, z7, z8, z9⟩ := HC.out _ HK2.out
          have hge : ¬ (k : Int) < (n2 : Int) := by have := HKN.out; omega
          go_wp2_with fail
          clear z0 z1 z2 z3 z4 z5 z6 z7 z8 z9
          go_loopg [45] (n3 + 1) (fun f v45 wr => ∃ (k : Nat) (p v : Value), k ≤ n3 ∧ v45 = .int .i64 k ∧ n3 < k + f ∧ (p = .pointer none ∨ p = selfP (g + 2)) ∧ Hid (BdAt wr B (g + 2) p (preT N k) v) ∧ Hid (Bk B (g + 2) w3 wr))
          case atStart => exact ⟨0, p2, u2, by omega, rfl, by omega, hp2, Lib.hid (by rw [HZ2.out]; exact HBD2.out), HK2⟩
          case round =>
            obtain ⟨k, p, v, hk, rfl, hf, hp, HW, HK⟩ := hrel
            obtain ⟨f, rfl⟩ : ∃ f, gk = f + 1 := ⟨gk - 1, by omega⟩
            have HBW := Lib.hid (below_of (HB3.out) HK.out.below HBE.out)
            by_cases hlt : k < n3
            · have hlt2 : (k : Int) < (n3 : Int) := by omega
              have hn9 := HN3.out
              have hk0 : (0 : Int) ≤ (k : Int) := by omega
              have hle := HPL.out.2.2.1 k
              have hst := HST.out.2.2 k (by have := HL2.out; omega)
              have hmem := getD_mem (l := N.tks) (k := k) (by have := HL2.out; omega)
              obtain ⟨b1, o1, rfl, Av, nv, cv, Ag, mg, cg, Ai, ni, ci, Ao, no, co, Ac, nc, cc, P⟩ := (hN.out.tks.below TkAt.stays HBW.out).at_ hlt
              have hbd := HBN.out.tk _ hmem
              obtain ⟨x, hx⟩ : ∃ x, x = N.tks.getD k default := ⟨_, rfl⟩
              rw [← hx] at P hbd hst
              have CX := Lib.hid (pr_taskLine (A1 := A1) (n1 := n1) (c1 := c1) (A2 := A2) (n2 := n2) (c2 := c2) (A3 := some ⟨b1, o1, none⟩) (n3 := n3) (c3 := c3) (N := N) x Av nv cv Ag mg cg Ai ni ci Ao no co Ac nc cc (wr.alloc (.cells #[.string x.name, .slice Av nv cv, .int .i64 x.guard.kind, .int .i64 x.guard.num, .slice Ag mg cg, .int .i64 x.join, .int .i64 x.split, .slice Ai ni ci, .slice Ao no co, .slice Ac nc cc, .int .i64 x.after, .int .i64 x.m0, .int .i64 x.m1, .int .i64 x.m2] 59)) (Lib.hid (TkS2.below ⟨P.vars, P.guard, P.ins, P.outs, P.cancel⟩ (alrB _ _))) (Lib.hid ((hN.out.cols.below HBW.out).below (alrB _ _))) (Lib.hid ((hN.out.pls.below PlAt.stays HBW.out).below PlAt.stays (alrB _ _))) (Lib.hid ⟨P.i5, P.i6, P.i9, P.i10, P.i11, P.i12, P.i13⟩) (Lib.hid hbd) (Lib.hid (fun V hv => htab.out V (below_then (below_then HBW.out (alrB _ _)) hv))) (Lib.hid HBN.out.cs) (Lib.hid HBN.out.ps))
              have c0 := P.c0
              have c1 := P.c1
              have c2 := P.c2
              have c3 := P.c3
              have c4 := P.c4
              have c5 := P.c5
              have c6 := P.c6
              have c7 := P.c7
              have c8 := P.c8
              have c9 := P.c9
              have c10 := P.c10
              have c11 := P.c11
              have c12 := P.c12
              have c13 := P.c13
              clear P hx hmem hbd

              have hle2 := HPL.out.2.2.1 (k + 1)
              rw [← hst, List.length_append, size_list] at hle2
              have HLE := Lib.hid hle2
              have HSTK := Lib.hid hst
              clear hle hle2 hst
              obtain ⟨LN, hLN⟩ : ∃ y, y = tkLine N.cols N.pls x := ⟨_, rfl⟩
              rw [← hLN] at HSTK HLE CX
              clear hLN
              have HW2 := Lib.hid (HW.out.alloc (.cells #[.string x.name, .slice Av nv cv, .int .i64 x.guard.kind, .int .i64 x.guard.num, .slice Ag mg cg, .int .i64 x.join, .int .i64 x.split, .slice Ai ni ci, .slice Ao no co, .slice Ac nc cc, .int .i64 x.after, .int .i64 x.m0, .int .i64 x.m1, .int .i64 x.m2] 59))
              have HK2 := Lib.hid (HK.out.alloc (by have := HK.out.below.size; have := HBE.out; have := HB3.out.size; omega) (.cells #[.string x.name, .slice Av nv cv, .int .i64 x.guard.kind, .int .i64 x.guard.num, .slice Ag mg cg, .int .i64 x.join, .int .i64 x.split, .slice Ai ni ci, .slice Ao no co, .slice Ac nc cc, .int .i64 x.after, .int .i64 x.m0, .int .i64 x.m1, .int .i64 x.m2] 59))
              have hbox := heap_alloc_new wr (.cells #[.string x.name, .slice Av nv cv, .int .i64 x.guard.kind, .int .i64 x.guard.num, .slice Ag mg cg, .int .i64 x.join, .int .i64 x.split, .slice Ai ni ci, .slice Ao no co, .slice Ac nc cc, .int .i64 x.after, .int .i64 x.m0, .int .i64 x.m1, .int .i64 x.m2] 59)
              obtain ⟨z0, z1, z2, z3, z4, z5, z6, z7, z8, z9⟩ := HC.out _ HK2.out
              go_wp2_with (first
                | (go_at_call 46; refine CX.out.mono ?_; rintro e w4 ⟨rfl, hb⟩
                   have HW4 := Lib.hid (HW2.out.below hb)
                   have HK4 := Lib.hid (HK2.out.trans (Bk.of_below hb (by have := HK2.out.below.size; have := HBE.out; have := HB3.out.size; omega)))
                   clear hb z0 z1 z2 z3 z4 z5 z6 z7 z8 z9)
                | (go_at_call 47; refine (bd_WriteString B (g + 2) p v (preT N k) LN w4 HW4 hp (by have := HK4.out.below.size; have := HBE.out; have := HB3.out.size; omega) (by have := HLE.out; omega)).mono ?_
                   rintro e w5 ⟨⟨r, rfl⟩, ⟨v5, hW5⟩, hK5⟩))
              go_roundg f
              case measure => omega
              case rel => exact ⟨k + 1, _, v5, by omega, by go_num, by omega, .inr rfl, Lib.hid (by rw [← HSTK.out]; exact hW5.out), Lib.hid (HK4.out.trans hK5.out)⟩
            · have hkn : k = n3 := by omega
              have HKN := Lib.hid hkn
              clear hkn
              have HBD3 := Lib.hid (show BdAt wr B (g + 2) p (preT N N.tks.length) v by rw [HL2.out, ← HKN.out]; exact HW.out)
              obtain ⟨p3, e3⟩ : ∃ y, y = p := ⟨_, rfl⟩
              obtain ⟨u3, d3⟩ : ∃ y, y = v := ⟨_, rfl⟩
              rw [← e3, ← d3] at HBD3
              rw [← e3] at hp
              have hp3 := hp
              have HK3 := HK
              clear hp e3 d3
              obtain ⟨z0, z1, z2, z3, z4, z5, z6, z7, z8, z9⟩ := HC.out _ HK3.out
              have hge : ¬ (k : Int) < (n3 : Int) := by have := HKN.out; omega
              go_wp2_with fail
              have CPF := Lib.hid (fun W (h : Bk B (g + 2) w3 W) => pr_place (A1 := A1) (n1 := n1) (c1 := c1) (A2 := A2) (n2 := n2) (c2 := c2) (A3 := A3) (n3 := n3) (c3 := c3) (N := N) N.from_ W (Lib.hid (hN.out.pls.below PlAt.stays (below_of HB3.out h.below HBE.out))) hN.out.i4)
              have CPT := Lib.hid (fun W (h : Bk B (g + 2) w3 W) => pr_place (A1 := A1) (n1 := n1) (c1 := c1) (A2 := A2) (n2 := n2) (c2 := c2) (A3 := A3) (n3 := n3) (c3 := c3) (N := N) N.to_ W (Lib.hid (hN.out.pls.below PlAt.stays (below_of HB3.out h.below HBE.out))) hN.out.i5)
              have HK3D := Lib.hid (HK3.out.drewN 1)
              have HW3D := Lib.hid (show BdAt (wr.drewN 1) B (g + 2) p3 (preT N N.tks.length) u3 from ⟨HBD3.out.ge, HBD3.out.hb, HBD3.out.own, HBD3.out.ne, HBD3.out.nil_⟩)
              have s1 := HBN.out.ps N.from_
              have s2 := HBN.out.ps N.to_
              have q0 : (9223372036854775807 < 5 + (plB N.pls N.from_).size) = False := eq_false (by omega)
              have q1 : (9223372036854775807 < 5 + (plB N.pls N.from_).size + 5) = False := eq_false (by omega)
              have q2 : (9223372036854775807 < 5 + (plB N.pls N.from_).size + 5 + (plB N.pls N.to_).size) = False := eq_false (by omega)
              have q3 : (9223372036854775807 < 5 + (plB N.pls N.from_).size + 5 + (plB N.pls N.to_).size + 2) = False := eq_false (by omega)
              clear s1 s2 z0 z1 z2 z3 z4 z5 z6 z7 z8 z9
              go_region_held3 (fun W => W.cell? ⟨g, 0, none⟩ = some (.slice A1 n1 c1) ∧ W.cell? ⟨g, 1, none⟩ = some (.slice A2 n2 c2) ∧ W.cell? ⟨g, 2, none⟩ = some (.slice A3 n3 c3) ∧ W.cell? ⟨g, 3, none⟩ = some (.int .i64 N.from_) ∧ W.cell? ⟨g, 4, none⟩ = some (.int .i64 N.to_) ∧ W.cell? ⟨g + 1, 0, none⟩ = some (.slice A1 n1 c1) ∧ W.cell? ⟨g + 1, 1, none⟩ = some (.slice A2 n2 c2) ∧ W.cell? ⟨g + 1, 2, none⟩ = some (.slice A3 n3 c3) ∧ W.cell? ⟨g + 1, 3, none⟩ = some (.int .i64 N.from_) ∧ W.cell? ⟨g + 1, 4, none⟩ = some (.int .i64 N.to_))
                (first | exact HC.out _ HK6.out | exact HC.out _ HK5.out | exact HC.out _ HK4.out | exact HC.out _ HK3D.out)
                (first
                  | (go_at_call 47; refine (bd_WriteString B (g + 2) p3 u3 (preT N N.tks.length) (endLine N) w5 HW5 hp3 (by have := HK5.out.below.size; have := HBE.out; have := HB3.out.size; omega) (by have := HPL.out.2.2.2; omega)).mono ?_
                     rintro e w6 ⟨⟨r, rfl⟩, ⟨v6, hW6⟩, hK6⟩
                     have HK6 := Lib.hid (HK5.out.trans hK6.out))
                  | (go_at_call_of 48 (Value.int .i64 N.from_); refine (CPF.out _ HK3D.out).mono ?_; rintro e w4 ⟨rfl, hb⟩
                     have HK4 := Lib.hid (HK3D.out.trans (Bk.of_below hb (by have := HK3D.out.below.size; have := HBE.out; have := HB3.out.size; omega)))
                     have HW4 := Lib.hid (HW3D.out.below hb)
                     clear hb)
                  | (go_at_call_of 48 (Value.int .i64 N.to_); refine (CPT.out _ HK4.out).mono ?_; rintro e w5 ⟨rfl, hb⟩
                     have HK5 := Lib.hid (HK4.out.trans (Bk.of_below hb (by have := HK4.out.below.size; have := HBE.out; have := HB3.out.size; omega)))
                     have HW5 := Lib.hid (HW4.out.below hb)
                     clear hb))
              all_goals
                go_wp2_with (go_at_call 39; refine (bd_String B (g + 2) _ v6 _ w6 hW6).mono ?_; rintro e w7 ⟨rfl, hb7⟩)
                go_ret
                refine ⟨?_, HB3.out.trans ((HK6.out.below.trans hb7).mono (by rw [HBE.out]; exact Nat.le_refl _))⟩
                rw [HPE.out]
                rfl
end
end Go.Proofs.YtkpjhjoopdbkaaaGreatDoor
