/- Package check: colours. Printed by gen_ckC.py. -/
import Derived.Test.YtaeeblceedklnaaGreatDoorCkE
namespace Go.Proofs.YtaeeblceedklnaaGreatDoor
open Go.RowKit
theorem firstQ_E : ∀ L : List Qn, firstQ L = firstE (L.map fun q => (q.ans, q.err))
  | [] => rfl
  | q :: r => by rw [firstQ, List.map_cons, firstE, firstQ_E r]
theorem alr (w : World) (o : Obj) : Below w.heap.size w (w.alloc o) := (Below.refl _ w).alloc (Nat.le_refl _) o
theorem ck_notFree (s : ByteArray) (w : World) (ht : Hid (TabOk w)) : Calls Tryz.prog 95 #[.string s] w fun e w' => e = .returned (.bool (!freeB s)) ∧ Below w.heap.size w w' := by
  have cF := Lib.hid (ck_free s w ht)
  obtain ⟨x, hx⟩ : ∃ x, x = freeB s := ⟨_, rfl⟩
  rw [← hx] at cF ⊢
  clear hx
  go_enter Tryz.func95, Tryz.ntmps95
  go_wp2_with (go_at_call 40; refine cF.out.mono ?_; rintro e w2 ⟨rfl, hb⟩; have HB := Lib.hid hb; clear hb)
  go_ret
  exact ⟨rfl, HB.out⟩
theorem any_notFree (l : List ByteArray) : (!l.any fun s => !freeB s) = l.all freeB := by
  rw [List.all_eq_not_any_not]
set_option maxRecDepth 100000 in
set_option maxHeartbeats 1000000 in
theorem ck_named (nm : ByteArray) (kd : Int) (ns : List ByteArray) (A : Option Addr) (m d g : Nat) (w : World) (ht : Hid (TabOk w)) (h0 : Hid (w.cell? ⟨g, 0, none⟩ = some (.string nm))) (h1 : Hid (w.cell? ⟨g, 1, none⟩ = some (.int .i64 kd))) (h4 : Hid (w.cell? ⟨g, 4, none⟩ = some (.slice A m d))) (hN : Hid (Sl w (.slice A m d) m 1 (strCells ns))) :
    Calls Tryz.prog 93 #[.pointer (some ⟨g, 0, none⟩)] w fun e w' => e = .returned (.bool (freeB nm && (!decide (kd = 2) || ns.all freeB))) ∧ Below w.heap.size w w' := by
  have hl := hN.out.len
  rw [strCells_len] at hl
  have hm : ns.length = m := by omega
  have hm9 := hN.out.bound
  have cF := Lib.hid (ck_free nm w ht)
  obtain ⟨x, hx⟩ : ∃ x, x = freeB nm := ⟨_, rfl⟩
  rw [← hx] at cF ⊢
  clear hx
  have cC := Lib.hid (fun W (hb : Below w.heap.size w W) => ck_contains_str (fun j => !freeB (ns.getD j ByteArray.empty)) A m d ns W hm9 (Lib.hid (hN.out.below hb)) (Lib.hid fun k _ W' hb' => ck_notFree _ W' (Lib.hid (ht.out.below (below_then hb hb')))))
  rw [← hm, anyK_any ByteArray.empty (fun s => !freeB s) ns] at cC
  rw [hm] at cC
  obtain ⟨y, hy⟩ : ∃ y, y = ns.any (fun s => !freeB s) := ⟨_, rfl⟩
  rw [← hy] at cC
  rw [← any_notFree, ← hy]
  have q0 := h0.out
  clear hy hl hm
  cases x with
  | false =>
    go_enter Tryz.func93, Tryz.ntmps93
    go_wp2_with (go_at_call 40; refine cF.out.mono ?_; rintro e w2 ⟨rfl, hb⟩; have HB := Lib.hid hb; clear hb)
    go_ret
    exact ⟨rfl, HB.out⟩
  | true =>
    by_cases hk : kd = 2
    · subst hk
      go_enter Tryz.func93, Tryz.ntmps93
      go_wp2_with (first
        | (go_at_call 40; refine cF.out.mono ?_; rintro e w2 ⟨rfl, hb⟩; have HB := Lib.hid hb; have q1 := cell_kept hb h1.out; have q4 := cell_kept hb h4.out; clear hb)
        | (go_at_call 94; refine (cC.out _ HB.out).mono ?_; rintro e w3 ⟨rfl, hb⟩; have HB3 := Lib.hid (below_then HB.out hb); clear hb))
      go_ret
      exact ⟨rfl, HB3.out⟩
    · have k1 : (kd == 2) = false := by simpa using hk
      have k2 : (kd != 2) = true := by simpa using hk
      have k3 := Lib.hid (decide_eq_false hk)
      clear hk
      go_enter Tryz.func93, Tryz.ntmps93
      go_wp2_with (go_at_call 40; refine cF.out.mono ?_; rintro e w2 ⟨rfl, hb⟩; have HB := Lib.hid hb; have q1 := cell_kept hb h1.out; have q4 := cell_kept hb h4.out; clear hb)
      go_ret
      exact ⟨by rw [k3.out]; rfl, HB.out⟩
section
variable {A1 A2 A3 : Option Addr} {n1 c1 n2 c2 n3 c3 : Nat} {N : Nt}
set_option maxRecDepth 100000 in
set_option maxHeartbeats 1000000 in
theorem ck_right (k g g2 : Nat) (w : World) (hk : k < n1) (hB : Hid (w.cell? ⟨g, 0, none⟩ = some (.slice A1 n1 c1))) (h2 : Hid (w.cell? ⟨g2, 0, none⟩ = some (.int .i64 (k : Int)))) (hN : Hid (Cols w A1 n1 c1 N.cols)) :
    Calls Tryz.prog 96 #[.pointer (some ⟨g, 0, none⟩), .pointer (some ⟨g2, 0, none⟩)] w fun e w' => e = .returned (.bool (sizesF (N.cols.take (k + 1))).isSome) ∧ Below w.heap.size w w' := by
  have b0 := hB.out
  have b2 := h2.out
  have hc := hN.out.1
  have hc9 := hN.out.2.1
  have k0 : (0 : Int) ≤ (k : Int) := by omega
  have k1 : (0 : Int) ≤ (k : Int) + 1 := by omega
  have k2 : (k : Int) + 1 ≤ (c1 : Int) := by omega
  have k3 : (k : Int) + 1 ≤ (n1 : Int) := by omega
  have k4 : ((k : Int) + 1).toNat = k + 1 := by omega
  have cR := Lib.hid (col_Right A1 (k + 1) c1 (N.cols.take (k + 1)) w (Lib.hid (hN.out.take (by omega))))
  obtain ⟨x, hx⟩ : ∃ x, x = (sizesF (N.cols.take (k + 1))).isSome := ⟨_, rfl⟩
  rw [← hx] at cR ⊢
  clear hx
  go_enter Tryz.func96, Tryz.ntmps96
  go_wp2_with (go_at_call 17; refine cR.out.mono ?_; rintro e w2 ⟨rfl, hb⟩; have HB := Lib.hid hb; clear hb)
  go_ret
  exact ⟨rfl, HB.out⟩
set_option maxRecDepth 100000 in
set_option maxHeartbeats 2000000 in
theorem ck_colours1 (k g : Nat) (A' : Option Addr) (n' c' : Nat) (w : World) (hk : k < n1) (ht : Hid (TabOk w)) (hB : Hid (w.cell? ⟨g, 0, none⟩ = some (.slice A1 n1 c1))) (hN : Hid (Cols w A1 n1 c1 N.cols)) (hE : Hid (Sl w (.slice A' n' c') n' 1 (strCells (N.cols.getD k default).names))) :
    Calls Tryz.prog 92 #[.int .i64 (k : Int), (N.cols.getD k default).val A' n' c', .pointer (some ⟨g, 0, none⟩)] w fun e w' => e = .returned (.int .i64 (colourE N.cols k)) ∧ Below w.heap.size w w' := by
  obtain ⟨E, hEE⟩ : ∃ E, E = colourE N.cols k := ⟨_, rfl⟩
  rw [← hEE]
  unfold colourE colourB at hEE
  obtain ⟨q, hq⟩ : ∃ q, q = N.cols.getD k default := ⟨_, rfl⟩
  rw [← hq] at hEE hE ⊢
  have HE := Lib.hid hEE
  have SZ := Lib.hid (show (w.alloc (.cells #[.int .i64 (k : Int)] 3)).heap.size = w.heap.size + 1 from World.size_alloc _ _)
  clear hq hEE
  go_enter Tryz.func92, Tryz.ntmps92
  go_upto_region 3 with fail
  obtain ⟨w1, hw1⟩ : ∃ x, x = (w.alloc (.cells #[.int .i64 (k : Int)] 3)).alloc (.cells #[.string q.name, .int .i64 q.kind, .int .i64 q.lo, .int .i64 q.hi, .slice A' n' c', .int .i64 q.first, .int .i64 q.then_] 62) := ⟨_, rfl⟩
  rw [← hw1]
  have HB1 := Lib.hid (show Below w.heap.size w w1 by rw [hw1]; exact (alr w _).alloc (alr w _).size _)
  have K1 := Lib.hid (show w1.cell? ⟨w.heap.size, 0, none⟩ = some (.int .i64 (k : Int)) by rw [hw1]; exact cell_kept (alr _ _) (cell_new w _ _ 0 _ rfl))
  have N0 := Lib.hid (show w1.cell? ⟨w.heap.size + 1, 0, none⟩ = some (.string q.name) by rw [hw1]; exact SZ.out ▸ cell_new _ #[.string q.name, .int .i64 q.kind, .int .i64 q.lo, .int .i64 q.hi, .slice A' n' c', .int .i64 q.first, .int .i64 q.then_] 62 0 _ rfl)
  have N1 := Lib.hid (show w1.cell? ⟨w.heap.size + 1, 1, none⟩ = some (.int .i64 q.kind) by rw [hw1]; exact SZ.out ▸ cell_new _ #[.string q.name, .int .i64 q.kind, .int .i64 q.lo, .int .i64 q.hi, .slice A' n' c', .int .i64 q.first, .int .i64 q.then_] 62 1 _ rfl)
  have N4 := Lib.hid (show w1.cell? ⟨w.heap.size + 1, 4, none⟩ = some (.slice A' n' c') by rw [hw1]; exact SZ.out ▸ cell_new _ #[.string q.name, .int .i64 q.kind, .int .i64 q.lo, .int .i64 q.hi, .slice A' n' c', .int .i64 q.first, .int .i64 q.then_] 62 4 _ rfl)
  have W1 := Lib.hid hw1
  clear hw1
  go_wp2_with fail
  obtain ⟨w2, hw2⟩ : ∃ x, x = w1.alloc (.cells #[.func (.func 96) #[] #[.pointer (some ⟨g, 0, none⟩), .pointer (some ⟨w.heap.size, 0, none⟩)], .int .i64 8, .func (.func 93) #[] #[.pointer (some ⟨w.heap.size + 1, 0, none⟩)], .int .i64 8] 68) := ⟨_, rfl⟩
  rw [← hw2]
  have W2 := Lib.hid hw2
  have HB2 := Lib.hid (show Below w1.heap.size w1 w2 by rw [hw2]; exact alr _ _)
  have X0 := Lib.hid (show w2.cell? ⟨w1.heap.size, 0, none⟩ = some (.func (.func 96) #[] #[.pointer (some ⟨g, 0, none⟩), .pointer (some ⟨w.heap.size, 0, none⟩)]) by rw [hw2]; exact cell_new w1 _ _ 0 _ rfl)
  have X1 := Lib.hid (show w2.cell? ⟨w1.heap.size, 1, none⟩ = some (.int .i64 8) by rw [hw2]; exact cell_new w1 _ _ 1 _ rfl)
  have X2 := Lib.hid (show w2.cell? ⟨w1.heap.size, 2, none⟩ = some (.func (.func 93) #[] #[.pointer (some ⟨w.heap.size + 1, 0, none⟩)]) by rw [hw2]; exact cell_new w1 _ _ 2 _ rfl)
  have X3 := Lib.hid (show w2.cell? ⟨w1.heap.size, 3, none⟩ = some (.int .i64 8) by rw [hw2]; exact cell_new w1 _ _ 3 _ rfl)
  clear hw2
  have cF := (ck_first (fun _ W => Below w2.heap.size w2 W) w2.heap.size w1.heap.size 2 2 [⟨96, #[.pointer (some ⟨g, 0, none⟩), .pointer (some ⟨w.heap.size, 0, none⟩)], 8, (sizesF (N.cols.take (k + 1))).isSome⟩, ⟨93, #[.pointer (some ⟨w.heap.size + 1, 0, none⟩)], 8, (freeB q.name && (!decide (q.kind = 2) || q.names.all freeB))⟩] w2 rfl (by omega) (Lib.hid (Below.refl _ _)) (Lib.hid ⟨enters_of Tryz.func96 (by kernel_rfl) rfl, fun W h => ⟨cell_kept h X0.out, cell_kept h X1.out⟩, fun W h => (ck_right k g w.heap.size W hk (Lib.hid (cell_kept (below_then HB1.out (below_then HB2.out h)) hB.out)) (Lib.hid (cell_kept (below_then HB2.out h) K1.out)) (Lib.hid (hN.out.below (below_then HB1.out (below_then HB2.out h))))).mono fun e w' he => ⟨he.1, below_then h he.2, kept_of he.2⟩, enters_of Tryz.func93 (by kernel_rfl) rfl, fun W h => ⟨cell_kept h X2.out, cell_kept h X3.out⟩, fun W h => (ck_named q.name q.kind q.names A' n' c' (w.heap.size + 1) W (Lib.hid (ht.out.below (below_then HB1.out (below_then HB2.out h)))) (Lib.hid (cell_kept (below_then HB2.out h) N0.out)) (Lib.hid (cell_kept (below_then HB2.out h) N1.out)) (Lib.hid (cell_kept (below_then HB2.out h) N4.out)) (Lib.hid (hE.out.below (below_then HB1.out (below_then HB2.out h))))).mono fun e w' he => ⟨he.1, below_then h he.2, kept_of he.2⟩, trivial⟩) (Lib.hid fun _ _ h => h.size) (Lib.hid fun i W o h => h.alloc h.size o))
  obtain ⟨y, hy⟩ : ∃ y, y = firstQ [⟨96, #[.pointer (some ⟨g, 0, none⟩), .pointer (some ⟨w.heap.size, 0, none⟩)], 8, (sizesF (N.cols.take (k + 1))).isSome⟩, ⟨93, #[.pointer (some ⟨w.heap.size + 1, 0, none⟩)], 8, (freeB q.name && (!decide (q.kind = 2) || q.names.all freeB))⟩] := ⟨_, rfl⟩
  rw [← hy] at cF
  have HY := Lib.hid hy
  clear hy
  refine cF.mono ?_
  rintro e w3 ⟨rfl, hb3⟩
  clear cF
  have HB3 := Lib.hid (below_then HB1.out (below_then HB2.out hb3))
  clear hb3
  go_wp2_with fail
  go_ret
  refine ⟨ret1 ?_, HB3.out⟩
  rw [HE.out, HY.out]
  simp only [firstQ]
  rcases (sizesF (N.cols.take (k + 1))).isSome <;> rcases (freeB q.name && (!decide (q.kind = 2) || q.names.all freeB)) <;> rfl
set_option maxRecDepth 100000 in
set_option maxHeartbeats 1000000 in
theorem ck_colours (w : World) (ht : Hid (TabOk w)) (hN : Hid (NetAt w A1 n1 c1 A2 n2 c2 A3 n3 c3 N)) :
    Calls Tryz.prog 31 #[netV A1 n1 c1 A2 n2 c2 A3 n3 c3 N.from_ N.to_] w fun e w' => e = .returned (.tuple #[.int .i64 (colsE N.cols).1, .int .i64 (colsE N.cols).2]) ∧ Below w.heap.size w w' := by
  have HB1 := Lib.hid (alr w (.cells #[.slice A1 n1 c1, .slice A2 n2 c2, .slice A3 n3 c3, .int .i64 N.from_, .int .i64 N.to_] 26))
  have hbox := Lib.hid (NBox.new w A1 n1 c1 A2 n2 c2 A3 n3 c3 N.from_ N.to_ 26)
  have hlen := Lib.hid hN.out.cols.2.2.1
  have hn9 := Nat.le_trans hN.out.cols.1 hN.out.cols.2.1
  have cE := fun W (hW : Below w.heap.size w W) (hc : W.cell? ⟨w.heap.size, 0, none⟩ = some (.slice A1 n1 c1)) => Lib.hid (ck_each_col (colourE N.cols) w.heap.size A1 n1 c1 N.cols W hn9 (Lib.hid (hN.out.cols.below hW)) (Lib.hid fun k hk W' hb b o A' n' c' hE => ck_colours1 (N := N) k w.heap.size A' n' c' W' hk (Lib.hid (ht.out.below (below_then hW hb))) (Lib.hid (cell_kept hb hc)) (Lib.hid (hN.out.cols.below (below_then hW hb))) (Lib.hid hE.out.names)))
  have b0 := hbox.out.c0
  have CE := Lib.hid (cE _ HB1.out b0)
  rw [show eachE (colourE N.cols) n1 = colsE N.cols by unfold colsE; rw [hlen.out]] at CE
  clear cE
  go_enter Tryz.func31, Tryz.ntmps31
  go_wp2_with (go_at_call 91; refine CE.out.out.mono ?_; rintro e w2 ⟨rfl, hb⟩; have HB := Lib.hid (below_then HB1.out hb); clear hb)
  go_ret2
  exact ⟨rfl, HB.out⟩
end
end Go.Proofs.YtaeeblceedklnaaGreatDoor
