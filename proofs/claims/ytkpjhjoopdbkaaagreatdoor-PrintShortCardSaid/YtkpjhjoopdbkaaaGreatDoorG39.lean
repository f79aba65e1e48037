/- Joined: Package print: what clauses asks, lines of colours and places. Printed by gen_prC.py. Package print: what is alike: rows and arcs. Printed by gen_prG.py. -/
import Derived.Test.YtkpjhjoopdbkaaaGreatDoorG38
import Derived.Test.YtkpjhjoopdbkaaaGreatDoorG29
import Derived.Test.YtkpjhjoopdbkaaaGreatDoorG27
import Derived.Deep.RegionHeld3
namespace Go.Proofs.YtkpjhjoopdbkaaaGreatDoor
open Go.RowKit
section
variable {A1 A2 A3 : Option Addr} {n1 c1 n2 c2 n3 c3 : Nat} {N : Nt}
theorem pr_cl1 (v : Vr) (w : World) : Calls Tryz.prog 143 #[v.val] w fun e w' => e = .returned (.string v.name) ∧ Below w.heap.size w w' := by
  have c0 := cell_new w #[.string v.name, .int .i64 v.colour] 132 0 _ rfl
  have HB := Lib.hid (alrB w (.cells #[.string v.name, .int .i64 v.colour] 132))
  go_enter Tryz.func143, Tryz.ntmps143
  go_wp2
  go_ret
  exact ⟨rfl, HB.out⟩
/-- The writer's box. -/
def WBox (w : World) (g : Nat) (A1 : Option Addr) (n1 c1 : Nat) (A2 : Option Addr) (n2 c2 : Nat) (A3 : Option Addr) (n3 c3 : Nat) (N : Nt) : Prop := w.heap[g]? = some (.cells #[.slice A1 n1 c1, .slice A2 n2 c2, .slice A3 n3 c3, .int .i64 N.from_, .int .i64 N.to_] 101 (0, 0))
theorem WBox.below {w w' : World} {g : Nat} (h : WBox w g A1 n1 c1 A2 n2 c2 A3 n3 c3 N) (hb : Below w.heap.size w w') : WBox w' g A1 n1 c1 A2 n2 c2 A3 n3 c3 N := row_below h hb
theorem WBox.cells {w : World} {g : Nat} (h : WBox w g A1 n1 c1 A2 n2 c2 A3 n3 c3 N) : w.cell? ⟨g, 0, none⟩ = some (.slice A1 n1 c1) ∧ w.cell? ⟨g, 1, none⟩ = some (.slice A2 n2 c2) ∧ w.cell? ⟨g, 2, none⟩ = some (.slice A3 n3 c3) ∧ w.cell? ⟨g, 3, none⟩ = some (.int .i64 N.from_) ∧ w.cell? ⟨g, 4, none⟩ = some (.int .i64 N.to_) :=
  ⟨row_cell h 0 _ rfl, row_cell h 1 _ rfl, row_cell h 2 _ rfl, row_cell h 3 _ rfl, row_cell h 4 _ rfl⟩
set_option maxRecDepth 100000 in
set_option maxHeartbeats 4000000 in
theorem pr_cl3 (v : Vr) (gw : Nat) (w : World) (hW : Hid (WBox w gw A1 n1 c1 A2 n2 c2 A3 n3 c3 N)) (hC : Hid (Cols w A1 n1 c1 N.cols)) (hv : I64 v.colour) (hn : Hid (v.name.size ≤ 1000)) (hcs : Hid (∀ k, (colB N.cols k).size ≤ 1000)) :
    Calls Tryz.prog 146 #[v.val, .pointer (some ⟨gw, 0, none⟩)] w fun e w' => e = .returned (.string (varB N.cols v)) ∧ Below w.heap.size w w' := by
  obtain ⟨w1, hw1⟩ : ∃ y, y = w.alloc (.cells #[.string v.name, .int .i64 v.colour] 132) := ⟨_, rfl⟩
  have HB1 := Lib.hid (show Below w.heap.size w w1 by rw [hw1]; exact alrB w _)
  have RA := Lib.hid (show w1.heap[w.heap.size]? = some (.cells #[.string v.name, .int .i64 v.colour] 132 (0, 0)) by rw [hw1]; exact heap_alloc_new w _)
  have HW := Lib.hid hw1.symm
  obtain ⟨g, hg⟩ : ∃ y, y = w.heap.size := ⟨_, rfl⟩
  have HG := Lib.hid hg.symm
  rw [← hg] at RA
  have HC := Lib.hid (show ∀ W, Below w1.heap.size w1 W → W.cell? ⟨g, 0, none⟩ = some (.string v.name) ∧ W.cell? ⟨g, 1, none⟩ = some (.int .i64 v.colour) ∧ W.cell? ⟨gw, 0, none⟩ = some (.slice A1 n1 c1) ∧ W.cell? ⟨gw, 1, none⟩ = some (.slice A2 n2 c2) ∧ W.cell? ⟨gw, 2, none⟩ = some (.slice A3 n3 c3) ∧ W.cell? ⟨gw, 3, none⟩ = some (.int .i64 N.from_) ∧ W.cell? ⟨gw, 4, none⟩ = some (.int .i64 N.to_) from fun W h => ⟨row_cell (row_below RA.out h) 0 _ rfl, row_cell (row_below RA.out h) 1 _ rfl, row_cell (row_below hW.out (below_then HB1.out h)) 0 _ rfl, row_cell (row_below hW.out (below_then HB1.out h)) 1 _ rfl, row_cell (row_below hW.out (below_then HB1.out h)) 2 _ rfl, row_cell (row_below hW.out (below_then HB1.out h)) 3 _ rfl, row_cell (row_below hW.out (below_then HB1.out h)) 4 _ rfl⟩)
  have BD0 := Lib.hid (below_drewN' (Below.refl w1.heap.size w1) 1)
  clear hw1 hg
  have CC := Lib.hid (fun W (h : Below w1.heap.size w1 W) => pr_colour (N := N) (A1 := A1) (n1 := n1) (c1 := c1) (A2 := A2) (n2 := n2) (c2 := c2) (A3 := A3) (n3 := n3) (c3 := c3) v.colour W (Lib.hid (hC.out.below (below_then HB1.out h))) hv)
  have s1 := hn.out
  have s2 := hcs.out v.colour
  have q0 : (9223372036854775807 < 4 + (v.name).size) = False := eq_false (by omega)
  have q1 : (9223372036854775807 < 4 + (v.name).size + 2) = False := eq_false (by omega)
  have q2 : (9223372036854775807 < 4 + (v.name).size + 2 + (colB N.cols v.colour).size) = False := eq_false (by omega)
  clear s1 s2
  go_enter Tryz.func146, Tryz.ntmps146
  go_upto_region 1 with fail
  rw [HG.out, HW.out]
  go_region_held3 (fun W => W.cell? ⟨g, 0, none⟩ = some (.string v.name) ∧ W.cell? ⟨g, 1, none⟩ = some (.int .i64 v.colour) ∧ W.cell? ⟨gw, 0, none⟩ = some (.slice A1 n1 c1) ∧ W.cell? ⟨gw, 1, none⟩ = some (.slice A2 n2 c2) ∧ W.cell? ⟨gw, 2, none⟩ = some (.slice A3 n3 c3) ∧ W.cell? ⟨gw, 3, none⟩ = some (.int .i64 N.from_) ∧ W.cell? ⟨gw, 4, none⟩ = some (.int .i64 N.to_))
    (first | exact HC.out _ HB2.out | exact HC.out _ BD0.out)
    (first
      | (go_at_call 99; refine (CC.out _ BD0.out).mono ?_; rintro e w2 ⟨rfl, hb⟩; have HB2 := Lib.hid (below_then BD0.out hb); clear hb))
  all_goals
    go_wp2_with fail
    go_ret
    exact ⟨rfl, below_then HB1.out HB2.out⟩
set_option maxHeartbeats 4000000 in
theorem pr_cl4 (k : Int) (gw : Nat) (w : World) (hW : Hid (WBox w gw A1 n1 c1 A2 n2 c2 A3 n3 c3 N)) (hC : Hid (SlOf 3 PlAt w A2 n2 c2 N.pls)) (hk : I64 k) (hps : Hid (∀ k, (plB N.pls k).size ≤ 1000)) :
    Calls Tryz.prog 150 #[.int .i64 k, .pointer (some ⟨gw, 0, none⟩)] w fun e w' => e = .returned (.string (cancelB N.pls k)) ∧ Below w.heap.size w w' := by
  obtain ⟨z0, z1, z2, z3, z4⟩ := hW.out.cells
  have CC := Lib.hid (pr_place (N := N) (A1 := A1) (n1 := n1) (c1 := c1) (A2 := A2) (n2 := n2) (c2 := c2) (A3 := A3) (n3 := n3) (c3 := c3) k w hC hk)
  have s2 := hps.out k
  have q0 : (9223372036854775807 < 7 + (plB N.pls k).size) = False := eq_false (by omega)
  clear s2
  go_enter Tryz.func150, Tryz.ntmps150
  go_wp2_with (go_at_call 48; refine CC.out.mono ?_; rintro e w2 ⟨rfl, hb⟩; have HB2 := Lib.hid hb; clear hb)
  go_ret
  exact ⟨rfl, HB2.out⟩
theorem pr_cl2 (word : ByteArray) (gw gn : Nat) (w : World) :
    Calls Tryz.prog 144 #[.string word, .pointer (some ⟨gw, 0, none⟩), .pointer (some ⟨gn, 0, none⟩)] w fun e w' => ∃ gx, e = .returned (.func (.func 145) #[] #[.pointer (some ⟨gx, 0, none⟩), .pointer (some ⟨gw, 0, none⟩), .pointer (some ⟨gn, 0, none⟩)]) ∧ Below w.heap.size w w' ∧ w'.cell? ⟨gx, 0, none⟩ = some (.string word) := by
  have c0 := Lib.hid (cell_new w #[.string word] 9 0 _ rfl)
  have HB := Lib.hid (alrB w (.cells #[.string word] 9))
  go_enter Tryz.func144, Tryz.ntmps144
  go_wp2
  go_ret
  exact ⟨_, rfl, HB.out, c0.out⟩
set_option maxRecDepth 100000 in
set_option maxHeartbeats 4000000 in
theorem pr_cl21 (names : List ByteArray) (word : ByteArray) (a : Ar) (Ae : Option Addr) (me ce : Nat) (gx gw gn : Nat) (NA : Option Addr) (nn nc : Nat) (w : World) (hW : Hid (WBox w gw A1 n1 c1 A2 n2 c2 A3 n3 c3 N)) (hC : Hid (SlOf 3 PlAt w A2 n2 c2 N.pls)) (hx : Hid (w.cell? ⟨gx, 0, none⟩ = some (.string word)))
    (hnm : Hid (w.cell? ⟨gn, 0, none⟩ = some (.slice NA nn nc))) (hNA : Hid (Sl w (.slice NA nn nc) nn 1 (strCells names))) (hT : Hid (TrAt w Ae me ce a.expr)) (htab : Hid (∀ W, Below w.heap.size w W → TabT W)) (hk : I64 a.place) (hws : Hid (word.size ≤ 1000)) (hps : Hid (∀ k, (plB N.pls k).size ≤ 1000)) (hns : ∀ s ∈ names, s.size ≤ 1000) (hlen : Hid ((textT names a.expr).length ≤ 1000000000000)) :
    Calls Tryz.prog 145 #[a.val Ae me ce, .pointer (some ⟨gx, 0, none⟩), .pointer (some ⟨gw, 0, none⟩), .pointer (some ⟨gn, 0, none⟩)] w fun e w' => e = .returned (.string (arcB N.pls names word a)) ∧ Below w.heap.size w w' := by
  obtain ⟨w1, hw1⟩ : ∃ y, y = w.alloc (.cells #[.int .i64 a.place, .int .i64 a.expr.kind, .int .i64 a.expr.num, .slice Ae me ce] 61) := ⟨_, rfl⟩
  have HB1 := Lib.hid (show Below w.heap.size w w1 by rw [hw1]; exact alrB w _)
  have RA := Lib.hid (show w1.heap[w.heap.size]? = some (.cells #[.int .i64 a.place, .int .i64 a.expr.kind, .int .i64 a.expr.num, .slice Ae me ce] 61 (0, 0)) by rw [hw1]; exact heap_alloc_new w _)
  have HW := Lib.hid hw1.symm
  obtain ⟨g, hg⟩ : ∃ y, y = w.heap.size := ⟨_, rfl⟩
  have HG := Lib.hid hg.symm
  rw [← hg] at RA
  have HC := Lib.hid (show ∀ W, Below w1.heap.size w1 W → W.cell? ⟨g, 0, none⟩ = some (.int .i64 a.place) ∧ W.cell? ⟨g, 1, none⟩ = some (.int .i64 a.expr.kind) ∧ W.cell? ⟨g, 2, none⟩ = some (.int .i64 a.expr.num) ∧ W.cell? ⟨g, 3, none⟩ = some (.slice Ae me ce) ∧ W.cell? ⟨gw, 0, none⟩ = some (.slice A1 n1 c1) ∧ W.cell? ⟨gw, 1, none⟩ = some (.slice A2 n2 c2) ∧ W.cell? ⟨gw, 2, none⟩ = some (.slice A3 n3 c3) ∧ W.cell? ⟨gw, 3, none⟩ = some (.int .i64 N.from_) ∧ W.cell? ⟨gw, 4, none⟩ = some (.int .i64 N.to_) ∧ W.cell? ⟨gx, 0, none⟩ = some (.string word) ∧ W.cell? ⟨gn, 0, none⟩ = some (.slice NA nn nc) from fun W h => ⟨row_cell (row_below RA.out h) 0 _ rfl, row_cell (row_below RA.out h) 1 _ rfl, row_cell (row_below RA.out h) 2 _ rfl, row_cell (row_below RA.out h) 3 _ rfl, row_cell (row_below hW.out (below_then HB1.out h)) 0 _ rfl, row_cell (row_below hW.out (below_then HB1.out h)) 1 _ rfl, row_cell (row_below hW.out (below_then HB1.out h)) 2 _ rfl, row_cell (row_below hW.out (below_then HB1.out h)) 3 _ rfl, row_cell (row_below hW.out (below_then HB1.out h)) 4 _ rfl, cell_kept (below_then HB1.out h) hx.out, cell_kept (below_then HB1.out h) hnm.out⟩)
  have BD0 := Lib.hid (below_drewN' (Below.refl w1.heap.size w1) 1)
  clear hw1 hg
  have CC := Lib.hid (fun W (h : Below w1.heap.size w1 W) => pr_place (N := N) (A1 := A1) (n1 := n1) (c1 := c1) (A2 := A2) (n2 := n2) (c2 := c2) (A3 := A3) (n3 := n3) (c3 := c3) a.place W (Lib.hid (hC.out.below PlAt.stays (below_then HB1.out h))) hk)
  have CT := Lib.hid (fun W (h : Below w1.heap.size w1 W) => (show Calls Tryz.prog 19 #[a.expr.val Ae me ce, .slice NA nn nc] W fun e w' => e = .returned (.string (exprB names a.expr)) ∧ Below W.heap.size W w' from ex_Text names NA nn nc a.expr Ae me ce W (Lib.hid (hT.out.kept (below_then HB1.out h))) (Lib.hid (fun V hv => htab.out V (below_then (below_then HB1.out h) hv))) (Lib.hid (hNA.out.below (below_then HB1.out h))) hns hlen.out))
  have s1 := hws.out
  have s2 := hps.out a.place
  have s3 : (exprB names a.expr).size ≤ 1000000000000 := by
    have := hlen.out
    show (textT names a.expr).toArray.size ≤ _
    simpa using this
  have q0 : (9223372036854775807 < word.size + (plB N.pls a.place).size) = False := eq_false (by omega)
  have q1 : (9223372036854775807 < word.size + (plB N.pls a.place).size + 1) = False := eq_false (by omega)
  have q2 : (9223372036854775807 < word.size + (plB N.pls a.place).size + 1 + (exprB names a.expr).size) = False := eq_false (by omega)
  have q3 : (9223372036854775807 < word.size + (plB N.pls a.place).size + 1 + (exprB names a.expr).size + 1) = False := eq_false (by omega)
  clear s1 s2 s3
  go_enter Tryz.func145, Tryz.ntmps145
  go_upto_region 1 with fail
  rw [HG.out, HW.out]
  go_region_held3 (fun W => W.cell? ⟨g, 0, none⟩ = some (.int .i64 a.place) ∧ W.cell? ⟨g, 1, none⟩ = some (.int .i64 a.expr.kind) ∧ W.cell? ⟨g, 2, none⟩ = some (.int .i64 a.expr.num) ∧ W.cell? ⟨g, 3, none⟩ = some (.slice Ae me ce) ∧ W.cell? ⟨gw, 0, none⟩ = some (.slice A1 n1 c1) ∧ W.cell? ⟨gw, 1, none⟩ = some (.slice A2 n2 c2) ∧ W.cell? ⟨gw, 2, none⟩ = some (.slice A3 n3 c3) ∧ W.cell? ⟨gw, 3, none⟩ = some (.int .i64 N.from_) ∧ W.cell? ⟨gw, 4, none⟩ = some (.int .i64 N.to_) ∧ W.cell? ⟨gx, 0, none⟩ = some (.string word) ∧ W.cell? ⟨gn, 0, none⟩ = some (.slice NA nn nc))
    (first | exact HC.out _ HB3.out | exact HC.out _ HB2.out | exact HC.out _ BD0.out)
    (first
      | (go_at_call 19; refine (CT.out _ HB2.out).mono ?_; rintro e w3 ⟨rfl, hb⟩; have HB3 := Lib.hid (below_then HB2.out hb); clear hb)
      | (go_at_call 48; refine (CC.out _ BD0.out).mono ?_; rintro e w2 ⟨rfl, hb⟩; have HB2 := Lib.hid (below_then BD0.out hb); clear hb))
  all_goals
    go_wp2_with fail
    go_ret
    exact ⟨rfl, below_then HB1.out HB3.out⟩
set_option maxRecDepth 100000 in
set_option maxHeartbeats 4000000 in
theorem pr_colourLine (x : Col) (Ap : Option Addr) (np cp : Nat) (w : World) (hC : Hid (Cols w A1 n1 c1 N.cols)) (hN : Hid (Sl w (.slice Ap np cp) np 1 (strCells x.names))) (hi : Hid (I64 x.lo ∧ I64 x.hi ∧ I64 x.first ∧ I64 x.then_)) (htab : Hid (∀ W, Below w.heap.size w W → TabT W)) (hn : np ≤ 1000000) (hj : Hid ((joinB x.names).size ≤ 1000000000)) (hcs : Hid (∀ k, (colB N.cols k).size ≤ 1000)) (hnm : Hid (x.name.size ≤ 1000)) (hms : Hid ((membersB N.cols x).size ≤ 10000000000)) :
    Calls Tryz.prog 44 #[netV A1 n1 c1 A2 n2 c2 A3 n3 c3 N.from_ N.to_, colV' x Ap np cp] w fun e w' => e = .returned (.string (colLine N.cols x)) ∧ Below w.heap.size w w' := by
  obtain ⟨w1, hw1⟩ : ∃ y, y = (w.alloc (.cells #[.slice A1 n1 c1, .slice A2 n2 c2, .slice A3 n3 c3, .int .i64 N.from_, .int .i64 N.to_] 101)).alloc (.cells #[.string x.name, .int .i64 x.kind, .int .i64 x.lo, .int .i64 x.hi, .slice Ap np cp, .int .i64 x.first, .int .i64 x.then_] 82) := ⟨_, rfl⟩
  have HB1 := Lib.hid (show Below w.heap.size w w1 by rw [hw1]; exact below_then (alrB w _) (alrB _ _))
  have hsz : (w.alloc (.cells #[.slice A1 n1 c1, .slice A2 n2 c2, .slice A3 n3 c3, .int .i64 N.from_, .int .i64 N.to_] 101)).heap.size = w.heap.size + 1 := World.size_alloc _ _
  have RA := Lib.hid (show w1.heap[w.heap.size]? = some (.cells #[.slice A1 n1 c1, .slice A2 n2 c2, .slice A3 n3 c3, .int .i64 N.from_, .int .i64 N.to_] 101 (0, 0)) by rw [hw1]; exact row_alloc (heap_alloc_new w _) _)
  have RB := Lib.hid (show w1.heap[w.heap.size + 1]? = some (.cells #[.string x.name, .int .i64 x.kind, .int .i64 x.lo, .int .i64 x.hi, .slice Ap np cp, .int .i64 x.first, .int .i64 x.then_] 82 (0, 0)) by rw [hw1, ← hsz]; exact heap_alloc_new _ _)
  have HW := Lib.hid hw1.symm
  obtain ⟨g, hg⟩ : ∃ y, y = w.heap.size := ⟨_, rfl⟩
  have HG := Lib.hid hg.symm
  rw [← hg] at RA RB
  have HC := Lib.hid (show ∀ W, Below w1.heap.size w1 W → W.cell? ⟨g, 0, none⟩ = some (.slice A1 n1 c1) ∧ W.cell? ⟨g, 1, none⟩ = some (.slice A2 n2 c2) ∧ W.cell? ⟨g, 2, none⟩ = some (.slice A3 n3 c3) ∧ W.cell? ⟨g, 3, none⟩ = some (.int .i64 N.from_) ∧ W.cell? ⟨g, 4, none⟩ = some (.int .i64 N.to_) ∧ W.cell? ⟨g + 1, 0, none⟩ = some (.string x.name) ∧ W.cell? ⟨g + 1, 1, none⟩ = some (.int .i64 x.kind) ∧ W.cell? ⟨g + 1, 2, none⟩ = some (.int .i64 x.lo) ∧ W.cell? ⟨g + 1, 3, none⟩ = some (.int .i64 x.hi) ∧ W.cell? ⟨g + 1, 4, none⟩ = some (.slice Ap np cp) ∧ W.cell? ⟨g + 1, 5, none⟩ = some (.int .i64 x.first) ∧ W.cell? ⟨g + 1, 6, none⟩ = some (.int .i64 x.then_) from fun W h => ⟨row_cell (row_below RA.out h) 0 _ rfl, row_cell (row_below RA.out h) 1 _ rfl, row_cell (row_below RA.out h) 2 _ rfl, row_cell (row_below RA.out h) 3 _ rfl, row_cell (row_below RA.out h) 4 _ rfl, row_cell (row_below RB.out h) 0 _ rfl, row_cell (row_below RB.out h) 1 _ rfl, row_cell (row_below RB.out h) 2 _ rfl, row_cell (row_below RB.out h) 3 _ rfl, row_cell (row_below RB.out h) 4 _ rfl, row_cell (row_below RB.out h) 5 _ rfl, row_cell (row_below RB.out h) 6 _ rfl⟩)
  have BD0 := Lib.hid (below_drewN' (Below.refl w1.heap.size w1) 1)
  clear hsz hw1 hg
  have CM := Lib.hid (fun W (h : Below w1.heap.size w1 W) => pr_members (N := N) (A1 := A1) (n1 := n1) (c1 := c1) (A2 := A2) (n2 := n2) (c2 := c2) (A3 := A3) (n3 := n3) (c3 := c3) x Ap np cp W (Lib.hid (hC.out.below (below_then HB1.out h))) (Lib.hid (hN.out.below (below_then HB1.out h))) hi (Lib.hid (fun V hv => htab.out V (below_then (below_then HB1.out h) hv))) hn (Lib.hid (by have := hj.out; omega)) hcs)
  have s1 := hnm.out
  have s2 := hms.out
  have q0 : (9223372036854775807 < 7 + (x.name).size) = False := eq_false (by omega)
  have q1 : (9223372036854775807 < 7 + (x.name).size + 3) = False := eq_false (by omega)
  have q2 : (9223372036854775807 < 7 + (x.name).size + 3 + (membersB N.cols x).size) = False := eq_false (by omega)
  have q3 : (9223372036854775807 < 7 + (x.name).size + 3 + (membersB N.cols x).size + 2) = False := eq_false (by omega)
  clear s1 s2
  go_enter Tryz.func44, Tryz.ntmps44
  go_upto_region 1 with fail
  rw [HG.out, HW.out]
  go_region_held3 (fun W => W.cell? ⟨g, 0, none⟩ = some (.slice A1 n1 c1) ∧ W.cell? ⟨g, 1, none⟩ = some (.slice A2 n2 c2) ∧ W.cell? ⟨g, 2, none⟩ = some (.slice A3 n3 c3) ∧ W.cell? ⟨g, 3, none⟩ = some (.int .i64 N.from_) ∧ W.cell? ⟨g, 4, none⟩ = some (.int .i64 N.to_) ∧ W.cell? ⟨g + 1, 0, none⟩ = some (.string x.name) ∧ W.cell? ⟨g + 1, 1, none⟩ = some (.int .i64 x.kind) ∧ W.cell? ⟨g + 1, 2, none⟩ = some (.int .i64 x.lo) ∧ W.cell? ⟨g + 1, 3, none⟩ = some (.int .i64 x.hi) ∧ W.cell? ⟨g + 1, 4, none⟩ = some (.slice Ap np cp) ∧ W.cell? ⟨g + 1, 5, none⟩ = some (.int .i64 x.first) ∧ W.cell? ⟨g + 1, 6, none⟩ = some (.int .i64 x.then_))
    (first | exact HC.out _ HB2.out | exact HC.out _ BD0.out)
    (first
      | (go_at_call 98; refine (CM.out _ BD0.out).mono ?_; rintro e w2 ⟨rfl, hb⟩; have HB2 := Lib.hid (below_then BD0.out hb); clear hb))
  all_goals
    go_wp2_with fail
    go_ret
    exact ⟨rfl, below_then HB1.out HB2.out⟩
set_option maxRecDepth 100000 in
set_option maxHeartbeats 4000000 in
theorem pr_placeLine (p : Pl) (Ap : Option Addr) (np cp : Nat) (w : World) (hC : Hid (Cols w A1 n1 c1 N.cols)) (hS : Hid (Sl w (.slice Ap np cp) np 2 (pairCells p.first))) (hi : Hid (∀ q ∈ p.first, I64 q.1 ∧ I64 q.2)) (hk : I64 p.colour) (htab : Hid (∀ W, Below w.heap.size w W → TabT W)) (hn : np ≤ 1000000) (hj : Hid ((joinB (p.first.map pairB)).size ≤ 1000000000)) (hcs : Hid (∀ k, (colB N.cols k).size ≤ 1000)) (hnm : Hid (p.name.size ≤ 1000)) (hfs : Hid ((firstB p).size ≤ 10000000000)) :
    Calls Tryz.prog 45 #[netV A1 n1 c1 A2 n2 c2 A3 n3 c3 N.from_ N.to_, p.val Ap np cp] w fun e w' => e = .returned (.string (plLine N.cols p)) ∧ Below w.heap.size w w' := by
  obtain ⟨w1, hw1⟩ : ∃ y, y = (w.alloc (.cells #[.slice A1 n1 c1, .slice A2 n2 c2, .slice A3 n3 c3, .int .i64 N.from_, .int .i64 N.to_] 101)).alloc (.cells #[.string p.name, .int .i64 p.colour, .slice Ap np cp] 66) := ⟨_, rfl⟩
  have HB1 := Lib.hid (show Below w.heap.size w w1 by rw [hw1]; exact below_then (alrB w _) (alrB _ _))
  have hsz : (w.alloc (.cells #[.slice A1 n1 c1, .slice A2 n2 c2, .slice A3 n3 c3, .int .i64 N.from_, .int .i64 N.to_] 101)).heap.size = w.heap.size + 1 := World.size_alloc _ _
  have RA := Lib.hid (show w1.heap[w.heap.size]? = some (.cells #[.slice A1 n1 c1, .slice A2 n2 c2, .slice A3 n3 c3, .int .i64 N.from_, .int .i64 N.to_] 101 (0, 0)) by rw [hw1]; exact row_alloc (heap_alloc_new w _) _)
  have RB := Lib.hid (show w1.heap[w.heap.size + 1]? = some (.cells #[.string p.name, .int .i64 p.colour, .slice Ap np cp] 66 (0, 0)) by rw [hw1, ← hsz]; exact heap_alloc_new _ _)
  have HW := Lib.hid hw1.symm
  obtain ⟨g, hg⟩ : ∃ y, y = w.heap.size := ⟨_, rfl⟩
  have HG := Lib.hid hg.symm
  rw [← hg] at RA RB
  have HC := Lib.hid (show ∀ W, Below w1.heap.size w1 W → W.cell? ⟨g, 0, none⟩ = some (.slice A1 n1 c1) ∧ W.cell? ⟨g, 1, none⟩ = some (.slice A2 n2 c2) ∧ W.cell? ⟨g, 2, none⟩ = some (.slice A3 n3 c3) ∧ W.cell? ⟨g, 3, none⟩ = some (.int .i64 N.from_) ∧ W.cell? ⟨g, 4, none⟩ = some (.int .i64 N.to_) ∧ W.cell? ⟨g + 1, 0, none⟩ = some (.string p.name) ∧ W.cell? ⟨g + 1, 1, none⟩ = some (.int .i64 p.colour) ∧ W.cell? ⟨g + 1, 2, none⟩ = some (.slice Ap np cp) from fun W h => ⟨row_cell (row_below RA.out h) 0 _ rfl, row_cell (row_below RA.out h) 1 _ rfl, row_cell (row_below RA.out h) 2 _ rfl, row_cell (row_below RA.out h) 3 _ rfl, row_cell (row_below RA.out h) 4 _ rfl, row_cell (row_below RB.out h) 0 _ rfl, row_cell (row_below RB.out h) 1 _ rfl, row_cell (row_below RB.out h) 2 _ rfl⟩)
  have BD0 := Lib.hid (below_drewN' (Below.refl w1.heap.size w1) 1)
  clear hsz hw1 hg
  have CC := Lib.hid (fun W (h : Below w1.heap.size w1 W) => pr_colour (N := N) (A1 := A1) (n1 := n1) (c1 := c1) (A2 := A2) (n2 := n2) (c2 := c2) (A3 := A3) (n3 := n3) (c3 := c3) p.colour W (Lib.hid (hC.out.below (below_then HB1.out h))) hk)
  have CF := Lib.hid (fun W (h : Below w1.heap.size w1 W) => pr_first p Ap np cp W (Lib.hid (hS.out.below (below_then HB1.out h))) hi (Lib.hid (fun V hv => htab.out V (below_then (below_then HB1.out h) hv))) hn (Lib.hid (by have := hj.out; omega)))
  have s1 := hnm.out
  have s2 := hcs.out p.colour
  have s3 := hfs.out
  have q0 : (9223372036854775807 < 6 + (p.name).size) = False := eq_false (by omega)
  have q1 : (9223372036854775807 < 6 + (p.name).size + 2) = False := eq_false (by omega)
  have q2 : (9223372036854775807 < 6 + (p.name).size + 2 + (colB N.cols p.colour).size) = False := eq_false (by omega)
  have q3 : (9223372036854775807 < 6 + (p.name).size + 2 + (colB N.cols p.colour).size + (firstB p).size) = False := eq_false (by omega)
  have q4 : (9223372036854775807 < 6 + (p.name).size + 2 + (colB N.cols p.colour).size + (firstB p).size + 2) = False := eq_false (by omega)
  clear s1 s2 s3
  go_enter Tryz.func45, Tryz.ntmps45
  go_upto_region 1 with fail
  rw [HG.out, HW.out]
  go_region_held3 (fun W => W.cell? ⟨g, 0, none⟩ = some (.slice A1 n1 c1) ∧ W.cell? ⟨g, 1, none⟩ = some (.slice A2 n2 c2) ∧ W.cell? ⟨g, 2, none⟩ = some (.slice A3 n3 c3) ∧ W.cell? ⟨g, 3, none⟩ = some (.int .i64 N.from_) ∧ W.cell? ⟨g, 4, none⟩ = some (.int .i64 N.to_) ∧ W.cell? ⟨g + 1, 0, none⟩ = some (.string p.name) ∧ W.cell? ⟨g + 1, 1, none⟩ = some (.int .i64 p.colour) ∧ W.cell? ⟨g + 1, 2, none⟩ = some (.slice Ap np cp))
    (first | exact HC.out _ HB3.out | exact HC.out _ HB2.out | exact HC.out _ BD0.out)
    (first
      | (go_at_call 100; refine (CF.out _ HB2.out).mono ?_; rintro e w3 ⟨rfl, hb⟩; have HB3 := Lib.hid (below_then HB2.out hb); clear hb)
      | (go_at_call 99; refine (CC.out _ BD0.out).mono ?_; rintro e w2 ⟨rfl, hb⟩; have HB2 := Lib.hid (below_then BD0.out hb); clear hb))
  all_goals
    go_wp2_with fail
    go_ret
    exact ⟨rfl, below_then HB1.out HB3.out⟩
end
end Go.Proofs.YtkpjhjoopdbkaaaGreatDoor
namespace Go.Proofs.YtkpjhjoopdbkaaaGreatDoor
open Go.RowKit
/-- It tells whether that is so. -/
def EqAns (P : Prop) (w : World) (e : Ending) (w' : World) : Prop := ∃ b : Bool, e = .returned (.bool b) ∧ (b = true ↔ P) ∧ Below w.heap.size w w'
theorem EqAns.yes {P : Prop} {w w' : World} {v : Value} (h : P) (e : v = .bool true) (hb : Below w.heap.size w w') : EqAns P w (.returned v) w' := ⟨true, by rw [e], ⟨fun _ => h, fun _ => rfl⟩, hb⟩
theorem EqAns.no {P : Prop} {w w' : World} {v : Value} (h : ¬ P) (e : v = .bool false) (hb : Below w.heap.size w w') : EqAns P w (.returned v) w' := ⟨false, by rw [e], ⟨fun q => absurd q (by decide), fun q => absurd q h⟩, hb⟩
theorem eq_of_getD {α : Type} {l m : List α} (d : α) (hl : l.length = m.length) (h : ∀ j, j < l.length → l.getD j d = m.getD j d) : l = m := by
  refine List.ext_getElem hl fun j h1 h2 => ?_
  have := h j h1
  rw [List.getD, List.getD, List.getElem?_eq_getElem h1, List.getElem?_eq_getElem h2] at this
  exact this
theorem str_yes {x y : ByteArray} (h : x = y) : (x.toList == y.toList) = true ∧ (x.toList != y.toList) = false := by
  have e : (x.toList == y.toList) = true := by rw [same_beq, decide_eq_true h]
  exact ⟨e, by rw [bne, e]; rfl⟩
theorem str_no {x y : ByteArray} (h : ¬ x = y) : (x.toList == y.toList) = false ∧ (x.toList != y.toList) = true := by
  have e : (x.toList == y.toList) = false := by rw [same_beq, decide_eq_false h]
  exact ⟨e, by rw [bne, e]; rfl⟩
theorem int_yes {x y : Int} (h : x = y) : (x == y) = true ∧ (x != y) = false := by subst h; simp
theorem int_no {x y : Int} (h : ¬ x = y) : (x == y) = false ∧ (x != y) = true := by simp [h]
theorem neq_var2 (s s' : ByteArray) (k k' : Int) (w : World) : (binOp .neq 132 (.agg #[.string s, .int .i64 k]) (.agg #[.string s', .int .i64 k'])).run Tryz.prog w = .ok (.bool (!(s.toList == s'.toList && k == k'))) w := by
  rw [run_neq_struct, run_equalIn_agg w 9999 _ _ _ (by kernel_rfl) (by kernel_rfl)]
  have hf : ((Tryz.prog.fieldsOf 132).toList.map fun f => (f.name != "_", f.type, f.offset)) = [(true, 9, 0), (true, 3, 1)] := by kernel_rfl
  obtain ⟨fs, hfs⟩ : ∃ fs, fs = (Tryz.prog.fieldsOf 132).toList := ⟨_, rfl⟩
  rw [← hfs] at hf ⊢
  have p0 : ∀ (x : ByteArray) (y : Int) (w : World), (part 9 #[.string x, .int .i64 y] 0).run Tryz.prog w = .ok (.string x) w := fun _ _ _ => by kernel_rfl
  have p1 : ∀ (x : ByteArray) (y : Int) (w : World), (part 3 #[.string x, .int .i64 y] 1).run Tryz.prog w = .ok (.int .i64 y) w := fun _ _ _ => by kernel_rfl
  have q := fun (x y : Int) (w : World) => run_equalIn_int (P := Tryz.prog) w 9998 3 .i64 .i64 x y Tryz.underlying3
  have r := fun (x y : ByteArray) (w : World) => run_equalIn_string (P := Tryz.prog) w 9998 9 x y Tryz.underlying9
  clear hfs
  obtain ⟨f0, f1, rfl⟩ : ∃ f0 f1, fs = [f0, f1] := by
    rcases fs with _ | ⟨f0, _ | ⟨f1, _ | ⟨f2, r⟩⟩⟩
    · simp at hf
    · simp at hf
    · exact ⟨f0, f1, rfl⟩
    · simp at hf
  simp only [List.map_cons, List.map_nil, List.cons.injEq, Prod.mk.injEq, and_true] at hf
  obtain ⟨⟨a0, a1, a2⟩, b0, b1, b2⟩ := hf
  have a3 : ¬ f0.name = "_" := by simpa using a0
  have b3 : ¬ f1.name = "_" := by simpa using b0
  rcases h : (s.toList == s'.toList) with _ | _
  · simp [Op.eqFields, Sem.run_bind, a1, a2, a3, p0, r, h]
  · rcases h2 : (k == k') with _ | _ <;> simp [Op.eqFields, Sem.run_bind, a1, a2, a3, b1, b2, b3, p0, p1, q, r, h, h2]
set_option maxRecDepth 100000 in
set_option maxHeartbeats 4000000 in
theorem sl_Equal_str (A B : Option Addr) (n m c d : Nat) (la lb : List ByteArray) (w : World) (hA : Hid (Sl w (.slice A n c) n 1 (strCells la))) (hB : Hid (Sl w (.slice B m d) m 1 (strCells lb))) :
    Calls Tryz.prog 104 #[.slice A n c, .slice B m d] w (EqAns (la = lb) w) := by
  have hla := Lib.hid (show la.length = n by have := hA.out.len; rw [strCells_len] at this; omega)
  have hlb := Lib.hid (show lb.length = m by have := hB.out.len; rw [strCells_len] at this; omega)
  have hn := Lib.hid (show n ≤ 9223372036854775807 by exact hA.out.bound)
  by_cases hnm : n = m
  · subst hnm
    go_enter Tryz.func104, Tryz.ntmps104
    go_wp2
    go_loopw [5, 13] (fun _ v wr => ∃ (k : Nat), k ≤ n ∧ v = .int .i64 (k : Int) ∧ Hid (Below w.heap.size w wr) ∧ Hid (∀ j, j < k → la.getD j ByteArray.empty = lb.getD j ByteArray.empty)) (fun _ v _ => n - (RowKit.intOf v).toNat)
    case atStart => exact ⟨0, by omega, rfl, Lib.hid (Below.refl _ _), fun j hj => by omega⟩
    case round =>
      obtain ⟨k, hk, rfl, HB, hj⟩ := hrel
      have hn9 := hn.out
      by_cases hlt : k < n
      · obtain ⟨b1, o1, rfl, c1⟩ := (hA.out.below HB.out).str_at hlt
        obtain ⟨b2, o2, rfl, c2⟩ := (hB.out.below HB.out).str_at hlt
        obtain ⟨x, hx⟩ : ∃ x, x = la.getD k ByteArray.empty := ⟨_, rfl⟩
        obtain ⟨y, hy⟩ : ∃ y, y = lb.getD k ByteArray.empty := ⟨_, rfl⟩
        rw [← hx] at c1
        rw [← hy] at c2
        have HX := Lib.hid hx
        have HY := Lib.hid hy
        have hlt2 : (k : Int) < (n : Int) := by omega
        have hk0 : (0 : Int) ≤ (k : Int) := by omega
        have HBD := Lib.hid (fun q => below_then HB.out (below_drewN' (Below.refl wr.heap.size wr) q))
        clear hx hy
        by_cases h : x = y
        · obtain ⟨e1, e2⟩ := str_yes h
          have HE := Lib.hid h
          clear h
          go_wp2
          go_quiet (fail)
          go_wp2
          go_roundw
          case rel =>
            refine ⟨k + 1, by omega, by go_num, Lib.hid (HBD.out _), fun j hj2 => ?_⟩
            by_cases e : j = k
            · rw [e, ← HX.out, ← HY.out]; exact HE.out
            · exact hj.out j (by omega)
          case measure => simp [RowKit.intOf]; omega
        · obtain ⟨e1, e2⟩ := str_no h
          have HE := Lib.hid h
          clear h
          go_wp2
          go_quiet (fail)
          go_wp2
          go_ret
          exact EqAns.no (fun e => HE.out (by rw [HX.out, HY.out, e])) rfl (HBD.out _)

      · have HK := Lib.hid (show k = n by omega)
        go_wp2
        go_ret
        exact EqAns.yes (eq_of_getD ByteArray.empty (by rw [hla.out, hlb.out]) fun j h => hj.out j (by rw [hla.out] at h; have := HK.out; omega)) rfl HB.out
  · have HN := Lib.hid hnm
    have d1 : ((n : Int) != (m : Int)) = true := by simp; omega
    clear hnm
    go_enter Tryz.func104, Tryz.ntmps104
    go_wp2
    go_ret
    exact EqAns.no (fun e => HN.out (by rw [← hla.out, ← hlb.out, e])) rfl (Below.refl _ _)
set_option maxRecDepth 100000 in
set_option maxHeartbeats 4000000 in
theorem sl_Equal_int (A B : Option Addr) (n m c d : Nat) (la lb : List Int) (w : World) (hA : Hid (Sl w (.slice A n c) n 1 (intCells la))) (hB : Hid (Sl w (.slice B m d) m 1 (intCells lb))) :
    Calls Tryz.prog 109 #[.slice A n c, .slice B m d] w (EqAns (la = lb) w) := by
  have hla := Lib.hid (show la.length = n by have := hA.out.len; rw [intCells_len] at this; omega)
  have hlb := Lib.hid (show lb.length = m by have := hB.out.len; rw [intCells_len] at this; omega)
  have hn := Lib.hid (show n ≤ 9223372036854775807 by exact hA.out.bound)
  by_cases hnm : n = m
  · subst hnm
    go_enter Tryz.func109, Tryz.ntmps109
    go_wp2
    go_loopw [5, 13] (fun _ v wr => ∃ (k : Nat), k ≤ n ∧ v = .int .i64 (k : Int) ∧ Hid (Below w.heap.size w wr) ∧ Hid (∀ j, j < k → la.getD j 0 = lb.getD j 0)) (fun _ v _ => n - (RowKit.intOf v).toNat)
    case atStart => exact ⟨0, by omega, rfl, Lib.hid (Below.refl _ _), fun j hj => by omega⟩
    case round =>
      obtain ⟨k, hk, rfl, HB, hj⟩ := hrel
      have hn9 := hn.out
      by_cases hlt : k < n
      · obtain ⟨b1, o1, rfl, c1⟩ := (hA.out.below HB.out).int_at hlt
        obtain ⟨b2, o2, rfl, c2⟩ := (hB.out.below HB.out).int_at hlt
        obtain ⟨x, hx⟩ : ∃ x, x = la.getD k 0 := ⟨_, rfl⟩
        obtain ⟨y, hy⟩ : ∃ y, y = lb.getD k 0 := ⟨_, rfl⟩
        rw [← hx] at c1
        rw [← hy] at c2
        have HX := Lib.hid hx
        have HY := Lib.hid hy
        have hlt2 : (k : Int) < (n : Int) := by omega
        have hk0 : (0 : Int) ≤ (k : Int) := by omega
        have HBD := Lib.hid (fun q => below_then HB.out (below_drewN' (Below.refl wr.heap.size wr) q))
        clear hx hy
        by_cases h : x = y
        · obtain ⟨e1, e2⟩ := int_yes h
          have HE := Lib.hid h
          clear h
          go_wp2
          go_quiet (fail)
          go_wp2
          go_roundw
          case rel =>
            refine ⟨k + 1, by omega, by go_num, Lib.hid (HBD.out _), fun j hj2 => ?_⟩
            by_cases e : j = k
            · rw [e, ← HX.out, ← HY.out]; exact HE.out
            · exact hj.out j (by omega)
          case measure => simp [RowKit.intOf]; omega
        · obtain ⟨e1, e2⟩ := int_no h
          have HE := Lib.hid h
          clear h
          go_wp2
          go_quiet (fail)
          go_wp2
          go_ret
          exact EqAns.no (fun e => HE.out (by rw [HX.out, HY.out, e])) rfl (HBD.out _)

      · have HK := Lib.hid (show k = n by omega)
        go_wp2
        go_ret
        exact EqAns.yes (eq_of_getD 0 (by rw [hla.out, hlb.out]) fun j h => hj.out j (by rw [hla.out] at h; have := HK.out; omega)) rfl HB.out
  · have HN := Lib.hid hnm
    have d1 : ((n : Int) != (m : Int)) = true := by simp; omega
    clear hnm
    go_enter Tryz.func109, Tryz.ntmps109
    go_wp2
    go_ret
    exact EqAns.no (fun e => HN.out (by rw [← hla.out, ← hlb.out, e])) rfl (Below.refl _ _)
set_option maxRecDepth 100000 in
set_option maxHeartbeats 4000000 in
theorem sl_Equal_var (A B : Option Addr) (n m c d : Nat) (la lb : List Vr) (w : World) (hA : Hid (SlOf 2 VrAt w A n c la)) (hB : Hid (SlOf 2 VrAt w B m d lb)) :
    Calls Tryz.prog 106 #[.slice A n c, .slice B m d] w (EqAns (la = lb) w) := by
  have hla := Lib.hid (show la.length = n by exact hA.out.len.1)
  have hlb := Lib.hid (show lb.length = m by exact hB.out.len.1)
  have hn := Lib.hid (show n ≤ 9223372036854775807 by have := hA.out.len; omega)
  by_cases hnm : n = m
  · subst hnm
    go_enter Tryz.func106, Tryz.ntmps106
    go_wp2
    go_loopw [5, 13] (fun _ v wr => ∃ (k : Nat), k ≤ n ∧ v = .int .i64 (k : Int) ∧ Hid (Below w.heap.size w wr) ∧ Hid (∀ j, j < k → la.getD j default = lb.getD j default)) (fun _ v _ => n - (RowKit.intOf v).toNat)
    case atStart => exact ⟨0, by omega, rfl, Lib.hid (Below.refl _ _), fun j hj => by omega⟩
    case round =>
      obtain ⟨k, hk, rfl, HB, hj⟩ := hrel
      have hn9 := hn.out
      by_cases hlt : k < n
      · obtain ⟨b1, o1, rfl, P⟩ := (hA.out.below VrAt.stays HB.out).at_ hlt
        obtain ⟨b2, o2, rfl, Q⟩ := (hB.out.below VrAt.stays HB.out).at_ hlt
        obtain ⟨x, hx⟩ : ∃ x, x = la.getD k default := ⟨_, rfl⟩
        obtain ⟨y, hy⟩ : ∃ y, y = lb.getD k default := ⟨_, rfl⟩
        rw [← hx] at P
        rw [← hy] at Q
        have HX := Lib.hid hx
        have HY := Lib.hid hy
        have hlt2 : (k : Int) < (n : Int) := by omega
        have hk0 : (0 : Int) ≤ (k : Int) := by omega
        have HBD := Lib.hid (fun q => below_then HB.out (below_drewN' (Below.refl wr.heap.size wr) q))
        clear hx hy
        have c1 := P.c0
        have c2 := P.c1
        have c3 := Q.c0
        have c4 := Q.c1
        clear P Q
        have nq := neq_var2
        obtain ⟨x1, x2⟩ := x
        obtain ⟨y1, y2⟩ := y
        simp only at c1 c2 c3 c4
        by_cases h1 : x1 = y1
        · obtain ⟨e1, e2⟩ := str_yes h1
          by_cases h2 : x2 = y2
          · obtain ⟨e3, e4⟩ := int_yes h2
            have h : (⟨x1, x2⟩ : Vr) = ⟨y1, y2⟩ := by rw [h1, h2]
            clear h1 h2
            have HE := Lib.hid h
            clear h
            go_wp2
            go_quiet (fail)
            go_wp2
            go_roundw
            case rel =>
              refine ⟨k + 1, by omega, by go_num, Lib.hid (HBD.out _), fun j hj2 => ?_⟩
              by_cases e : j = k
              · rw [e, ← HX.out, ← HY.out]; exact HE.out
              · exact hj.out j (by omega)
            case measure => simp [RowKit.intOf]; omega
          · obtain ⟨e3, e4⟩ := int_no h2
            have h : ¬ (⟨x1, x2⟩ : Vr) = ⟨y1, y2⟩ := fun e => h2 (by injection e)
            clear h1 h2
            have HE := Lib.hid h
            clear h
            go_wp2
            go_quiet (fail)
            go_wp2
            go_ret
            exact EqAns.no (fun e => HE.out (by rw [HX.out, HY.out, e])) rfl (HBD.out _)
        · obtain ⟨e1, e2⟩ := str_no h1
          have h : ¬ (⟨x1, x2⟩ : Vr) = ⟨y1, y2⟩ := fun e => h1 (by injection e)
          clear h1
          have HE := Lib.hid h
          clear h
          go_wp2
          go_quiet (fail)
          go_wp2
          go_ret
          exact EqAns.no (fun e => HE.out (by rw [HX.out, HY.out, e])) rfl (HBD.out _)

      · have HK := Lib.hid (show k = n by omega)
        go_wp2
        go_ret
        exact EqAns.yes (eq_of_getD default (by rw [hla.out, hlb.out]) fun j h => hj.out j (by rw [hla.out] at h; have := HK.out; omega)) rfl HB.out
  · have HN := Lib.hid hnm
    have d1 : ((n : Int) != (m : Int)) = true := by simp; omega
    clear hnm
    go_enter Tryz.func106, Tryz.ntmps106
    go_wp2
    go_ret
    exact EqAns.no (fun e => HN.out (by rw [← hla.out, ← hlb.out, e])) rfl (Below.refl _ _)
theorem sl_Equal_pair (A B : Option Addr) (n m c d : Nat) (la lb : List (Int × Int)) (w : World) (hA : Hid (Sl w (.slice A n c) n 2 (pairCells la))) (hB : Hid (Sl w (.slice B m d) m 2 (pairCells lb))) :
    Calls Tryz.prog 105 #[.slice A n c, .slice B m d] w (EqAns (la = lb) w) :=
  (slices_EqualP A B n m c d la lb w hA hB hA.out.bound hB.out.bound).mono fun _ _ ⟨h1, k, h2⟩ => ⟨decide (la = lb), h1, decide_eq_true_iff, by rw [h2]; exact below_drewN' (Below.refl _ _) k⟩
end Go.Proofs.YtkpjhjoopdbkaaaGreatDoor
