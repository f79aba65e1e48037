/- Joined: Package print: what is alike: tasks, nets. Printed by gen_prI.py. -/
import Derived.Test.YtkpjhjoopdbkaaaGreatDoorG46
import Derived.Test.YtkpjhjoopdbkaaaGreatDoorG47
namespace Go.Proofs.YtkpjhjoopdbkaaaGreatDoor
open Go.RowKit
theorem neq3g_ (a b c d e f : Int) (w : World) : (binOp .neq 57 (.agg #[.int .i64 a, .int .i64 b, .int .i64 c]) (.agg #[.int .i64 d, .int .i64 e, .int .i64 f])).run Tryz.prog w = .ok (.bool (!(a == d && (b == e && c == f)))) w := by
  rw [run_neq_struct, eq3_ a b c d e f w 9998]; rfl
theorem many_yes {a b c d e f : Int} (h : (a, b, c) = (d, e, f)) : (a == d && (b == e && c == f)) = true := by
  injection h with h1 h2
  injection h2 with h2 h3
  subst h1 h2 h3
  simp
theorem many_no {a b c d e f : Int} (h : ¬ (a, b, c) = (d, e, f)) : (a == d && (b == e && c == f)) = false := by
  rw [← Bool.not_eq_true]
  intro q
  simp only [Bool.and_eq_true, beq_iff_eq] at q
  exact h (by rw [q.1, q.2.1, q.2.2])
set_option maxRecDepth 100000 in
set_option maxHeartbeats 16000000 in
theorem pr_sameTask (x y : Tk) (Avx : Option Addr) (nvx cvx : Nat) (Agx : Option Addr) (mgx cgx : Nat) (Aix : Option Addr) (nix cix : Nat) (Aox : Option Addr) (nox cox : Nat) (Acx : Option Addr) (ncx ccx : Nat) (Avy : Option Addr) (nvy cvy : Nat) (Agy : Option Addr) (mgy cgy : Nat) (Aiy : Option Addr) (niy ciy : Nat) (Aoy : Option Addr) (noy coy : Nat) (Acy : Option Addr) (ncy ccy : Nat) (w : World) (ha : Hid (TkS2 w Avx nvx cvx Agx mgx cgx Aix nix cix Aox nox cox Acx ncx ccx x)) (hb : Hid (TkS2 w Avy nvy cvy Agy mgy cgy Aiy niy ciy Aoy noy coy Acy ncy ccy y)) :
    Calls Tryz.prog 54 #[x.val Avx nvx cvx Agx mgx cgx Aix nix cix Aox nox cox Acx ncx ccx, y.val Avy nvy cvy Agy mgy cgy Aiy niy ciy Aoy noy coy Acy ncy ccy] w (EqAns (x = y) w) := by
  obtain ⟨w1, hw1⟩ : ∃ Z, Z = (w.alloc (.cells #[.string x.name, .slice Avx nvx cvx, .int .i64 x.guard.kind, .int .i64 x.guard.num, .slice Agx mgx cgx, .int .i64 x.join, .int .i64 x.split, .slice Aix nix cix, .slice Aox nox cox, .slice Acx ncx ccx, .int .i64 x.after, .int .i64 x.m0, .int .i64 x.m1, .int .i64 x.m2] 59)).alloc (.cells #[.string y.name, .slice Avy nvy cvy, .int .i64 y.guard.kind, .int .i64 y.guard.num, .slice Agy mgy cgy, .int .i64 y.join, .int .i64 y.split, .slice Aiy niy ciy, .slice Aoy noy coy, .slice Acy ncy ccy, .int .i64 y.after, .int .i64 y.m0, .int .i64 y.m1, .int .i64 y.m2] 59) := ⟨_, rfl⟩
  have HB1 := Lib.hid (show Below w.heap.size w w1 by rw [hw1]; exact below_then (alrB w _) (alrB _ _))
  have hsz : (w.alloc (.cells #[.string x.name, .slice Avx nvx cvx, .int .i64 x.guard.kind, .int .i64 x.guard.num, .slice Agx mgx cgx, .int .i64 x.join, .int .i64 x.split, .slice Aix nix cix, .slice Aox nox cox, .slice Acx ncx ccx, .int .i64 x.after, .int .i64 x.m0, .int .i64 x.m1, .int .i64 x.m2] 59)).heap.size = w.heap.size + 1 := World.size_alloc _ _
  have RA := Lib.hid (show w1.heap[w.heap.size]? = some (.cells #[.string x.name, .slice Avx nvx cvx, .int .i64 x.guard.kind, .int .i64 x.guard.num, .slice Agx mgx cgx, .int .i64 x.join, .int .i64 x.split, .slice Aix nix cix, .slice Aox nox cox, .slice Acx ncx ccx, .int .i64 x.after, .int .i64 x.m0, .int .i64 x.m1, .int .i64 x.m2] 59 (0, 0)) by rw [hw1]; exact row_alloc (heap_alloc_new w _) _)
  have RB := Lib.hid (show w1.heap[w.heap.size + 1]? = some (.cells #[.string y.name, .slice Avy nvy cvy, .int .i64 y.guard.kind, .int .i64 y.guard.num, .slice Agy mgy cgy, .int .i64 y.join, .int .i64 y.split, .slice Aiy niy ciy, .slice Aoy noy coy, .slice Acy ncy ccy, .int .i64 y.after, .int .i64 y.m0, .int .i64 y.m1, .int .i64 y.m2] 59 (0, 0)) by rw [hw1, ← hsz]; exact heap_alloc_new _ _)
  have HW := Lib.hid hw1.symm
  obtain ⟨g, hg⟩ : ∃ y, y = w.heap.size := ⟨_, rfl⟩
  have HG := Lib.hid hg.symm
  rw [← hg] at RA RB
  have HC := Lib.hid (show ∀ W, Below w1.heap.size w1 W → W.cell? ⟨g, 0, none⟩ = some (.string x.name) ∧ W.cell? ⟨g, 1, none⟩ = some (.slice Avx nvx cvx) ∧ W.cell? ⟨g, 2, none⟩ = some (.int .i64 x.guard.kind) ∧ W.cell? ⟨g, 3, none⟩ = some (.int .i64 x.guard.num) ∧ W.cell? ⟨g, 4, none⟩ = some (.slice Agx mgx cgx) ∧ W.cell? ⟨g, 5, none⟩ = some (.int .i64 x.join) ∧ W.cell? ⟨g, 6, none⟩ = some (.int .i64 x.split) ∧ W.cell? ⟨g, 7, none⟩ = some (.slice Aix nix cix) ∧ W.cell? ⟨g, 8, none⟩ = some (.slice Aox nox cox) ∧ W.cell? ⟨g, 9, none⟩ = some (.slice Acx ncx ccx) ∧ W.cell? ⟨g, 10, none⟩ = some (.int .i64 x.after) ∧ W.cell? ⟨g, 11, none⟩ = some (.int .i64 x.m0) ∧ W.cell? ⟨g, 12, none⟩ = some (.int .i64 x.m1) ∧ W.cell? ⟨g, 13, none⟩ = some (.int .i64 x.m2) ∧ W.cell? ⟨g + 1, 0, none⟩ = some (.string y.name) ∧ W.cell? ⟨g + 1, 1, none⟩ = some (.slice Avy nvy cvy) ∧ W.cell? ⟨g + 1, 2, none⟩ = some (.int .i64 y.guard.kind) ∧ W.cell? ⟨g + 1, 3, none⟩ = some (.int .i64 y.guard.num) ∧ W.cell? ⟨g + 1, 4, none⟩ = some (.slice Agy mgy cgy) ∧ W.cell? ⟨g + 1, 5, none⟩ = some (.int .i64 y.join) ∧ W.cell? ⟨g + 1, 6, none⟩ = some (.int .i64 y.split) ∧ W.cell? ⟨g + 1, 7, none⟩ = some (.slice Aiy niy ciy) ∧ W.cell? ⟨g + 1, 8, none⟩ = some (.slice Aoy noy coy) ∧ W.cell? ⟨g + 1, 9, none⟩ = some (.slice Acy ncy ccy) ∧ W.cell? ⟨g + 1, 10, none⟩ = some (.int .i64 y.after) ∧ W.cell? ⟨g + 1, 11, none⟩ = some (.int .i64 y.m0) ∧ W.cell? ⟨g + 1, 12, none⟩ = some (.int .i64 y.m1) ∧ W.cell? ⟨g + 1, 13, none⟩ = some (.int .i64 y.m2) from fun W h => ⟨row_cell (row_below RA.out h) 0 _ rfl, row_cell (row_below RA.out h) 1 _ rfl, row_cell (row_below RA.out h) 2 _ rfl, row_cell (row_below RA.out h) 3 _ rfl, row_cell (row_below RA.out h) 4 _ rfl, row_cell (row_below RA.out h) 5 _ rfl, row_cell (row_below RA.out h) 6 _ rfl, row_cell (row_below RA.out h) 7 _ rfl, row_cell (row_below RA.out h) 8 _ rfl, row_cell (row_below RA.out h) 9 _ rfl, row_cell (row_below RA.out h) 10 _ rfl, row_cell (row_below RA.out h) 11 _ rfl, row_cell (row_below RA.out h) 12 _ rfl, row_cell (row_below RA.out h) 13 _ rfl, row_cell (row_below RB.out h) 0 _ rfl, row_cell (row_below RB.out h) 1 _ rfl, row_cell (row_below RB.out h) 2 _ rfl, row_cell (row_below RB.out h) 3 _ rfl, row_cell (row_below RB.out h) 4 _ rfl, row_cell (row_below RB.out h) 5 _ rfl, row_cell (row_below RB.out h) 6 _ rfl, row_cell (row_below RB.out h) 7 _ rfl, row_cell (row_below RB.out h) 8 _ rfl, row_cell (row_below RB.out h) 9 _ rfl, row_cell (row_below RB.out h) 10 _ rfl, row_cell (row_below RB.out h) 11 _ rfl, row_cell (row_below RB.out h) 12 _ rfl, row_cell (row_below RB.out h) 13 _ rfl⟩)
  obtain ⟨z0, z1, z2, z3, z4, z5, z6, z7, z8, z9, z10, z11, z12, z13, z14, z15, z16, z17, z18, z19, z20, z21, z22, z23, z24, z25, z26, z27⟩ := HC.out w1 (Below.refl _ _)
  clear hsz hw1 hg
  have D5 := Lib.hid (fun W (h : Below w1.heap.size w1 W) => sl_Equal_var Avx Avy nvx nvy cvx cvy x.vars y.vars W (Lib.hid (ha.out.vars.below VrAt.stays (below_then HB1.out h))) (Lib.hid (hb.out.vars.below VrAt.stays (below_then HB1.out h))))
  have D6 := Lib.hid (fun W (h : Below w1.heap.size w1 W) => pr_ExprSame x.guard y.guard Agx mgx cgx Agy mgy cgy W (Lib.hid (ha.out.guard.kept (below_then HB1.out h))) (Lib.hid (hb.out.guard.kept (below_then HB1.out h))))
  have D7 := Lib.hid (fun W (h : Below w1.heap.size w1 W) => sl_EqualFunc_arc Aix Aiy nix niy cix ciy x.ins y.ins W (Lib.hid (ha.out.ins.below ArAt.stays (below_then HB1.out h))) (Lib.hid (hb.out.ins.below ArAt.stays (below_then HB1.out h))))
  have D8 := Lib.hid (fun W (h : Below w1.heap.size w1 W) => sl_EqualFunc_arc Aox Aoy nox noy cox coy x.outs y.outs W (Lib.hid (ha.out.outs.below ArAt.stays (below_then HB1.out h))) (Lib.hid (hb.out.outs.below ArAt.stays (below_then HB1.out h))))
  have D9 := Lib.hid (fun W (h : Below w1.heap.size w1 W) => sl_Equal_int Acx Acy ncx ncy ccx ccy x.cancel y.cancel W (Lib.hid (ha.out.cancel.below (below_then HB1.out h))) (Lib.hid (hb.out.cancel.below (below_then HB1.out h))))
  have nq := neq3g_
  by_cases h0 : x.name = y.name
  · obtain ⟨a0, b0⟩ := str_yes h0
    have H0 := Lib.hid h0
    clear h0
    by_cases h1 : x.join = y.join
    · obtain ⟨a1, b1⟩ := int_yes h1
      have H1 := Lib.hid h1
      clear h1
      by_cases h2 : x.split = y.split
      · obtain ⟨a2, b2⟩ := int_yes h2
        have H2 := Lib.hid h2
        clear h2
        by_cases h3 : x.after = y.after
        · obtain ⟨a3, b3⟩ := int_yes h3
          have H3 := Lib.hid h3
          clear h3
          by_cases h4 : (x.m0, x.m1, x.m2) = (y.m0, y.m1, y.m2)
          · have b4 := many_yes h4
            have H4 := Lib.hid h4
            clear h4
            by_cases h5 : x.vars = y.vars
            · have C5 := Lib.hid (fun W hw => (D5.out W hw).mono fun _ _ q => EqAns.of_yes h5 q)
              have H5 := Lib.hid h5
              clear h5
              by_cases h6 : x.guard = y.guard
              · have C6 := Lib.hid (fun W hw => (D6.out W hw).mono fun _ _ q => EqAns.of_yes h6 q)
                have H6 := Lib.hid h6
                clear h6
                by_cases h7 : x.ins = y.ins
                · have C7 := Lib.hid (fun W hw => (D7.out W hw).mono fun _ _ q => EqAns.of_yes h7 q)
                  have H7 := Lib.hid h7
                  clear h7
                  by_cases h8 : x.outs = y.outs
                  · have C8 := Lib.hid (fun W hw => (D8.out W hw).mono fun _ _ q => EqAns.of_yes h8 q)
                    have H8 := Lib.hid h8
                    clear h8
                    by_cases h9 : x.cancel = y.cancel
                    · have C9 := Lib.hid (fun W hw => (D9.out W hw).mono fun _ _ q => EqAns.of_yes h9 q)
                      have H9 := Lib.hid h9
                      clear h9
                      go_enter Tryz.func54, Tryz.ntmps54
                      go_upto_region 1 with fail
                      rw [HG.out, HW.out]
                      go_wp2_with (first
                        | (go_at_call 106; refine (C5.out _ (by first | exact Below.refl _ _ | exact below_drewN' (Below.refl _ _) _)).mono ?_; rintro e w7 ⟨rfl, hb⟩; have HB5 := Lib.hid (below_then (show Below w1.heap.size w1 _ from (by first | exact Below.refl _ _ | exact below_drewN' (Below.refl _ _) _)) hb); clear hb z0 z1 z2 z3 z4 z5 z6 z7 z8 z9 z10 z11 z12 z13 z14 z15 z16 z17 z18 z19 z20 z21 z22 z23 z24 z25 z26 z27; obtain ⟨z0, z1, z2, z3, z4, z5, z6, z7, z8, z9, z10, z11, z12, z13, z14, z15, z16, z17, z18, z19, z20, z21, z22, z23, z24, z25, z26, z27⟩ := HC.out _ HB5.out)
                        | (go_at_call 11; refine (C6.out _ HB5.out).mono ?_; rintro e w8 ⟨rfl, hb⟩; have HB6 := Lib.hid (below_then (show Below w1.heap.size w1 _ from HB5.out) hb); clear hb z0 z1 z2 z3 z4 z5 z6 z7 z8 z9 z10 z11 z12 z13 z14 z15 z16 z17 z18 z19 z20 z21 z22 z23 z24 z25 z26 z27; obtain ⟨z0, z1, z2, z3, z4, z5, z6, z7, z8, z9, z10, z11, z12, z13, z14, z15, z16, z17, z18, z19, z20, z21, z22, z23, z24, z25, z26, z27⟩ := HC.out _ HB6.out)
                        | (go_at_call_of 107 (Value.slice Aix nix cix); refine (C7.out _ HB6.out).mono ?_; rintro e w9 ⟨rfl, hb⟩; have HB7 := Lib.hid (below_then (show Below w1.heap.size w1 _ from HB6.out) hb); clear hb z0 z1 z2 z3 z4 z5 z6 z7 z8 z9 z10 z11 z12 z13 z14 z15 z16 z17 z18 z19 z20 z21 z22 z23 z24 z25 z26 z27; obtain ⟨z0, z1, z2, z3, z4, z5, z6, z7, z8, z9, z10, z11, z12, z13, z14, z15, z16, z17, z18, z19, z20, z21, z22, z23, z24, z25, z26, z27⟩ := HC.out _ HB7.out)
                        | (go_at_call_of 107 (Value.slice Aox nox cox); refine (C8.out _ HB7.out).mono ?_; rintro e w10 ⟨rfl, hb⟩; have HB8 := Lib.hid (below_then (show Below w1.heap.size w1 _ from HB7.out) hb); clear hb z0 z1 z2 z3 z4 z5 z6 z7 z8 z9 z10 z11 z12 z13 z14 z15 z16 z17 z18 z19 z20 z21 z22 z23 z24 z25 z26 z27; obtain ⟨z0, z1, z2, z3, z4, z5, z6, z7, z8, z9, z10, z11, z12, z13, z14, z15, z16, z17, z18, z19, z20, z21, z22, z23, z24, z25, z26, z27⟩ := HC.out _ HB8.out)
                        | (go_at_call 109; refine (C9.out _ HB8.out).mono ?_; rintro e w11 ⟨rfl, hb⟩; have HB9 := Lib.hid (below_then (show Below w1.heap.size w1 _ from HB8.out) hb); clear hb z0 z1 z2 z3 z4 z5 z6 z7 z8 z9 z10 z11 z12 z13 z14 z15 z16 z17 z18 z19 z20 z21 z22 z23 z24 z25 z26 z27; obtain ⟨z0, z1, z2, z3, z4, z5, z6, z7, z8, z9, z10, z11, z12, z13, z14, z15, z16, z17, z18, z19, z20, z21, z22, z23, z24, z25, z26, z27⟩ := HC.out _ HB9.out))
                      go_ret
                      exact EqAns.yes (by obtain ⟨_, _, _, _, _, _, _, _, _, _, _, _⟩ := x; obtain ⟨_, _, _, _, _, _, _, _, _, _, _, _⟩ := y; have e0 := H0.out; have e1 := H1.out; have e2 := H2.out; have e3 := H3.out; have e4 := H4.out; have e5 := H5.out; have e6 := H6.out; have e7 := H7.out; have e8 := H8.out; have e9 := H9.out; simp only [Prod.mk.injEq] at e0 e1 e2 e3 e4 e5 e6 e7 e8 e9; rw [e0, e1, e2, e3, e5, e6, e7, e8, e9, e4.1, e4.2.1, e4.2.2]) rfl (below_then HB1.out HB9.out)
                    · have C9 := Lib.hid (fun W hw => (D9.out W hw).mono fun _ _ q => EqAns.of_no h9 q)
                      have H9 := Lib.hid h9
                      clear h9
                      go_enter Tryz.func54, Tryz.ntmps54
                      go_upto_region 1 with fail
                      rw [HG.out, HW.out]
                      go_wp2_with (first
                        | (go_at_call 106; refine (C5.out _ (by first | exact Below.refl _ _ | exact below_drewN' (Below.refl _ _) _)).mono ?_; rintro e w7 ⟨rfl, hb⟩; have HB5 := Lib.hid (below_then (show Below w1.heap.size w1 _ from (by first | exact Below.refl _ _ | exact below_drewN' (Below.refl _ _) _)) hb); clear hb z0 z1 z2 z3 z4 z5 z6 z7 z8 z9 z10 z11 z12 z13 z14 z15 z16 z17 z18 z19 z20 z21 z22 z23 z24 z25 z26 z27; obtain ⟨z0, z1, z2, z3, z4, z5, z6, z7, z8, z9, z10, z11, z12, z13, z14, z15, z16, z17, z18, z19, z20, z21, z22, z23, z24, z25, z26, z27⟩ := HC.out _ HB5.out)
                        | (go_at_call 11; refine (C6.out _ HB5.out).mono ?_; rintro e w8 ⟨rfl, hb⟩; have HB6 := Lib.hid (below_then (show Below w1.heap.size w1 _ from HB5.out) hb); clear hb z0 z1 z2 z3 z4 z5 z6 z7 z8 z9 z10 z11 z12 z13 z14 z15 z16 z17 z18 z19 z20 z21 z22 z23 z24 z25 z26 z27; obtain ⟨z0, z1, z2, z3, z4, z5, z6, z7, z8, z9, z10, z11, z12, z13, z14, z15, z16, z17, z18, z19, z20, z21, z22, z23, z24, z25, z26, z27⟩ := HC.out _ HB6.out)
                        | (go_at_call_of 107 (Value.slice Aix nix cix); refine (C7.out _ HB6.out).mono ?_; rintro e w9 ⟨rfl, hb⟩; have HB7 := Lib.hid (below_then (show Below w1.heap.size w1 _ from HB6.out) hb); clear hb z0 z1 z2 z3 z4 z5 z6 z7 z8 z9 z10 z11 z12 z13 z14 z15 z16 z17 z18 z19 z20 z21 z22 z23 z24 z25 z26 z27; obtain ⟨z0, z1, z2, z3, z4, z5, z6, z7, z8, z9, z10, z11, z12, z13, z14, z15, z16, z17, z18, z19, z20, z21, z22, z23, z24, z25, z26, z27⟩ := HC.out _ HB7.out)
                        | (go_at_call_of 107 (Value.slice Aox nox cox); refine (C8.out _ HB7.out).mono ?_; rintro e w10 ⟨rfl, hb⟩; have HB8 := Lib.hid (below_then (show Below w1.heap.size w1 _ from HB7.out) hb); clear hb z0 z1 z2 z3 z4 z5 z6 z7 z8 z9 z10 z11 z12 z13 z14 z15 z16 z17 z18 z19 z20 z21 z22 z23 z24 z25 z26 z27; obtain ⟨z0, z1, z2, z3, z4, z5, z6, z7, z8, z9, z10, z11, z12, z13, z14, z15, z16, z17, z18, z19, z20, z21, z22, z23, z24, z25, z26, z27⟩ := HC.out _ HB8.out)
                        | (go_at_call 109; refine (C9.out _ HB8.out).mono ?_; rintro e w11 ⟨rfl, hb⟩; have HB9 := Lib.hid (below_then (show Below w1.heap.size w1 _ from HB8.out) hb); clear hb z0 z1 z2 z3 z4 z5 z6 z7 z8 z9 z10 z11 z12 z13 z14 z15 z16 z17 z18 z19 z20 z21 z22 z23 z24 z25 z26 z27; obtain ⟨z0, z1, z2, z3, z4, z5, z6, z7, z8, z9, z10, z11, z12, z13, z14, z15, z16, z17, z18, z19, z20, z21, z22, z23, z24, z25, z26, z27⟩ := HC.out _ HB9.out))
                      go_ret
                      exact EqAns.no (fun e => H9.out (by rw [e])) rfl (below_then HB1.out HB9.out)
                  · have C8 := Lib.hid (fun W hw => (D8.out W hw).mono fun _ _ q => EqAns.of_no h8 q)
                    have H8 := Lib.hid h8
                    clear h8
                    go_enter Tryz.func54, Tryz.ntmps54
                    go_upto_region 1 with fail
                    rw [HG.out, HW.out]
                    go_wp2_with (first
                      | (go_at_call 106; refine (C5.out _ (by first | exact Below.refl _ _ | exact below_drewN' (Below.refl _ _) _)).mono ?_; rintro e w7 ⟨rfl, hb⟩; have HB5 := Lib.hid (below_then (show Below w1.heap.size w1 _ from (by first | exact Below.refl _ _ | exact below_drewN' (Below.refl _ _) _)) hb); clear hb z0 z1 z2 z3 z4 z5 z6 z7 z8 z9 z10 z11 z12 z13 z14 z15 z16 z17 z18 z19 z20 z21 z22 z23 z24 z25 z26 z27; obtain ⟨z0, z1, z2, z3, z4, z5, z6, z7, z8, z9, z10, z11, z12, z13, z14, z15, z16, z17, z18, z19, z20, z21, z22, z23, z24, z25, z26, z27⟩ := HC.out _ HB5.out)
                      | (go_at_call 11; refine (C6.out _ HB5.out).mono ?_; rintro e w8 ⟨rfl, hb⟩; have HB6 := Lib.hid (below_then (show Below w1.heap.size w1 _ from HB5.out) hb); clear hb z0 z1 z2 z3 z4 z5 z6 z7 z8 z9 z10 z11 z12 z13 z14 z15 z16 z17 z18 z19 z20 z21 z22 z23 z24 z25 z26 z27; obtain ⟨z0, z1, z2, z3, z4, z5, z6, z7, z8, z9, z10, z11, z12, z13, z14, z15, z16, z17, z18, z19, z20, z21, z22, z23, z24, z25, z26, z27⟩ := HC.out _ HB6.out)
                      | (go_at_call_of 107 (Value.slice Aix nix cix); refine (C7.out _ HB6.out).mono ?_; rintro e w9 ⟨rfl, hb⟩; have HB7 := Lib.hid (below_then (show Below w1.heap.size w1 _ from HB6.out) hb); clear hb z0 z1 z2 z3 z4 z5 z6 z7 z8 z9 z10 z11 z12 z13 z14 z15 z16 z17 z18 z19 z20 z21 z22 z23 z24 z25 z26 z27; obtain ⟨z0, z1, z2, z3, z4, z5, z6, z7, z8, z9, z10, z11, z12, z13, z14, z15, z16, z17, z18, z19, z20, z21, z22, z23, z24, z25, z26, z27⟩ := HC.out _ HB7.out)
                      | (go_at_call_of 107 (Value.slice Aox nox cox); refine (C8.out _ HB7.out).mono ?_; rintro e w10 ⟨rfl, hb⟩; have HB8 := Lib.hid (below_then (show Below w1.heap.size w1 _ from HB7.out) hb); clear hb z0 z1 z2 z3 z4 z5 z6 z7 z8 z9 z10 z11 z12 z13 z14 z15 z16 z17 z18 z19 z20 z21 z22 z23 z24 z25 z26 z27; obtain ⟨z0, z1, z2, z3, z4, z5, z6, z7, z8, z9, z10, z11, z12, z13, z14, z15, z16, z17, z18, z19, z20, z21, z22, z23, z24, z25, z26, z27⟩ := HC.out _ HB8.out))
                    go_ret
                    exact EqAns.no (fun e => H8.out (by rw [e])) rfl (below_then HB1.out HB8.out)
                · have C7 := Lib.hid (fun W hw => (D7.out W hw).mono fun _ _ q => EqAns.of_no h7 q)
                  have H7 := Lib.hid h7
                  clear h7
                  go_enter Tryz.func54, Tryz.ntmps54
                  go_upto_region 1 with fail
                  rw [HG.out, HW.out]
                  go_wp2_with (first
                    | (go_at_call 106; refine (C5.out _ (by first | exact Below.refl _ _ | exact below_drewN' (Below.refl _ _) _)).mono ?_; rintro e w7 ⟨rfl, hb⟩; have HB5 := Lib.hid (below_then (show Below w1.heap.size w1 _ from (by first | exact Below.refl _ _ | exact below_drewN' (Below.refl _ _) _)) hb); clear hb z0 z1 z2 z3 z4 z5 z6 z7 z8 z9 z10 z11 z12 z13 z14 z15 z16 z17 z18 z19 z20 z21 z22 z23 z24 z25 z26 z27; obtain ⟨z0, z1, z2, z3, z4, z5, z6, z7, z8, z9, z10, z11, z12, z13, z14, z15, z16, z17, z18, z19, z20, z21, z22, z23, z24, z25, z26, z27⟩ := HC.out _ HB5.out)
                    | (go_at_call 11; refine (C6.out _ HB5.out).mono ?_; rintro e w8 ⟨rfl, hb⟩; have HB6 := Lib.hid (below_then (show Below w1.heap.size w1 _ from HB5.out) hb); clear hb z0 z1 z2 z3 z4 z5 z6 z7 z8 z9 z10 z11 z12 z13 z14 z15 z16 z17 z18 z19 z20 z21 z22 z23 z24 z25 z26 z27; obtain ⟨z0, z1, z2, z3, z4, z5, z6, z7, z8, z9, z10, z11, z12, z13, z14, z15, z16, z17, z18, z19, z20, z21, z22, z23, z24, z25, z26, z27⟩ := HC.out _ HB6.out)
                    | (go_at_call_of 107 (Value.slice Aix nix cix); refine (C7.out _ HB6.out).mono ?_; rintro e w9 ⟨rfl, hb⟩; have HB7 := Lib.hid (below_then (show Below w1.heap.size w1 _ from HB6.out) hb); clear hb z0 z1 z2 z3 z4 z5 z6 z7 z8 z9 z10 z11 z12 z13 z14 z15 z16 z17 z18 z19 z20 z21 z22 z23 z24 z25 z26 z27; obtain ⟨z0, z1, z2, z3, z4, z5, z6, z7, z8, z9, z10, z11, z12, z13, z14, z15, z16, z17, z18, z19, z20, z21, z22, z23, z24, z25, z26, z27⟩ := HC.out _ HB7.out))
                  go_ret
                  exact EqAns.no (fun e => H7.out (by rw [e])) rfl (below_then HB1.out HB7.out)
              · have C6 := Lib.hid (fun W hw => (D6.out W hw).mono fun _ _ q => EqAns.of_no h6 q)
                have H6 := Lib.hid h6
                clear h6
                go_enter Tryz.func54, Tryz.ntmps54
                go_upto_region 1 with fail
                rw [HG.out, HW.out]
                go_wp2_with (first
                  | (go_at_call 106; refine (C5.out _ (by first | exact Below.refl _ _ | exact below_drewN' (Below.refl _ _) _)).mono ?_; rintro e w7 ⟨rfl, hb⟩; have HB5 := Lib.hid (below_then (show Below w1.heap.size w1 _ from (by first | exact Below.refl _ _ | exact below_drewN' (Below.refl _ _) _)) hb); clear hb z0 z1 z2 z3 z4 z5 z6 z7 z8 z9 z10 z11 z12 z13 z14 z15 z16 z17 z18 z19 z20 z21 z22 z23 z24 z25 z26 z27; obtain ⟨z0, z1, z2, z3, z4, z5, z6, z7, z8, z9, z10, z11, z12, z13, z14, z15, z16, z17, z18, z19, z20, z21, z22, z23, z24, z25, z26, z27⟩ := HC.out _ HB5.out)
                  | (go_at_call 11; refine (C6.out _ HB5.out).mono ?_; rintro e w8 ⟨rfl, hb⟩; have HB6 := Lib.hid (below_then (show Below w1.heap.size w1 _ from HB5.out) hb); clear hb z0 z1 z2 z3 z4 z5 z6 z7 z8 z9 z10 z11 z12 z13 z14 z15 z16 z17 z18 z19 z20 z21 z22 z23 z24 z25 z26 z27; obtain ⟨z0, z1, z2, z3, z4, z5, z6, z7, z8, z9, z10, z11, z12, z13, z14, z15, z16, z17, z18, z19, z20, z21, z22, z23, z24, z25, z26, z27⟩ := HC.out _ HB6.out))
                go_ret
                exact EqAns.no (fun e => H6.out (by rw [e])) rfl (below_then HB1.out HB6.out)
            · have C5 := Lib.hid (fun W hw => (D5.out W hw).mono fun _ _ q => EqAns.of_no h5 q)
              have H5 := Lib.hid h5
              clear h5
              go_enter Tryz.func54, Tryz.ntmps54
              go_upto_region 1 with fail
              rw [HG.out, HW.out]
              go_wp2_with (first
                | (go_at_call 106; refine (C5.out _ (by first | exact Below.refl _ _ | exact below_drewN' (Below.refl _ _) _)).mono ?_; rintro e w7 ⟨rfl, hb⟩; have HB5 := Lib.hid (below_then (show Below w1.heap.size w1 _ from (by first | exact Below.refl _ _ | exact below_drewN' (Below.refl _ _) _)) hb); clear hb z0 z1 z2 z3 z4 z5 z6 z7 z8 z9 z10 z11 z12 z13 z14 z15 z16 z17 z18 z19 z20 z21 z22 z23 z24 z25 z26 z27; obtain ⟨z0, z1, z2, z3, z4, z5, z6, z7, z8, z9, z10, z11, z12, z13, z14, z15, z16, z17, z18, z19, z20, z21, z22, z23, z24, z25, z26, z27⟩ := HC.out _ HB5.out))
              go_ret
              exact EqAns.no (fun e => H5.out (by rw [e])) rfl (below_then HB1.out HB5.out)
          · have b4 := many_no h4
            have H4 := Lib.hid h4
            clear h4
            go_enter Tryz.func54, Tryz.ntmps54
            go_upto_region 1 with fail
            rw [HG.out, HW.out]
            go_wp2_with fail
            go_ret
            exact EqAns.no (fun e => H4.out (by rw [e])) rfl HB1.out
        · obtain ⟨a3, b3⟩ := int_no h3
          have H3 := Lib.hid h3
          clear h3
          go_enter Tryz.func54, Tryz.ntmps54
          go_upto_region 1 with fail
          rw [HG.out, HW.out]
          go_wp2_with fail
          go_ret
          exact EqAns.no (fun e => H3.out (by rw [e])) rfl HB1.out
      · obtain ⟨a2, b2⟩ := int_no h2
        have H2 := Lib.hid h2
        clear h2
        go_enter Tryz.func54, Tryz.ntmps54
        go_upto_region 1 with fail
        rw [HG.out, HW.out]
        go_wp2_with fail
        go_ret
        exact EqAns.no (fun e => H2.out (by rw [e])) rfl HB1.out
    · obtain ⟨a1, b1⟩ := int_no h1
      have H1 := Lib.hid h1
      clear h1
      go_enter Tryz.func54, Tryz.ntmps54
      go_upto_region 1 with fail
      rw [HG.out, HW.out]
      go_wp2_with fail
      go_ret
      exact EqAns.no (fun e => H1.out (by rw [e])) rfl HB1.out
  · obtain ⟨a0, b0⟩ := str_no h0
    have H0 := Lib.hid h0
    clear h0
    go_enter Tryz.func54, Tryz.ntmps54
    go_upto_region 1 with fail
    rw [HG.out, HW.out]
    go_wp2_with fail
    go_ret
    exact EqAns.no (fun e => H0.out (by rw [e])) rfl HB1.out
end Go.Proofs.YtkpjhjoopdbkaaaGreatDoor
