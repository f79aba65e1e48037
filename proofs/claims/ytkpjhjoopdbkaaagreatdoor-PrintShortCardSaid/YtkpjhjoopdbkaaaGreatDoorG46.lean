/- Joined: Package print: what is alike: arcs, colours, places. Printed by gen_prH.py. -/
import Derived.Test.YtkpjhjoopdbkaaaGreatDoorG39
import Derived.Test.YtkpjhjoopdbkaaaGreatDoorG45
namespace Go.Proofs.YtkpjhjoopdbkaaaGreatDoor
open Go.RowKit
theorem EqAns.of_yes {P : Prop} {w w' : World} {e : Ending} (h : P) (k : EqAns P w e w') : e = .returned (.bool true) ∧ Below w.heap.size w w' := by
  obtain ⟨b, e1, e2, e3⟩ := k
  exact ⟨by rw [e1, e2.2 h], e3⟩
theorem EqAns.of_no {P : Prop} {w w' : World} {e : Ending} (h : ¬ P) (k : EqAns P w e w') : e = .returned (.bool false) ∧ Below w.heap.size w w' := by
  obtain ⟨b, e1, e2, e3⟩ := k
  refine ⟨?_, e3⟩
  rw [e1]
  cases b with
  | false => rfl
  | true => exact absurd (e2.1 rfl) h
theorem same_yes {a b : Tr} (h : a = b) : sameT a b = true := by rw [h]; exact sameT_self b
/-- Whether two expressions are alike. -/
theorem pr_ExprSame (a b : Tr) (A : Option Addr) (m c : Nat) (B : Option Addr) (n d : Nat) (w : World) (ha : Hid (TrAt w A m c a)) (hb : Hid (TrAt w B n d b)) : Calls Tryz.prog 11 #[a.val A m c, b.val B n d] w (EqAns (a = b) w) :=
  (ex_Same a.sz a b (Nat.le_refl _) A m c B n d w ha hb).mono fun _ _ ⟨h1, h2⟩ => ⟨sameT a b, h1, ⟨fun h => same_eq a b h, fun h => same_yes h⟩, h2⟩
set_option maxRecDepth 100000 in
set_option maxHeartbeats 4000000 in
theorem pr_sameArc (x y : Ar) (A : Option Addr) (m c : Nat) (B : Option Addr) (n d : Nat) (w : World) (ha : Hid (TrAt w A m c x.expr)) (hb : Hid (TrAt w B n d y.expr)) :
    Calls Tryz.prog 108 #[x.val A m c, y.val B n d] w (EqAns (x = y) w) := by
  obtain ⟨w1, hw1⟩ : ∃ Z, Z = (w.alloc (.cells #[.int .i64 x.place, .int .i64 x.expr.kind, .int .i64 x.expr.num, .slice A m c] 61)).alloc (.cells #[.int .i64 y.place, .int .i64 y.expr.kind, .int .i64 y.expr.num, .slice B n d] 61) := ⟨_, rfl⟩
  have HB1 := Lib.hid (show Below w.heap.size w w1 by rw [hw1]; exact below_then (alrB w _) (alrB _ _))
  have hsz : (w.alloc (.cells #[.int .i64 x.place, .int .i64 x.expr.kind, .int .i64 x.expr.num, .slice A m c] 61)).heap.size = w.heap.size + 1 := World.size_alloc _ _
  have RA := Lib.hid (show w1.heap[w.heap.size]? = some (.cells #[.int .i64 x.place, .int .i64 x.expr.kind, .int .i64 x.expr.num, .slice A m c] 61 (0, 0)) by rw [hw1]; exact row_alloc (heap_alloc_new w _) _)
  have RB := Lib.hid (show w1.heap[w.heap.size + 1]? = some (.cells #[.int .i64 y.place, .int .i64 y.expr.kind, .int .i64 y.expr.num, .slice B n d] 61 (0, 0)) by rw [hw1, ← hsz]; exact heap_alloc_new _ _)
  have HW := Lib.hid hw1.symm
  obtain ⟨g, hg⟩ : ∃ y, y = w.heap.size := ⟨_, rfl⟩
  have HG := Lib.hid hg.symm
  rw [← hg] at RA RB
  have HC := Lib.hid (show ∀ W, Below w1.heap.size w1 W → W.cell? ⟨g, 0, none⟩ = some (.int .i64 x.place) ∧ W.cell? ⟨g, 1, none⟩ = some (.int .i64 x.expr.kind) ∧ W.cell? ⟨g, 2, none⟩ = some (.int .i64 x.expr.num) ∧ W.cell? ⟨g, 3, none⟩ = some (.slice A m c) ∧ W.cell? ⟨g + 1, 0, none⟩ = some (.int .i64 y.place) ∧ W.cell? ⟨g + 1, 1, none⟩ = some (.int .i64 y.expr.kind) ∧ W.cell? ⟨g + 1, 2, none⟩ = some (.int .i64 y.expr.num) ∧ W.cell? ⟨g + 1, 3, none⟩ = some (.slice B n d) from fun W h => ⟨row_cell (row_below RA.out h) 0 _ rfl, row_cell (row_below RA.out h) 1 _ rfl, row_cell (row_below RA.out h) 2 _ rfl, row_cell (row_below RA.out h) 3 _ rfl, row_cell (row_below RB.out h) 0 _ rfl, row_cell (row_below RB.out h) 1 _ rfl, row_cell (row_below RB.out h) 2 _ rfl, row_cell (row_below RB.out h) 3 _ rfl⟩)
  obtain ⟨z0, z1, z2, z3, z4, z5, z6, z7⟩ := HC.out w1 (Below.refl _ _)
  clear hsz hw1 hg
  have D1 := Lib.hid (fun W (h : Below w1.heap.size w1 W) => pr_ExprSame x.expr y.expr A m c B n d W (Lib.hid (ha.out.kept (below_then HB1.out h))) (Lib.hid (hb.out.kept (below_then HB1.out h))))
  by_cases h0 : x.place = y.place
  · obtain ⟨a0, b0⟩ := int_yes h0
    have H0 := Lib.hid h0
    clear h0
    by_cases h1 : x.expr = y.expr
    · have C1 := Lib.hid (fun W hw => (D1.out W hw).mono fun _ _ q => EqAns.of_yes h1 q)
      have H1 := Lib.hid h1
      clear h1
      go_enter Tryz.func108, Tryz.ntmps108
      go_upto_region 1 with fail
      rw [HG.out, HW.out]
      go_wp2_with (first
        | (go_at_call 11; refine (C1.out _ (by first | exact Below.refl _ _ | exact below_drewN' (Below.refl _ _) _)).mono ?_; rintro e w1 ⟨rfl, hb⟩; have HB1 := Lib.hid (below_then HB1.out (below_then (by first | exact Below.refl _ _ | exact below_drewN' (Below.refl _ _) _) hb)); clear hb))
      go_ret
      exact EqAns.yes (by obtain ⟨a, b⟩ := x; obtain ⟨a', b'⟩ := y; have e0 := H0.out; have e1 := H1.out; simp only at e0 e1; rw [e0, e1]) rfl HB1.out
    · have C1 := Lib.hid (fun W hw => (D1.out W hw).mono fun _ _ q => EqAns.of_no h1 q)
      have H1 := Lib.hid h1
      clear h1
      go_enter Tryz.func108, Tryz.ntmps108
      go_upto_region 1 with fail
      rw [HG.out, HW.out]
      go_wp2_with (first
        | (go_at_call 11; refine (C1.out _ (by first | exact Below.refl _ _ | exact below_drewN' (Below.refl _ _) _)).mono ?_; rintro e w1 ⟨rfl, hb⟩; have HB1 := Lib.hid (below_then HB1.out (below_then (by first | exact Below.refl _ _ | exact below_drewN' (Below.refl _ _) _) hb)); clear hb))
      go_ret
      exact EqAns.no (fun e => H1.out (by rw [e])) rfl HB1.out
  · obtain ⟨a0, b0⟩ := int_no h0
    have H0 := Lib.hid h0
    clear h0
    go_enter Tryz.func108, Tryz.ntmps108
    go_upto_region 1 with fail
    rw [HG.out, HW.out]
    go_wp2_with fail
    go_ret
    exact EqAns.no (fun e => H0.out (by rw [e])) rfl HB1.out
set_option maxRecDepth 100000 in
set_option maxHeartbeats 4000000 in
theorem sl_EqualFunc_arc (A B : Option Addr) (n m c d : Nat) (la lb : List Ar) (w : World) (hA : Hid (SlOf 4 ArAt w A n c la)) (hB : Hid (SlOf 4 ArAt w B m d lb)) :
    Calls Tryz.prog 107 #[.slice A n c, .slice B m d, .func (.func 108) #[] #[]] w (EqAns (la = lb) w) := by
  have hla := Lib.hid (show la.length = n by exact hA.out.len.1)
  have hlb := Lib.hid (show lb.length = m by exact hB.out.len.1)
  have hn := Lib.hid (show n ≤ 9223372036854775807 by have := hA.out.len; omega)
  by_cases hnm : n = m
  · subst hnm
    go_enter Tryz.func107, Tryz.ntmps107
    go_wp2
    go_loopw [17] (fun v wr => ∃ (k : Nat), k ≤ n ∧ v = .int .i64 (k : Int) ∧ Hid (Below w.heap.size w wr) ∧ Hid (∀ j, j < k → la.getD j default = lb.getD j default)) (fun v _ => n - (RowKit.intOf v).toNat)
    case atStart => exact ⟨0, by omega, rfl, Lib.hid (Below.refl _ _), fun j hj => by omega⟩
    case round =>
      obtain ⟨k, hk, rfl, HB, hj⟩ := hrel
      have hn9 := hn.out
      by_cases hlt : k < n
      · obtain ⟨b1, o1, rfl, Aa, na, ca, P⟩ := (hA.out.below ArAt.stays HB.out).at_ hlt
        obtain ⟨b2, o2, rfl, Ab, nb, cb, Q⟩ := (hB.out.below ArAt.stays HB.out).at_ hlt
        obtain ⟨x, hx⟩ : ∃ x, x = la.getD k default := ⟨_, rfl⟩
        obtain ⟨y, hy⟩ : ∃ y, y = lb.getD k default := ⟨_, rfl⟩
        rw [← hx] at P
        rw [← hy] at Q
        have HX := Lib.hid hx
        have HY := Lib.hid hy
        have hlt2 : (k : Int) < (n : Int) := by omega
        have hk0 : (0 : Int) ≤ (k : Int) := by omega
        have h1 := alrB wr (.cells #[.int .i64 x.place, .int .i64 x.expr.kind, .int .i64 x.expr.num, .slice Aa na ca] 61)
        have h2 := below_then h1 (alrB _ (.cells #[.int .i64 y.place, .int .i64 y.expr.kind, .int .i64 y.expr.num, .slice Ab nb cb] 61))
        have cx := pr_sameArc x y Aa na ca Ab nb cb _ (Lib.hid (P.tr.kept h2)) (Lib.hid (Q.tr.kept h2))
        have HB2 := Lib.hid (below_then HB.out h2)
        have c0 := P.c0
        have c1 := P.c1
        have c2 := P.c2
        have c3 := P.c3
        have e0 := cell_kept h1 Q.c0
        have e1 := cell_kept h1 Q.c1
        have e2 := cell_kept h1 Q.c2
        have e3 := cell_kept h1 Q.c3
        clear hx hy P Q h1 h2
        by_cases h : x = y
        · have CX := Lib.hid (cx.mono fun _ _ q => EqAns.of_yes h q)
          have HE := Lib.hid h
          clear h cx
          go_wp2_with (go_at_call 108; refine CX.out.mono ?_; rintro e w5 ⟨rfl, hb5⟩; have HB5 := Lib.hid (below_then HB2.out hb5); clear hb5)
          go_roundw
          case rel =>
            refine ⟨k + 1, by omega, by go_num, HB5, fun j hj2 => ?_⟩
            by_cases e : j = k
            · rw [e, ← HX.out, ← HY.out]; exact HE.out
            · exact hj.out j (by omega)
          case measure => simp [RowKit.intOf]; omega
        · have CX := Lib.hid (cx.mono fun _ _ q => EqAns.of_no h q)
          have HE := Lib.hid h
          clear h cx
          go_wp2_with (go_at_call 108; refine CX.out.mono ?_; rintro e w5 ⟨rfl, hb5⟩; have HB5 := Lib.hid (below_then HB2.out hb5); clear hb5)
          go_ret
          exact EqAns.no (fun e => HE.out (by rw [HX.out, HY.out, e])) rfl HB5.out
      · have HK := Lib.hid (show k = n by omega)
        go_wp2
        go_ret
        exact EqAns.yes (eq_of_getD default (by rw [hla.out, hlb.out]) fun j h => hj.out j (by rw [hla.out] at h; have := HK.out; omega)) rfl HB.out
  · have HN := Lib.hid hnm
    have d1 : ((n : Int) != (m : Int)) = true := by simp; omega
    clear hnm
    go_enter Tryz.func107, Tryz.ntmps107
    go_wp2
    go_ret
    exact EqAns.no (fun e => HN.out (by rw [← hla.out, ← hlb.out, e])) rfl (Below.refl _ _)
set_option maxRecDepth 100000 in
set_option maxHeartbeats 4000000 in
theorem pr_sameColour (x y : Col) (A : Option Addr) (m c : Nat) (B : Option Addr) (n d : Nat) (w : World) (ha : Hid (Sl w (.slice A m c) m 1 (strCells x.names))) (hb : Hid (Sl w (.slice B n d) n 1 (strCells y.names))) :
    Calls Tryz.prog 50 #[colV' x A m c, colV' y B n d] w (EqAns (x = y) w) := by
  obtain ⟨w1, hw1⟩ : ∃ Z, Z = (w.alloc (.cells #[.string x.name, .int .i64 x.kind, .int .i64 x.lo, .int .i64 x.hi, .slice A m c, .int .i64 x.first, .int .i64 x.then_] 82)).alloc (.cells #[.string y.name, .int .i64 y.kind, .int .i64 y.lo, .int .i64 y.hi, .slice B n d, .int .i64 y.first, .int .i64 y.then_] 82) := ⟨_, rfl⟩
  have HB1 := Lib.hid (show Below w.heap.size w w1 by rw [hw1]; exact below_then (alrB w _) (alrB _ _))
  have hsz : (w.alloc (.cells #[.string x.name, .int .i64 x.kind, .int .i64 x.lo, .int .i64 x.hi, .slice A m c, .int .i64 x.first, .int .i64 x.then_] 82)).heap.size = w.heap.size + 1 := World.size_alloc _ _
  have RA := Lib.hid (show w1.heap[w.heap.size]? = some (.cells #[.string x.name, .int .i64 x.kind, .int .i64 x.lo, .int .i64 x.hi, .slice A m c, .int .i64 x.first, .int .i64 x.then_] 82 (0, 0)) by rw [hw1]; exact row_alloc (heap_alloc_new w _) _)
  have RB := Lib.hid (show w1.heap[w.heap.size + 1]? = some (.cells #[.string y.name, .int .i64 y.kind, .int .i64 y.lo, .int .i64 y.hi, .slice B n d, .int .i64 y.first, .int .i64 y.then_] 82 (0, 0)) by rw [hw1, ← hsz]; exact heap_alloc_new _ _)
  have HW := Lib.hid hw1.symm
  obtain ⟨g, hg⟩ : ∃ y, y = w.heap.size := ⟨_, rfl⟩
  have HG := Lib.hid hg.symm
  rw [← hg] at RA RB
  have HC := Lib.hid (show ∀ W, Below w1.heap.size w1 W → W.cell? ⟨g, 0, none⟩ = some (.string x.name) ∧ W.cell? ⟨g, 1, none⟩ = some (.int .i64 x.kind) ∧ W.cell? ⟨g, 2, none⟩ = some (.int .i64 x.lo) ∧ W.cell? ⟨g, 3, none⟩ = some (.int .i64 x.hi) ∧ W.cell? ⟨g, 4, none⟩ = some (.slice A m c) ∧ W.cell? ⟨g, 5, none⟩ = some (.int .i64 x.first) ∧ W.cell? ⟨g, 6, none⟩ = some (.int .i64 x.then_) ∧ W.cell? ⟨g + 1, 0, none⟩ = some (.string y.name) ∧ W.cell? ⟨g + 1, 1, none⟩ = some (.int .i64 y.kind) ∧ W.cell? ⟨g + 1, 2, none⟩ = some (.int .i64 y.lo) ∧ W.cell? ⟨g + 1, 3, none⟩ = some (.int .i64 y.hi) ∧ W.cell? ⟨g + 1, 4, none⟩ = some (.slice B n d) ∧ W.cell? ⟨g + 1, 5, none⟩ = some (.int .i64 y.first) ∧ W.cell? ⟨g + 1, 6, none⟩ = some (.int .i64 y.then_) from fun W h => ⟨row_cell (row_below RA.out h) 0 _ rfl, row_cell (row_below RA.out h) 1 _ rfl, row_cell (row_below RA.out h) 2 _ rfl, row_cell (row_below RA.out h) 3 _ rfl, row_cell (row_below RA.out h) 4 _ rfl, row_cell (row_below RA.out h) 5 _ rfl, row_cell (row_below RA.out h) 6 _ rfl, row_cell (row_below RB.out h) 0 _ rfl, row_cell (row_below RB.out h) 1 _ rfl, row_cell (row_below RB.out h) 2 _ rfl, row_cell (row_below RB.out h) 3 _ rfl, row_cell (row_below RB.out h) 4 _ rfl, row_cell (row_below RB.out h) 5 _ rfl, row_cell (row_below RB.out h) 6 _ rfl⟩)
  obtain ⟨z0, z1, z2, z3, z4, z5, z6, z7, z8, z9, z10, z11, z12, z13⟩ := HC.out w1 (Below.refl _ _)
  clear hsz hw1 hg
  have D6 := Lib.hid (fun W (h : Below w1.heap.size w1 W) => sl_Equal_str A B m n c d x.names y.names W (Lib.hid (ha.out.below (below_then HB1.out h))) (Lib.hid (hb.out.below (below_then HB1.out h))))
  by_cases h0 : x.name = y.name
  · obtain ⟨a0, b0⟩ := str_yes h0
    have H0 := Lib.hid h0
    clear h0
    by_cases h1 : x.kind = y.kind
    · obtain ⟨a1, b1⟩ := int_yes h1
      have H1 := Lib.hid h1
      clear h1
      by_cases h2 : x.lo = y.lo
      · obtain ⟨a2, b2⟩ := int_yes h2
        have H2 := Lib.hid h2
        clear h2
        by_cases h3 : x.hi = y.hi
        · obtain ⟨a3, b3⟩ := int_yes h3
          have H3 := Lib.hid h3
          clear h3
          by_cases h4 : x.first = y.first
          · obtain ⟨a4, b4⟩ := int_yes h4
            have H4 := Lib.hid h4
            clear h4
            by_cases h5 : x.then_ = y.then_
            · obtain ⟨a5, b5⟩ := int_yes h5
              have H5 := Lib.hid h5
              clear h5
              by_cases h6 : x.names = y.names
              · have C6 := Lib.hid (fun W hw => (D6.out W hw).mono fun _ _ q => EqAns.of_yes h6 q)
                have H6 := Lib.hid h6
                clear h6
                go_enter Tryz.func50, Tryz.ntmps50
                go_upto_region 1 with fail
                rw [HG.out, HW.out]
                go_wp2_with (first
                  | (go_at_call 104; refine (C6.out _ (by first | exact Below.refl _ _ | exact below_drewN' (Below.refl _ _) _)).mono ?_; rintro e w6 ⟨rfl, hb⟩; have HB6 := Lib.hid (below_then HB1.out (below_then (by first | exact Below.refl _ _ | exact below_drewN' (Below.refl _ _) _) hb)); clear hb))
                go_ret
                exact EqAns.yes (by obtain ⟨_, _, _, _, _, _, _⟩ := x; obtain ⟨_, _, _, _, _, _, _⟩ := y; have e0 := H0.out; have e1 := H1.out; have e2 := H2.out; have e3 := H3.out; have e4 := H4.out; have e5 := H5.out; have e6 := H6.out; simp only at e0 e1 e2 e3 e4 e5 e6; rw [e0, e1, e2, e3, e4, e5, e6]) rfl HB6.out
              · have C6 := Lib.hid (fun W hw => (D6.out W hw).mono fun _ _ q => EqAns.of_no h6 q)
                have H6 := Lib.hid h6
                clear h6
                go_enter Tryz.func50, Tryz.ntmps50
                go_upto_region 1 with fail
                rw [HG.out, HW.out]
                go_wp2_with (first
                  | (go_at_call 104; refine (C6.out _ (by first | exact Below.refl _ _ | exact below_drewN' (Below.refl _ _) _)).mono ?_; rintro e w6 ⟨rfl, hb⟩; have HB6 := Lib.hid (below_then HB1.out (below_then (by first | exact Below.refl _ _ | exact below_drewN' (Below.refl _ _) _) hb)); clear hb))
                go_ret
                exact EqAns.no (fun e => H6.out (by rw [e])) rfl HB6.out
            · obtain ⟨a5, b5⟩ := int_no h5
              have H5 := Lib.hid h5
              clear h5
              go_enter Tryz.func50, Tryz.ntmps50
              go_upto_region 1 with fail
              rw [HG.out, HW.out]
              go_wp2_with fail
              go_ret
              exact EqAns.no (fun e => H5.out (by rw [e])) rfl HB1.out
          · obtain ⟨a4, b4⟩ := int_no h4
            have H4 := Lib.hid h4
            clear h4
            go_enter Tryz.func50, Tryz.ntmps50
            go_upto_region 1 with fail
            rw [HG.out, HW.out]
            go_wp2_with fail
            go_ret
            exact EqAns.no (fun e => H4.out (by rw [e])) rfl HB1.out
        · obtain ⟨a3, b3⟩ := int_no h3
          have H3 := Lib.hid h3
          clear h3
          go_enter Tryz.func50, Tryz.ntmps50
          go_upto_region 1 with fail
          rw [HG.out, HW.out]
          go_wp2_with fail
          go_ret
          exact EqAns.no (fun e => H3.out (by rw [e])) rfl HB1.out
      · obtain ⟨a2, b2⟩ := int_no h2
        have H2 := Lib.hid h2
        clear h2
        go_enter Tryz.func50, Tryz.ntmps50
        go_upto_region 1 with fail
        rw [HG.out, HW.out]
        go_wp2_with fail
        go_ret
        exact EqAns.no (fun e => H2.out (by rw [e])) rfl HB1.out
    · obtain ⟨a1, b1⟩ := int_no h1
      have H1 := Lib.hid h1
      clear h1
      go_enter Tryz.func50, Tryz.ntmps50
      go_upto_region 1 with fail
      rw [HG.out, HW.out]
      go_wp2_with fail
      go_ret
      exact EqAns.no (fun e => H1.out (by rw [e])) rfl HB1.out
  · obtain ⟨a0, b0⟩ := str_no h0
    have H0 := Lib.hid h0
    clear h0
    go_enter Tryz.func50, Tryz.ntmps50
    go_upto_region 1 with fail
    rw [HG.out, HW.out]
    go_wp2_with fail
    go_ret
    exact EqAns.no (fun e => H0.out (by rw [e])) rfl HB1.out
set_option maxRecDepth 100000 in
set_option maxHeartbeats 4000000 in
theorem sl_EqualFunc_col (A B : Option Addr) (n m c d : Nat) (la lb : List Col) (w : World) (hA : Hid (Cols w A n c la)) (hB : Hid (Cols w B m d lb)) :
    Calls Tryz.prog 49 #[.slice A n c, .slice B m d, .func (.func 50) #[] #[]] w (EqAns (la = lb) w) := by
  have hla := Lib.hid (show la.length = n by exact hA.out.2.2.1)
  have hlb := Lib.hid (show lb.length = m by exact hB.out.2.2.1)
  have hn := Lib.hid (show n ≤ 9223372036854775807 by have h1 := hA.out.1; have h2 := hA.out.2.1; omega)
  by_cases hnm : n = m
  · subst hnm
    go_enter Tryz.func49, Tryz.ntmps49
    go_wp2
    go_loopw [17] (fun v wr => ∃ (k : Nat), k ≤ n ∧ v = .int .i64 (k : Int) ∧ Hid (Below w.heap.size w wr) ∧ Hid (∀ j, j < k → la.getD j default = lb.getD j default)) (fun v _ => n - (RowKit.intOf v).toNat)
    case atStart => exact ⟨0, by omega, rfl, Lib.hid (Below.refl _ _), fun j hj => by omega⟩
    case round =>
      obtain ⟨k, hk, rfl, HB, hj⟩ := hrel
      have hn9 := hn.out
      by_cases hlt : k < n
      · obtain ⟨b1, o1, rfl, Aa, na, ca, P⟩ := (hA.out.below HB.out).at_ hlt
        obtain ⟨b2, o2, rfl, Ab, nb, cb, Q⟩ := (hB.out.below HB.out).at_ hlt
        obtain ⟨x, hx⟩ : ∃ x, x = la.getD k default := ⟨_, rfl⟩
        obtain ⟨y, hy⟩ : ∃ y, y = lb.getD k default := ⟨_, rfl⟩
        rw [← hx] at P
        rw [← hy] at Q
        have HX := Lib.hid hx
        have HY := Lib.hid hy
        have hlt2 : (k : Int) < (n : Int) := by omega
        have hk0 : (0 : Int) ≤ (k : Int) := by omega
        have h1 := alrB wr (.cells #[.string x.name, .int .i64 x.kind, .int .i64 x.lo, .int .i64 x.hi, .slice Aa na ca, .int .i64 x.first, .int .i64 x.then_] 82)
        have h2 := below_then h1 (alrB _ (.cells #[.string y.name, .int .i64 y.kind, .int .i64 y.lo, .int .i64 y.hi, .slice Ab nb cb, .int .i64 y.first, .int .i64 y.then_] 82))
        have cx := pr_sameColour x y Aa na ca Ab nb cb _ (Lib.hid (P.names.below h2)) (Lib.hid (Q.names.below h2))
        have HB2 := Lib.hid (below_then HB.out h2)
        have c0 := P.c0
        have c1 := P.c1
        have c2 := P.c2
        have c3 := P.c3
        have c4 := P.c4
        have c5 := P.c5
        have c6 := P.c6
        have e0 := cell_kept h1 Q.c0
        have e1 := cell_kept h1 Q.c1
        have e2 := cell_kept h1 Q.c2
        have e3 := cell_kept h1 Q.c3
        have e4 := cell_kept h1 Q.c4
        have e5 := cell_kept h1 Q.c5
        have e6 := cell_kept h1 Q.c6
        clear hx hy P Q h1 h2
        by_cases h : x = y
        · have CX := Lib.hid (cx.mono fun _ _ q => EqAns.of_yes h q)
          have HE := Lib.hid h
          clear h cx
          go_wp2_with (go_at_call 50; refine CX.out.mono ?_; rintro e w5 ⟨rfl, hb5⟩; have HB5 := Lib.hid (below_then HB2.out hb5); clear hb5)
          go_roundw
          case rel =>
            refine ⟨k + 1, by omega, by go_num, HB5, fun j hj2 => ?_⟩
            by_cases e : j = k
            · rw [e, ← HX.out, ← HY.out]; exact HE.out
            · exact hj.out j (by omega)
          case measure => simp [RowKit.intOf]; omega
        · have CX := Lib.hid (cx.mono fun _ _ q => EqAns.of_no h q)
          have HE := Lib.hid h
          clear h cx
          go_wp2_with (go_at_call 50; refine CX.out.mono ?_; rintro e w5 ⟨rfl, hb5⟩; have HB5 := Lib.hid (below_then HB2.out hb5); clear hb5)
          go_ret
          exact EqAns.no (fun e => HE.out (by rw [HX.out, HY.out, e])) rfl HB5.out
      · have HK := Lib.hid (show k = n by omega)
        go_wp2
        go_ret
        exact EqAns.yes (eq_of_getD default (by rw [hla.out, hlb.out]) fun j h => hj.out j (by rw [hla.out] at h; have := HK.out; omega)) rfl HB.out
  · have HN := Lib.hid hnm
    have d1 : ((n : Int) != (m : Int)) = true := by simp; omega
    clear hnm
    go_enter Tryz.func49, Tryz.ntmps49
    go_wp2
    go_ret
    exact EqAns.no (fun e => HN.out (by rw [← hla.out, ← hlb.out, e])) rfl (Below.refl _ _)
set_option maxRecDepth 100000 in
set_option maxHeartbeats 4000000 in
theorem pr_samePlace (x y : Pl) (A : Option Addr) (m c : Nat) (B : Option Addr) (n d : Nat) (w : World) (ha : Hid (Sl w (.slice A m c) m 2 (pairCells x.first))) (hb : Hid (Sl w (.slice B n d) n 2 (pairCells y.first))) :
    Calls Tryz.prog 52 #[x.val A m c, y.val B n d] w (EqAns (x = y) w) := by
  obtain ⟨w1, hw1⟩ : ∃ Z, Z = (w.alloc (.cells #[.string x.name, .int .i64 x.colour, .slice A m c] 66)).alloc (.cells #[.string y.name, .int .i64 y.colour, .slice B n d] 66) := ⟨_, rfl⟩
  have HB1 := Lib.hid (show Below w.heap.size w w1 by rw [hw1]; exact below_then (alrB w _) (alrB _ _))
  have hsz : (w.alloc (.cells #[.string x.name, .int .i64 x.colour, .slice A m c] 66)).heap.size = w.heap.size + 1 := World.size_alloc _ _
  have RA := Lib.hid (show w1.heap[w.heap.size]? = some (.cells #[.string x.name, .int .i64 x.colour, .slice A m c] 66 (0, 0)) by rw [hw1]; exact row_alloc (heap_alloc_new w _) _)
  have RB := Lib.hid (show w1.heap[w.heap.size + 1]? = some (.cells #[.string y.name, .int .i64 y.colour, .slice B n d] 66 (0, 0)) by rw [hw1, ← hsz]; exact heap_alloc_new _ _)
  have HW := Lib.hid hw1.symm
  obtain ⟨g, hg⟩ : ∃ y, y = w.heap.size := ⟨_, rfl⟩
  have HG := Lib.hid hg.symm
  rw [← hg] at RA RB
  have HC := Lib.hid (show ∀ W, Below w1.heap.size w1 W → W.cell? ⟨g, 0, none⟩ = some (.string x.name) ∧ W.cell? ⟨g, 1, none⟩ = some (.int .i64 x.colour) ∧ W.cell? ⟨g, 2, none⟩ = some (.slice A m c) ∧ W.cell? ⟨g + 1, 0, none⟩ = some (.string y.name) ∧ W.cell? ⟨g + 1, 1, none⟩ = some (.int .i64 y.colour) ∧ W.cell? ⟨g + 1, 2, none⟩ = some (.slice B n d) from fun W h => ⟨row_cell (row_below RA.out h) 0 _ rfl, row_cell (row_below RA.out h) 1 _ rfl, row_cell (row_below RA.out h) 2 _ rfl, row_cell (row_below RB.out h) 0 _ rfl, row_cell (row_below RB.out h) 1 _ rfl, row_cell (row_below RB.out h) 2 _ rfl⟩)
  obtain ⟨z0, z1, z2, z3, z4, z5⟩ := HC.out w1 (Below.refl _ _)
  clear hsz hw1 hg
  have D2 := Lib.hid (fun W (h : Below w1.heap.size w1 W) => sl_Equal_pair A B m n c d x.first y.first W (Lib.hid (ha.out.below (below_then HB1.out h))) (Lib.hid (hb.out.below (below_then HB1.out h))))
  by_cases h0 : x.name = y.name
  · obtain ⟨a0, b0⟩ := str_yes h0
    have H0 := Lib.hid h0
    clear h0
    by_cases h1 : x.colour = y.colour
    · obtain ⟨a1, b1⟩ := int_yes h1
      have H1 := Lib.hid h1
      clear h1
      by_cases h2 : x.first = y.first
      · have C2 := Lib.hid (fun W hw => (D2.out W hw).mono fun _ _ q => EqAns.of_yes h2 q)
        have H2 := Lib.hid h2
        clear h2
        go_enter Tryz.func52, Tryz.ntmps52
        go_upto_region 1 with fail
        rw [HG.out, HW.out]
        go_wp2_with (first
          | (go_at_call 105; refine (C2.out _ (by first | exact Below.refl _ _ | exact below_drewN' (Below.refl _ _) _)).mono ?_; rintro e w2 ⟨rfl, hb⟩; have HB2 := Lib.hid (below_then HB1.out (below_then (by first | exact Below.refl _ _ | exact below_drewN' (Below.refl _ _) _) hb)); clear hb))
        go_ret
        exact EqAns.yes (by obtain ⟨_, _, _⟩ := x; obtain ⟨_, _, _⟩ := y; have e0 := H0.out; have e1 := H1.out; have e2 := H2.out; simp only at e0 e1 e2; rw [e0, e1, e2]) rfl HB2.out
      · have C2 := Lib.hid (fun W hw => (D2.out W hw).mono fun _ _ q => EqAns.of_no h2 q)
        have H2 := Lib.hid h2
        clear h2
        go_enter Tryz.func52, Tryz.ntmps52
        go_upto_region 1 with fail
        rw [HG.out, HW.out]
        go_wp2_with (first
          | (go_at_call 105; refine (C2.out _ (by first | exact Below.refl _ _ | exact below_drewN' (Below.refl _ _) _)).mono ?_; rintro e w2 ⟨rfl, hb⟩; have HB2 := Lib.hid (below_then HB1.out (below_then (by first | exact Below.refl _ _ | exact below_drewN' (Below.refl _ _) _) hb)); clear hb))
        go_ret
        exact EqAns.no (fun e => H2.out (by rw [e])) rfl HB2.out
    · obtain ⟨a1, b1⟩ := int_no h1
      have H1 := Lib.hid h1
      clear h1
      go_enter Tryz.func52, Tryz.ntmps52
      go_upto_region 1 with fail
      rw [HG.out, HW.out]
      go_wp2_with fail
      go_ret
      exact EqAns.no (fun e => H1.out (by rw [e])) rfl HB1.out
  · obtain ⟨a0, b0⟩ := str_no h0
    have H0 := Lib.hid h0
    clear h0
    go_enter Tryz.func52, Tryz.ntmps52
    go_upto_region 1 with fail
    rw [HG.out, HW.out]
    go_wp2_with fail
    go_ret
    exact EqAns.no (fun e => H0.out (by rw [e])) rfl HB1.out
set_option maxRecDepth 100000 in
set_option maxHeartbeats 4000000 in
theorem sl_EqualFunc_pl (A B : Option Addr) (n m c d : Nat) (la lb : List Pl) (w : World) (hA : Hid (SlOf 3 PlAt w A n c la)) (hB : Hid (SlOf 3 PlAt w B m d lb)) :
    Calls Tryz.prog 51 #[.slice A n c, .slice B m d, .func (.func 52) #[] #[]] w (EqAns (la = lb) w) := by
  have hla := Lib.hid (show la.length = n by exact hA.out.len.1)
  have hlb := Lib.hid (show lb.length = m by exact hB.out.len.1)
  have hn := Lib.hid (show n ≤ 9223372036854775807 by have := hA.out.len; omega)
  by_cases hnm : n = m
  · subst hnm
    go_enter Tryz.func51, Tryz.ntmps51
    go_wp2
    go_loopw [17] (fun v wr => ∃ (k : Nat), k ≤ n ∧ v = .int .i64 (k : Int) ∧ Hid (Below w.heap.size w wr) ∧ Hid (∀ j, j < k → la.getD j default = lb.getD j default)) (fun v _ => n - (RowKit.intOf v).toNat)
    case atStart => exact ⟨0, by omega, rfl, Lib.hid (Below.refl _ _), fun j hj => by omega⟩
    case round =>
      obtain ⟨k, hk, rfl, HB, hj⟩ := hrel
      have hn9 := hn.out
      by_cases hlt : k < n
      · obtain ⟨b1, o1, rfl, Aa, na, ca, P⟩ := (hA.out.below PlAt.stays HB.out).at_ hlt
        obtain ⟨b2, o2, rfl, Ab, nb, cb, Q⟩ := (hB.out.below PlAt.stays HB.out).at_ hlt
        obtain ⟨x, hx⟩ : ∃ x, x = la.getD k default := ⟨_, rfl⟩
        obtain ⟨y, hy⟩ : ∃ y, y = lb.getD k default := ⟨_, rfl⟩
        rw [← hx] at P
        rw [← hy] at Q
        have HX := Lib.hid hx
        have HY := Lib.hid hy
        have hlt2 : (k : Int) < (n : Int) := by omega
        have hk0 : (0 : Int) ≤ (k : Int) := by omega
        have h1 := alrB wr (.cells #[.string x.name, .int .i64 x.colour, .slice Aa na ca] 66)
        have h2 := below_then h1 (alrB _ (.cells #[.string y.name, .int .i64 y.colour, .slice Ab nb cb] 66))
        have cx := pr_samePlace x y Aa na ca Ab nb cb _ (Lib.hid (P.sl.below h2)) (Lib.hid (Q.sl.below h2))
        have HB2 := Lib.hid (below_then HB.out h2)
        have c0 := P.c0
        have c1 := P.c1
        have c2 := P.c2
        have e0 := cell_kept h1 Q.c0
        have e1 := cell_kept h1 Q.c1
        have e2 := cell_kept h1 Q.c2
        clear hx hy P Q h1 h2
        by_cases h : x = y
        · have CX := Lib.hid (cx.mono fun _ _ q => EqAns.of_yes h q)
          have HE := Lib.hid h
          clear h cx
          go_wp2_with (go_at_call 52; refine CX.out.mono ?_; rintro e w5 ⟨rfl, hb5⟩; have HB5 := Lib.hid (below_then HB2.out hb5); clear hb5)
          go_roundw
          case rel =>
            refine ⟨k + 1, by omega, by go_num, HB5, fun j hj2 => ?_⟩
            by_cases e : j = k
            · rw [e, ← HX.out, ← HY.out]; exact HE.out
            · exact hj.out j (by omega)
          case measure => simp [RowKit.intOf]; omega
        · have CX := Lib.hid (cx.mono fun _ _ q => EqAns.of_no h q)
          have HE := Lib.hid h
          clear h cx
          go_wp2_with (go_at_call 52; refine CX.out.mono ?_; rintro e w5 ⟨rfl, hb5⟩; have HB5 := Lib.hid (below_then HB2.out hb5); clear hb5)
          go_ret
          exact EqAns.no (fun e => HE.out (by rw [HX.out, HY.out, e])) rfl HB5.out
      · have HK := Lib.hid (show k = n by omega)
        go_wp2
        go_ret
        exact EqAns.yes (eq_of_getD default (by rw [hla.out, hlb.out]) fun j h => hj.out j (by rw [hla.out] at h; have := HK.out; omega)) rfl HB.out
  · have HN := Lib.hid hnm
    have d1 : ((n : Int) != (m : Int)) = true := by simp; omega
    clear hnm
    go_enter Tryz.func51, Tryz.ntmps51
    go_wp2
    go_ret
    exact EqAns.no (fun e => HN.out (by rw [← hla.out, ← hlb.out, e])) rfl (Below.refl _ _)
end Go.Proofs.YtkpjhjoopdbkaaaGreatDoor
