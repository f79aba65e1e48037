/- Joined: Package print: clones; copies of leaves. Printed by gen_prK.py. Package print: rows of new memory; copyArcs of one arc. Printed by gen_prL.py. -/
import Derived.Test.YtkpjhjoopdbkaaaGreatDoorG49
import Derived.Test.YtkpjhjoopdbkaaaGreatDoorG22
import Derived.Lib.SmallJoins
import Derived.Handy
import Derived.Deep.RegionLaw
namespace Go.Proofs.YtkpjhjoopdbkaaaGreatDoor
open Go.RowKit
theorem set_same3 {w : World} {g o t : Nat} {c : Array Value} {u : Value} (h : w.heap[g]? = some (.cells c t (0, 0))) : (w.setCell ⟨g, o, none⟩ u).heap[g]? = some (.cells (c.setIfInBounds o u) t (0, 0)) := by
  simp [World.setCell, Array.getElem?_modify, h]
theorem set_other3 {w : World} {g o k : Nat} {u : Value} (h : k ≠ g) : (w.setCell ⟨g, o, none⟩ u).heap[k]? = w.heap[k]? := Below.heap_setCell _ _ _ _ (fun e => h e)
/-- Three cells set. -/
def set3 (w : World) (g o : Nat) (u0 u1 u2 : Value) : World := ((w.setCell ⟨g, o, none⟩ u0).setCell ⟨g, o + 1, none⟩ u1).setCell ⟨g, o + 2, none⟩ u2
theorem below_set3 {B : Nat} {w w' : World} (h : Below B w w') {g : Nat} (hg : B ≤ g) (o : Nat) (u0 u1 u2 : Value) : Below B w (set3 w' g o u0 u1 u2) := by
  unfold set3
  exact ((h.setCell (p := ⟨g, o, none⟩) hg u0).setCell (p := ⟨g, o + 1, none⟩) hg u1).setCell (p := ⟨g, o + 2, none⟩) hg u2
theorem cell_set_self {w : World} {b o : Nat} {u v : Value} (h : w.cell? ⟨b, o, none⟩ = some v) : (w.setCell ⟨b, o, none⟩ u).cell? ⟨b, o, none⟩ = some u := World.cell?_setCell_same _ _ _ h
/-- Three cells, as they were set one by one. -/
theorem set3_steps {w : World} {g : Nat} {v0 v1 v2 : Value} (h0 : w.cell? ⟨g, 0, none⟩ = some v0) (h1 : w.cell? ⟨g, 1, none⟩ = some v1) (h2 : w.cell? ⟨g, 2, none⟩ = some v2) (u0 u1 u2 : Value) :
    (w.setCell ⟨g, 0, none⟩ u0).cell? ⟨g, 0, none⟩ = some u0 ∧ ((w.setCell ⟨g, 0, none⟩ u0).setCell ⟨g, 1, none⟩ u1).cell? ⟨g, 1, none⟩ = some u1 ∧ (((w.setCell ⟨g, 0, none⟩ u0).setCell ⟨g, 1, none⟩ u1).setCell ⟨g, 2, none⟩ u2).cell? ⟨g, 2, none⟩ = some u2 := by
  refine ⟨cell_set_self h0, cell_set_self (v := v1) ?_, cell_set_self (v := v2) ?_⟩
  · rw [World.cell?_setCell_other _ _ _ _ (by simp)]; exact h1
  · rw [World.cell?_setCell_other _ _ _ _ (by simp), World.cell?_setCell_other _ _ _ _ (by simp)]; exact h2
set_option maxRecDepth 100000 in
set_option maxHeartbeats 2000000 in
theorem cl_col (b o n c : Nat) (xs : List Value) (w : World) (hS : Hid (Sl w (.slice (some ⟨b, o, none⟩) n c) n 7 xs)) (h1 : Hid (∀ u ∈ xs, u.oneCell' = true)) (hn : n ≤ 1000) :
    Calls Tryz.prog 87 #[.slice (some ⟨b, o, none⟩) n c] w fun e w' => ∃ v, e = .returned v ∧ w'.ownsRow w.heap.size 82 7 v n xs ∧ Below w.heap.size w w' := by
  have qT : ∀ (w : World) (a : Option Addr) (n c n' c' : Nat), (binOp .eql 35 (.slice a n c) (.slice none n' c')).run Tryz.prog w = .ok (.bool a.isNone) w := fun w a n c n' c' => Lib.run_eql_slice_nil w _ _ a n c n' c' Tryz.underlying35
  have hown := Lib.hid (World.ownsRow_made w (base := w.heap.size) (e := 82) (size := 7) #[] 0 (Nat.le_refl _) (by decide) rfl)
  have hsrc := Lib.hid (hS.out.below ((Below.refl _ w).alloc (Nat.le_refl _) (.cells #[] 82)))
  go_enter Tryz.func87, Tryz.ntmps87
  go_wp2_with (at_builtin; refine wpList_append_sl cols_ty rfl (.tmp 5) (.tmp 6) rfl w.heap.size rfl (by exact hown.out) rfl (by exact hsrc.out) h1.out (by omega) (by omega) (by simp) ?_; intro v4 w4 hown4 hg4 hat4; rw [Nat.zero_add, List.nil_append] at hown4; obtain ⟨A4, c4, rfl, _, _⟩ := own_form hown4; have HO := Lib.hid hown4; have HG := Lib.hid hg4; clear hown4 hg4 hat4)
  go_ret
  exact ⟨_, rfl, HO.out, below_grown (((Below.refl _ w).alloc (Nat.le_refl _) (.cells #[] 82))) HG.out hown.out (Nat.le_refl _) (by simp)⟩
set_option maxRecDepth 100000 in
set_option maxHeartbeats 2000000 in
theorem cl_pl (b o n c : Nat) (xs : List Value) (w : World) (hS : Hid (Sl w (.slice (some ⟨b, o, none⟩) n c) n 3 xs)) (h1 : Hid (∀ u ∈ xs, u.oneCell' = true)) (hn : n ≤ 1000) :
    Calls Tryz.prog 88 #[.slice (some ⟨b, o, none⟩) n c] w fun e w' => ∃ v, e = .returned v ∧ w'.ownsRow w.heap.size 66 3 v n xs ∧ Below w.heap.size w w' := by
  have qT : ∀ (w : World) (a : Option Addr) (n c n' c' : Nat), (binOp .eql 36 (.slice a n c) (.slice none n' c')).run Tryz.prog w = .ok (.bool a.isNone) w := fun w a n c n' c' => Lib.run_eql_slice_nil w _ _ a n c n' c' Tryz.underlying36
  have hown := Lib.hid (World.ownsRow_made w (base := w.heap.size) (e := 66) (size := 3) #[] 0 (Nat.le_refl _) (by decide) rfl)
  have hsrc := Lib.hid (hS.out.below ((Below.refl _ w).alloc (Nat.le_refl _) (.cells #[] 66)))
  go_enter Tryz.func88, Tryz.ntmps88
  go_wp2_with (at_builtin; refine wpList_append_sl pls_ty rfl (.tmp 5) (.tmp 6) rfl w.heap.size rfl (by exact hown.out) rfl (by exact hsrc.out) h1.out (by omega) (by omega) (by simp) ?_; intro v4 w4 hown4 hg4 hat4; rw [Nat.zero_add, List.nil_append] at hown4; obtain ⟨A4, c4, rfl, _, _⟩ := own_form hown4; have HO := Lib.hid hown4; have HG := Lib.hid hg4; clear hown4 hg4 hat4)
  go_ret
  exact ⟨_, rfl, HO.out, below_grown (((Below.refl _ w).alloc (Nat.le_refl _) (.cells #[] 66))) HG.out hown.out (Nat.le_refl _) (by simp)⟩
set_option maxRecDepth 100000 in
set_option maxHeartbeats 2000000 in
theorem cl_tk (b o n c : Nat) (xs : List Value) (w : World) (hS : Hid (Sl w (.slice (some ⟨b, o, none⟩) n c) n 14 xs)) (h1 : Hid (∀ u ∈ xs, u.oneCell' = true)) (hn : n ≤ 1000) :
    Calls Tryz.prog 89 #[.slice (some ⟨b, o, none⟩) n c] w fun e w' => ∃ v, e = .returned v ∧ w'.ownsRow w.heap.size 59 14 v n xs ∧ Below w.heap.size w w' := by
  have qT : ∀ (w : World) (a : Option Addr) (n c n' c' : Nat), (binOp .eql 37 (.slice a n c) (.slice none n' c')).run Tryz.prog w = .ok (.bool a.isNone) w := fun w a n c n' c' => Lib.run_eql_slice_nil w _ _ a n c n' c' Tryz.underlying37
  have hown := Lib.hid (World.ownsRow_made w (base := w.heap.size) (e := 59) (size := 14) #[] 0 (Nat.le_refl _) (by decide) rfl)
  have hsrc := Lib.hid (hS.out.below ((Below.refl _ w).alloc (Nat.le_refl _) (.cells #[] 59)))
  go_enter Tryz.func89, Tryz.ntmps89
  go_wp2_with (at_builtin; refine wpList_append_sl tks_ty rfl (.tmp 5) (.tmp 6) rfl w.heap.size rfl (by exact hown.out) rfl (by exact hsrc.out) h1.out (by omega) (by omega) (by simp) ?_; intro v4 w4 hown4 hg4 hat4; rw [Nat.zero_add, List.nil_append] at hown4; obtain ⟨A4, c4, rfl, _, _⟩ := own_form hown4; have HO := Lib.hid hown4; have HG := Lib.hid hg4; clear hown4 hg4 hat4)
  go_ret
  exact ⟨_, rfl, HO.out, below_grown (((Below.refl _ w).alloc (Nat.le_refl _) (.cells #[] 59))) HG.out hown.out (Nat.le_refl _) (by simp)⟩
set_option maxRecDepth 100000 in
set_option maxHeartbeats 2000000 in
theorem cl_bag (b o n c : Nat) (xs : List Value) (w : World) (hS : Hid (Sl w (.slice (some ⟨b, o, none⟩) n c) n 2 xs)) (h1 : Hid (∀ u ∈ xs, u.oneCell' = true)) (hn : n ≤ 1000) :
    Calls Tryz.prog 91 #[.slice (some ⟨b, o, none⟩) n c] w fun e w' => ∃ v, e = .returned v ∧ w'.ownsRow w.heap.size 67 2 v n xs ∧ Below w.heap.size w w' := by
  have qT : ∀ (w : World) (a : Option Addr) (n c n' c' : Nat), (binOp .eql 64 (.slice a n c) (.slice none n' c')).run Tryz.prog w = .ok (.bool a.isNone) w := fun w a n c n' c' => Lib.run_eql_slice_nil w _ _ a n c n' c' Tryz.underlying64
  have hown := Lib.hid (World.ownsRow_made w (base := w.heap.size) (e := 67) (size := 2) #[] 0 (Nat.le_refl _) (by decide) rfl)
  have hsrc := Lib.hid (hS.out.below ((Below.refl _ w).alloc (Nat.le_refl _) (.cells #[] 67)))
  go_enter Tryz.func91, Tryz.ntmps91
  go_wp2_with (at_builtin; refine wpList_append_sl pairs_ty rfl (.tmp 5) (.tmp 6) rfl w.heap.size rfl (by exact hown.out) rfl (by exact hsrc.out) h1.out (by omega) (by omega) (by simp) ?_; intro v4 w4 hown4 hg4 hat4; rw [Nat.zero_add, List.nil_append] at hown4; obtain ⟨A4, c4, rfl, _, _⟩ := own_form hown4; have HO := Lib.hid hown4; have HG := Lib.hid hg4; clear hown4 hg4 hat4)
  go_ret
  exact ⟨_, rfl, HO.out, below_grown (((Below.refl _ w).alloc (Nat.le_refl _) (.cells #[] 67))) HG.out hown.out (Nat.le_refl _) (by simp)⟩
set_option maxRecDepth 100000 in
set_option maxHeartbeats 2000000 in
theorem cl_var (b o n c : Nat) (xs : List Value) (w : World) (hS : Hid (Sl w (.slice (some ⟨b, o, none⟩) n c) n 2 xs)) (h1 : Hid (∀ u ∈ xs, u.oneCell' = true)) (hn : n ≤ 1000) :
    Calls Tryz.prog 92 #[.slice (some ⟨b, o, none⟩) n c] w fun e w' => ∃ v, e = .returned v ∧ w'.ownsRow w.heap.size 132 2 v n xs ∧ Below w.heap.size w w' := by
  have qT : ∀ (w : World) (a : Option Addr) (n c n' c' : Nat), (binOp .eql 54 (.slice a n c) (.slice none n' c')).run Tryz.prog w = .ok (.bool a.isNone) w := fun w a n c n' c' => Lib.run_eql_slice_nil w _ _ a n c n' c' Tryz.underlying54
  have hown := Lib.hid (World.ownsRow_made w (base := w.heap.size) (e := 132) (size := 2) #[] 0 (Nat.le_refl _) (by decide) rfl)
  have hsrc := Lib.hid (hS.out.below ((Below.refl _ w).alloc (Nat.le_refl _) (.cells #[] 132)))
  go_enter Tryz.func92, Tryz.ntmps92
  go_wp2_with (at_builtin; refine wpList_append_sl vars_ty rfl (.tmp 5) (.tmp 6) rfl w.heap.size rfl (by exact hown.out) rfl (by exact hsrc.out) h1.out (by omega) (by omega) (by simp) ?_; intro v4 w4 hown4 hg4 hat4; rw [Nat.zero_add, List.nil_append] at hown4; obtain ⟨A4, c4, rfl, _, _⟩ := own_form hown4; have HO := Lib.hid hown4; have HG := Lib.hid hg4; clear hown4 hg4 hat4)
  go_ret
  exact ⟨_, rfl, HO.out, below_grown (((Below.refl _ w).alloc (Nat.le_refl _) (.cells #[] 132))) HG.out hown.out (Nat.le_refl _) (by simp)⟩
theorem int_ty_ : SlTy Tryz.prog 56 3 1 8 := SlTy.mk (z := .int .i64 0) Tryz.underlying56 (by kernel_rfl) rfl (by omega)
set_option maxRecDepth 100000 in
set_option maxHeartbeats 2000000 in
theorem cl_int (b o n c : Nat) (xs : List Value) (w : World) (hS : Hid (Sl w (.slice (some ⟨b, o, none⟩) n c) n 1 xs)) (h1 : Hid (∀ u ∈ xs, u.oneCell' = true)) (hn : n ≤ 1000) :
    Calls Tryz.prog 93 #[.slice (some ⟨b, o, none⟩) n c] w fun e w' => ∃ v, e = .returned v ∧ w'.ownsRow w.heap.size 3 1 v n xs ∧ Below w.heap.size w w' := by
  have qT : ∀ (w : World) (a : Option Addr) (n c n' c' : Nat), (binOp .eql 56 (.slice a n c) (.slice none n' c')).run Tryz.prog w = .ok (.bool a.isNone) w := fun w a n c n' c' => Lib.run_eql_slice_nil w _ _ a n c n' c' Tryz.underlying56
  have hown := Lib.hid (World.ownsRow_made w (base := w.heap.size) (e := 3) (size := 1) #[] 0 (Nat.le_refl _) (by decide) rfl)
  have hsrc := Lib.hid (hS.out.below ((Below.refl _ w).alloc (Nat.le_refl _) (.cells #[] 3)))
  go_enter Tryz.func93, Tryz.ntmps93
  go_wp2_with (at_builtin; refine wpList_append_sl int_ty_ rfl (.tmp 5) (.tmp 6) rfl w.heap.size rfl (by exact hown.out) rfl (by exact hsrc.out) h1.out (by omega) (by omega) (by simp) ?_; intro v4 w4 hown4 hg4 hat4; rw [Nat.zero_add, List.nil_append] at hown4; obtain ⟨A4, c4, rfl, _, _⟩ := own_form hown4; have HO := Lib.hid hown4; have HG := Lib.hid hg4; clear hown4 hg4 hat4)
  go_ret
  exact ⟨_, rfl, HO.out, below_grown (((Below.refl _ w).alloc (Nat.le_refl _) (.cells #[] 3))) HG.out hown.out (Nat.le_refl _) (by simp)⟩
set_option maxRecDepth 100000 in
set_option maxHeartbeats 2000000 in
theorem cl_arc (b o n c : Nat) (xs : List Value) (w : World) (hS : Hid (Sl w (.slice (some ⟨b, o, none⟩) n c) n 4 xs)) (h1 : Hid (∀ u ∈ xs, u.oneCell' = true)) (hn : n ≤ 1000) :
    Calls Tryz.prog 140 #[.slice (some ⟨b, o, none⟩) n c] w fun e w' => ∃ v, e = .returned v ∧ w'.ownsRow w.heap.size 61 4 v n xs ∧ Below w.heap.size w w' := by
  have qT : ∀ (w : World) (a : Option Addr) (n c n' c' : Nat), (binOp .eql 55 (.slice a n c) (.slice none n' c')).run Tryz.prog w = .ok (.bool a.isNone) w := fun w a n c n' c' => Lib.run_eql_slice_nil w _ _ a n c n' c' Tryz.underlying55
  have hown := Lib.hid (World.ownsRow_made w (base := w.heap.size) (e := 61) (size := 4) #[] 0 (Nat.le_refl _) (by decide) rfl)
  have hsrc := Lib.hid (hS.out.below ((Below.refl _ w).alloc (Nat.le_refl _) (.cells #[] 61)))
  go_enter Tryz.func140, Tryz.ntmps140
  go_wp2_with (at_builtin; refine wpList_append_sl arcs_ty rfl (.tmp 5) (.tmp 6) rfl w.heap.size rfl (by exact hown.out) rfl (by exact hsrc.out) h1.out (by omega) (by omega) (by simp) ?_; intro v4 w4 hown4 hg4 hat4; rw [Nat.zero_add, List.nil_append] at hown4; obtain ⟨A4, c4, rfl, _, _⟩ := own_form hown4; have HO := Lib.hid hown4; have HG := Lib.hid hg4; clear hown4 hg4 hat4)
  go_ret
  exact ⟨_, rfl, HO.out, below_grown (((Below.refl _ w).alloc (Nat.le_refl _) (.cells #[] 61))) HG.out hown.out (Nat.le_refl _) (by simp)⟩
set_option maxHeartbeats 1000000 in
theorem cl_str_nil (w : World) : Calls Tryz.prog 90 #[.slice none 0 0] w fun e w' => e = .returned (.slice none 0 0) ∧ w = w' := by
  have qT : ∀ (w : World) (a : Option Addr) (n c n' c' : Nat), (binOp .eql 23 (.slice a n c) (.slice none n' c')).run Tryz.prog w = .ok (.bool a.isNone) w := fun w a n c n' c' => Lib.run_eql_slice_nil w _ _ a n c n' c' Tryz.underlying23
  go_enter Tryz.func90, Tryz.ntmps90
  go_wp2
  go_ret
  exact ⟨rfl, rfl⟩
set_option maxHeartbeats 1000000 in
theorem cl_bag_nil (w : World) : Calls Tryz.prog 91 #[.slice none 0 0] w fun e w' => e = .returned (.slice none 0 0) ∧ w = w' := by
  have qT : ∀ (w : World) (a : Option Addr) (n c n' c' : Nat), (binOp .eql 64 (.slice a n c) (.slice none n' c')).run Tryz.prog w = .ok (.bool a.isNone) w := fun w a n c n' c' => Lib.run_eql_slice_nil w _ _ a n c n' c' Tryz.underlying64
  go_enter Tryz.func91, Tryz.ntmps91
  go_wp2
  go_ret
  exact ⟨rfl, rfl⟩
set_option maxHeartbeats 1000000 in
theorem cl_kid_nil (w : World) : Calls Tryz.prog 141 #[.slice none 0 0] w fun e w' => e = .returned (.slice none 0 0) ∧ w = w' := by
  have qT : ∀ (w : World) (a : Option Addr) (n c n' c' : Nat), (binOp .eql 28 (.slice a n c) (.slice none n' c')).run Tryz.prog w = .ok (.bool a.isNone) w := fun w a n c n' c' => Lib.run_eql_slice_nil w _ _ a n c n' c' Tryz.underlying28
  go_enter Tryz.func141, Tryz.ntmps141
  go_wp2
  go_ret
  exact ⟨rfl, rfl⟩
set_option maxRecDepth 100000 in
set_option maxHeartbeats 2000000 in
/-- A leaf's copy. -/
theorem cp_leaf (k n : Int) (w : World) : Calls Tryz.prog 95 #[.agg #[.int .i64 k, .int .i64 n, .slice none 0 0]] w fun e w' => e = .returned (.agg #[.int .i64 k, .int .i64 n, .slice none 0 0]) ∧ Below w.heap.size w w' := by
  obtain ⟨w1, hw1⟩ : ∃ Z, Z = (w.alloc (.cells #[.int .i64 k, .int .i64 n, .slice none 0 0] 30)).alloc (.cells #[.int .i64 0, .int .i64 0, .slice none 0 0] 30) := ⟨_, rfl⟩
  have HB1 := Lib.hid (show Below w.heap.size w w1 by rw [hw1]; exact below_then (alrB w _) (alrB _ _))
  have hsz : (w.alloc (.cells #[.int .i64 k, .int .i64 n, .slice none 0 0] 30)).heap.size = w.heap.size + 1 := World.size_alloc _ _
  have RA := Lib.hid (show w1.heap[w.heap.size]? = some (.cells #[.int .i64 k, .int .i64 n, .slice none 0 0] 30 (0, 0)) by rw [hw1]; exact row_alloc (heap_alloc_new w _) _)
  have RB := Lib.hid (show w1.heap[w.heap.size + 1]? = some (.cells #[.int .i64 0, .int .i64 0, .slice none 0 0] 30 (0, 0)) by rw [hw1, ← hsz]; exact heap_alloc_new _ _)
  have HW := Lib.hid hw1.symm
  obtain ⟨g, hg⟩ : ∃ y, y = w.heap.size := ⟨_, rfl⟩
  have HG := Lib.hid hg.symm
  rw [← hg] at RA RB
  have x2 := row_cell RA.out 2 _ rfl
  have f2 : w1.frozen? ⟨g, 2, none⟩ = false := by simp [World.frozen?, RA.out]
  clear hsz hw1 hg
  go_enter Tryz.func95, Tryz.ntmps95
  go_upto_region 1 with fail
  rw [HG.out, HW.out]
  go_wp2_with fail
  refine (cl_kid_nil w1).mono ?_
  rintro e w2 ⟨rfl, rfl⟩
  go_upto_region 2 with fail
  have hx3 := set_same3 (o := 2) (u := .slice none 0 0) RA.out
  have hy3 := (set_other3 (w := w1) (g := g) (o := 2) (k := g + 1) (u := .slice none 0 0) (by omega)).trans RB.out
  have hb3 := HB1.out.setCell (p := ⟨g, 2, none⟩) (by rw [HG.out]; exact Nat.le_refl _) (.slice none 0 0)
  obtain ⟨w3, hw3⟩ : ∃ w3, w3 = w1.setCell ⟨g, 2, none⟩ (.slice none 0 0) := ⟨_, rfl⟩
  rw [← hw3] at hx3 hy3 hb3 ⊢
  have HX3 := Lib.hid (show w3.heap[g]? = some (.cells #[.int .i64 k, .int .i64 n, .slice none 0 0] 30 (0, 0)) from hx3)
  have HY3 := Lib.hid hy3
  have HB3 := Lib.hid hb3
  clear hx3 hy3 hb3 hw3 x2 f2
  have x0 := row_cell HX3.out 0 _ rfl
  have x1 := row_cell HX3.out 1 _ rfl
  have x2 := row_cell HX3.out 2 _ rfl
  have z0 := row_cell HY3.out 0 _ rfl
  have z1 := row_cell HY3.out 1 _ rfl
  have z2 := row_cell HY3.out 2 _ rfl
  have f0 : w3.frozen? ⟨g + 1, 0, none⟩ = false := by simp [World.frozen?, HY3.out]
  have f1 : w3.frozen? ⟨g + 1, 1, none⟩ = false := by simp [World.frozen?, HY3.out]
  have f2 : w3.frozen? ⟨g + 1, 2, none⟩ = false := by simp [World.frozen?, HY3.out]
  have HEN2 := Lib.hid (below_set3 HB3.out (g := g + 1) (by rw [HG.out]; omega) 0 (.int .i64 k) (.int .i64 n) (.slice none 0 0))
  go_wp2_with fail
  go_loopw [12] (fun v12 wr => v12 = .int .i64 0 ∧ Hid (wr = w3)) (fun v12 _ => 0)
  case atStart => exact ⟨rfl, Lib.hid rfl⟩
  case round =>
    obtain ⟨rfl, hw⟩ := hrel
    have hw2 := hw.out
    subst hw2
    go_wp2_with fail
    obtain ⟨qa, qb, qc⟩ := set3_steps z0 z1 z2 (.int .i64 k) (.int .i64 n) (.slice none 0 0)
    exact bodyPost_ret (v := .agg #[.int .i64 k, .int .i64 n, .slice none 0 0]) (by simp [results, Tryz.results95, go_sem, qa, qb, qc]) rfl ⟨rfl, HEN2.out⟩
end Go.Proofs.YtkpjhjoopdbkaaaGreatDoor
namespace Go.Proofs.YtkpjhjoopdbkaaaGreatDoor
open Go.RowKit
/-- A row at p that begins with xs. -/
def RowX (w : World) (p : Nat) (T : TypeId) (xs : List Value) : Prop := ∃ cur : Array Value, w.heap[p]? = some (.cells cur T (0, 0)) ∧ ∀ (j : Nat) (u : Value), xs[j]? = some u → cur[j]? = some u
theorem RowX.cell {w : World} {p : Nat} {T : TypeId} {xs : List Value} (h : RowX w p T xs) (j : Nat) (u : Value) (hj : xs[j]? = some u) : w.cell? ⟨p, j, none⟩ = some u := by
  obtain ⟨cur, h1, h2⟩ := h
  rw [cell_of_row _ _ _ _ _ _ h1]; exact h2 j u hj
theorem RowX.fro {w : World} {p : Nat} {T : TypeId} {xs : List Value} (h : RowX w p T xs) (j : Nat) : w.frozen? ⟨p, j, none⟩ = false := by
  obtain ⟨cur, h1, _⟩ := h
  simp [World.frozen?, h1]
theorem RowX.lt {w : World} {p : Nat} {T : TypeId} {xs : List Value} (h : RowX w p T xs) : p < w.heap.size := by
  obtain ⟨cur, h1, _⟩ := h
  exact (Array.getElem?_eq_some_iff.1 h1).1
theorem RowX.below {w w' : World} {p : Nat} {T : TypeId} {xs : List Value} (h : RowX w p T xs) (hb : Below w.heap.size w w') : RowX w' p T xs := by
  obtain ⟨cur, h1, h2⟩ := h
  exact ⟨cur, row_below h1 hb, h2⟩
theorem RowX.other {w : World} {p g o : Nat} {u : Value} {T : TypeId} {xs : List Value} (h : RowX w p T xs) (hp : p ≠ g) : RowX (w.setCell ⟨g, o, none⟩ u) p T xs := by
  obtain ⟨cur, h1, h2⟩ := h
  exact ⟨cur, (set_other3 hp).trans h1, h2⟩
theorem RowX.set {w : World} {p : Nat} {T : TypeId} {xs : List Value} (h : RowX w p T xs) (j : Nat) (u : Value) (hj : j < xs.length) : RowX (w.setCell ⟨p, j, none⟩ u) p T (xs.set j u) := by
  obtain ⟨cur, h1, h2⟩ := h
  refine ⟨cur.setIfInBounds j u, set_same3 h1, fun i v hi => ?_⟩
  rw [List.getElem?_set] at hi
  rw [Array.getElem?_setIfInBounds]
  split at hi
  · rename_i e
    rw [if_pos e]
    have hc : cur[j]? = some (xs[j]'hj) := h2 j _ (List.getElem?_eq_getElem hj)
    have hlt := (Array.getElem?_eq_some_iff.1 hc).1
    rw [if_pos hlt]
    exact hi
  · rename_i e
    rw [if_neg e]
    exact h2 i v hi
theorem RowX.of_own {w : World} {base : Nat} {T : TypeId} {size n : Nat} {v : Value} {xs : List Value} (h : w.ownsRow base T size v n xs) (hn : 0 < n) : ∃ p c, v = .slice (some ⟨p, 0, none⟩) n c ∧ n ≤ c ∧ c ≤ 9223372036854775807 ∧ base ≤ p ∧ RowX w p T xs := by
  obtain ⟨hl, ⟨_, h0⟩ | ⟨g, cap, cur, hv, hb, hg, hnc, hm, hcs, ht⟩⟩ := h
  · omega
  · unfold maxLen at hm
    refine ⟨g, cap, hv, hnc, hm, hb, cur, hg, fun j u hj => ?_⟩
    rw [← ht, List.getElem?_take] at hj
    split at hj
    · simpa using hj
    · cases hj
theorem RowX.sl {w : World} {p : Nat} {T : TypeId} {xs : List Value} (h : RowX w p T xs) {n c size : Nat} (h1 : n ≤ c) (h2 : c ≤ 9223372036854775807) (h3 : xs.length = n * size) : Sl w (.slice (some ⟨p, 0, none⟩) n c) n size xs :=
  ⟨_, _, rfl, h1, h2, h3, fun _ => ⟨p, 0, rfl, fun j u hj => by rw [Nat.zero_add]; exact h.cell j u hj⟩⟩
set_option maxRecDepth 100000 in
set_option maxHeartbeats 4000000 in
theorem cp_arcs (a k n : Int) (b o c : Nat) (w : World) (hS : Hid (Sl w (.slice (some ⟨b, o, none⟩) 1 c) 1 4 [.int .i64 a, .int .i64 k, .int .i64 n, .slice none 0 0])) :
    Calls Tryz.prog 94 #[.slice (some ⟨b, o, none⟩) 1 c] w fun e w' => ∃ p c2, e = .returned (.slice (some ⟨p, 0, none⟩) 1 c2) ∧ 1 ≤ c2 ∧ c2 ≤ 9223372036854775807 ∧ w.heap.size ≤ p ∧ RowX w' p 61 [.int .i64 a, .int .i64 k, .int .i64 n, .slice none 0 0] ∧ Below w.heap.size w w' := by
  have CA := Lib.hid (cl_arc b o 1 c [.int .i64 a, .int .i64 k, .int .i64 n, .slice none 0 0] w hS (Lib.hid (by intro u hu; simp only [List.mem_cons, List.not_mem_nil, or_false] at hu; rcases hu with rfl | rfl | rfl | rfl <;> rfl)) (by omega))
  go_enter Tryz.func94, Tryz.ntmps94
  go_upto_region 2 with (go_at_call 140; refine CA.out.mono ?_; rintro e w2 ⟨v, rfl, hown, hb⟩; obtain ⟨p, c2, rfl, hc1, hc2, hp, hR⟩ := RowX.of_own hown (by omega); have HR := Lib.hid hR; have HB := Lib.hid hb; have HP := Lib.hid hp; have HC1 := Lib.hid hc1; have HC2 := Lib.hid hc2; clear hown hb hp hR hc1 hc2)
  go_wp2_with fail
  go_loopw [10] (fun v wr => ∃ j : Nat, j ≤ 1 ∧ v = .int .i64 j ∧ Hid (Below w.heap.size w wr) ∧ Hid (RowX wr p 61 [.int .i64 a, .int .i64 k, .int .i64 n, .slice none 0 0])) (fun v _ => 1 - (RowKit.intOf v).toNat)
  case atStart => exact ⟨0, by omega, rfl, HB, HR⟩
  case round =>
    obtain ⟨j, hj, rfl, HBr, HRr⟩ := hrel
    rcases j with _ | j
    · have c0 := HRr.out.cell 0 _ rfl
      have c1 := HRr.out.cell 1 _ rfl
      have c2 := HRr.out.cell 2 _ rfl
      have c3 := HRr.out.cell 3 _ rfl
      have HK := Lib.hid (alrB wr (.cells #[.int .i64 a, .int .i64 k, .int .i64 n, .slice none 0 0] 61))
      have HX := Lib.hid (heap_alloc_new wr (.cells #[.int .i64 a, .int .i64 k, .int .i64 n, .slice none 0 0] 61))
      go_upto_region 5 with fail
      obtain ⟨w3, hw3⟩ : ∃ y, y = wr.alloc (.cells #[.int .i64 a, .int .i64 k, .int .i64 n, .slice none 0 0] 61) := ⟨_, rfl⟩
      obtain ⟨gx, hgx⟩ : ∃ y, y = wr.heap.size := ⟨_, rfl⟩
      rw [← hw3] at HK HX ⊢
      rw [← hgx] at HX ⊢
      have HR3 := Lib.hid (HRr.out.below HK.out)
      have HB3 := Lib.hid (below_then HBr.out HK.out)
      clear hw3 hgx c0 c1 c2 c3
      have x0 := row_cell HX.out 0 _ rfl
      have x1 := row_cell HX.out 1 _ rfl
      have x2 := row_cell HX.out 2 _ rfl
      have x3 := row_cell HX.out 3 _ rfl
      go_wp2_with (go_at_call 95; refine (cp_leaf k n _).mono ?_; rintro e w5 ⟨rfl, hb⟩
                   have HR5 := Lib.hid (HR3.out.below hb)
                   have HB5 := Lib.hid (below_then HB3.out hb)
                   have d1 := HR5.out.cell 1 _ rfl
                   have d2 := HR5.out.cell 2 _ rfl
                   have d3 := HR5.out.cell 3 _ rfl
                   have f1 := HR5.out.fro 1
                   have f2 := HR5.out.fro 2
                   have f3 := HR5.out.fro 3
                   clear hb)
      go_roundw
      case rel => exact ⟨1, by omega, by go_num, Lib.hid (below_set3 HB5.out (g := p) (by have := HP.out; omega) 1 (.int .i64 k) (.int .i64 n) (.slice none 0 0)), Lib.hid (((HR5.out.set 1 (.int .i64 k) (by simp)).set 2 (.int .i64 n) (by simp)).set 3 (.slice none 0 0) (by simp))⟩
      case measure => simp [RowKit.intOf]
    · have e : j = 0 := by omega
      subst e
      go_wp2
      go_ret
      exact ⟨p, c2, rfl, HC1.out, HC2.out, HP.out, HRr.out, HBr.out⟩
end Go.Proofs.YtkpjhjoopdbkaaaGreatDoor
