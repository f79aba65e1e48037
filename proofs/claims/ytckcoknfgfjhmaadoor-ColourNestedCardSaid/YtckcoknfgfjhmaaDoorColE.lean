/- Package colour: of, has, colour, parts. -/
import Derived.Test.YtckcoknfgfjhmaaDoorColD
import Derived.Handy
import Derived.Deep.RegionHeld3
namespace Go.Proofs.YtckcoknfgfjhmaaDoor
open Go.RowKit
theorem sizesG_at : ∀ (L : List Col) (had : List (List UInt8)) (out ss : List Int), sizesG had out L = some ss → ss.length = out.length + L.length ∧ ss.take out.length = out ∧ ∀ j, j < L.length → ss.getD (out.length + j) 0 = sizeF (L.getD j default) (ss.take (out.length + j)) ∧ 1 ≤ ss.getD (out.length + j) 0
  | [], had, out, ss, h => by
    rw [sizesG] at h
    injection h with h
    subst h
    exact ⟨by simp, by simp, fun j hj => by simp at hj⟩
  | c :: r, had, out, ss, h => by
    rw [sizesG] at h
    split at h
    · rename_i hg
      simp only [Bool.and_eq_true, decide_eq_true_eq] at hg
      obtain ⟨h1, h2, h3⟩ := sizesG_at r _ _ ss h
      rw [List.length_append, List.length_singleton] at h1 h2 h3
      have h4 : ss.take out.length = out := by
        have := congrArg (List.take out.length) h2
        rw [List.take_take, Nat.min_eq_left (by omega), List.take_left'] at this
        · exact this
        · rfl
      have h5 : ss.getD out.length 0 = sizeF c out := by
        have h6 : (ss.take (out.length + 1)).getD out.length 0 = sizeF c out := by rw [h2]; simp
        have h7 : out.length < ss.length := by rw [h1]; omega
        rw [List.getD, List.getElem?_take, if_pos (by omega)] at h6
        exact h6
      refine ⟨by rw [h1]; simp; omega, h4, fun j hj => ?_⟩
      cases j with
      | zero =>
        rw [Nat.add_zero, h4, h5]
        exact ⟨rfl, hg.1.2⟩
      | succ j =>
        have := h3 j (by simpa using hj)
        rw [show out.length + (j + 1) = out.length + 1 + j by omega]
        simpa using this
    · cases h
theorem sizesF_at {L : List Col} {ss : List Int} (h : sizesF L = some ss) : ss.length = L.length ∧ ∀ j, j < L.length → ss.getD j 0 = sizeF (L.getD j default) (ss.take j) ∧ 1 ≤ ss.getD j 0 := by
  unfold sizesF at h
  split at h
  · cases h
  · obtain ⟨h1, _, h3⟩ := sizesG_at L [] [] ss h
    refine ⟨by simpa using h1, fun j hj => ?_⟩
    have := h3 j hj
    simpa using this
/-- A pair's parts stand ahead of it, and its size is the product of theirs. -/
theorem pair_at_ {L : List Col} {ss : List Int} (h : sizesF L = some ss) {k : Nat} (hk : k < L.length) (h3 : (L.getD k default).kind = 3) :
    ∃ p q : Nat, (L.getD k default).first = p ∧ (L.getD k default).then_ = q ∧ p < k ∧ q < k ∧ ss.getD k 0 = ss.getD p 0 * ss.getD q 0 := by
  obtain ⟨hl, hj⟩ := sizesF_at h
  obtain ⟨h4, h5⟩ := hj k hk
  have hlk : (ss.take k).length = k := by rw [List.length_take]; omega
  unfold sizeF at h4
  rw [h3, if_neg (by decide), if_neg (by decide), if_pos rfl, hlk] at h4
  split at h4
  · rename_i hg
    refine ⟨(L.getD k default).first.toNat, (L.getD k default).then_.toNat, by omega, by omega, by omega, by omega, ?_⟩
    rw [h4]
    have e : ∀ p : Nat, p < k → (ss.take k).getD p 0 = ss.getD p 0 := fun p hp => by rw [List.getD, List.getElem?_take, if_pos hp]; rfl
    rw [e _ (by omega), e _ (by omega)]
  · omega
/-- A set. -/
abbrev setV (A : Option Addr) (n c : Nat) (B : Option Addr) (d : Nat) (k : Int) : Value := .agg #[.slice A n c, .slice B n d, .int .i64 k]
structure SetOk (w : World) (A : Option Addr) (n c : Nat) (L : List Col) (B : Option Addr) (d : Nat) (ss : List Int) : Prop where
  cols : Cols w A n c L
  sl : Sl w (.slice B n d) n 1 (intCells ss)
  few : Few1024 ss
  sz : sizesF L = some ss
theorem SetOk.below {w w' : World} {A : Option Addr} {n c : Nat} {L : List Col} {B : Option Addr} {d : Nat} {ss : List Int} (h : SetOk w A n c L B d ss) (hb : Below w.heap.size w w') : SetOk w' A n c L B d ss := ⟨h.cols.below hb, h.sl.below hb, h.few, h.sz⟩
theorem SetOk.len {w : World} {A : Option Addr} {n c : Nat} {L : List Col} {B : Option Addr} {d : Nat} {ss : List Int} (h : SetOk w A n c L B d ss) : ss.length = n := by have := h.sl.len; rw [intCells_len] at this; omega
theorem ret2c {a b : Value} {c d : Bool} (h : a = b) (g : c = d) : Ending.returned (.tuple #[a, .bool c]) = .returned (.tuple #[b, .bool d]) := by rw [h, g]
/-- What of tells. -/
def OfP (w : World) (A : Option Addr) (n c : Nat) (L : List Col) (k : Int) (e : Ending) (w' : World) : Prop :=
  Below w.heap.size w w' ∧ (((sizesF L = none ∨ k < 0 ∨ (n : Int) ≤ k) ∧ e = .returned (.tuple #[setV none 0 0 none 0 0, .bool false])) ∨
    ∃ ss B d, SetOk w' A n c L B d ss ∧ 0 ≤ k ∧ k < (n : Int) ∧ e = .returned (.tuple #[setV A n c B d k, .bool true]))
set_option maxRecDepth 100000 in
set_option maxHeartbeats 4000000 in
theorem col_of (A : Option Addr) (n c : Nat) (L : List Col) (k : Int) (w : World) (hC : Hid (Cols w A n c L)) :
    Calls Tryd.prog 15 #[.slice A n c, .int .i64 k] w (OfP w A n c L k) := by
  have HB1 := Lib.hid ((Below.refl w.heap.size w).alloc (Nat.le_refl _) (.cells #[.slice none 0 0, .slice none 0 0, .int .i64 0] 42))
  have n0 := Lib.hid (cell_new w #[.slice none 0 0, .slice none 0 0, .int .i64 0] 42 0 _ rfl)
  have n1 := Lib.hid (cell_new w #[.slice none 0 0, .slice none 0 0, .int .i64 0] 42 1 _ rfl)
  have n2 := Lib.hid (cell_new w #[.slice none 0 0, .slice none 0 0, .int .i64 0] 42 2 _ rfl)
  have nf := Lib.hid (fun j => frozen_of_row (w.alloc (.cells #[.slice none 0 0, .slice none 0 0, .int .i64 0] 42)) w.heap.size j _ 42 (heap_alloc_new w _))
  have hsz := Lib.hid (show w.heap.size < (w.alloc (.cells #[.slice none 0 0, .slice none 0 0, .int .i64 0] 42)).heap.size by simp)
  have hl := Lib.hid hC.out.2.2.1
  go_enter Tryd.func15, Tryd.ntmps15
  go_wp2_with fail
  refine (col_sizes A n c L _ (Lib.hid (hC.out.below HB1.out))).mono ?_
  rintro e w2 ⟨hb, hr⟩
  have k0 := cell_kept hb n0.out
  have k1 := cell_kept hb n1.out
  have k2 := cell_kept hb n2.out
  have f0 : w2.frozen? ⟨w.heap.size, 0, none⟩ = false := (hb.frozen (p := ⟨w.heap.size, 0, none⟩) hsz.out).trans (nf.out 0)
  have f1 : w2.frozen? ⟨w.heap.size, 1, none⟩ = false := (hb.frozen (p := ⟨w.heap.size, 1, none⟩) hsz.out).trans (nf.out 1)
  have f2 : w2.frozen? ⟨w.heap.size, 2, none⟩ = false := (hb.frozen (p := ⟨w.heap.size, 2, none⟩) hsz.out).trans (nf.out 2)
  have HB2 := Lib.hid (HB1.out.trans (hb.mono HB1.out.size))
  have hw2 := Lib.hid (Nat.lt_of_lt_of_le hsz.out hb.size)
  have HBL := Lib.hid hb
  clear hb n0 n1 n2 nf
  rcases hr with ⟨hz, rfl⟩ | ⟨ss, B, d, hz, hsl, hfew, rfl, ho⟩
  · have HZ := Lib.hid hz
    clear hz
    go_wp2
    refine bodyPost_ret (by rw [results_cell_tmp rfl]; go_simp; rfl) rfl ?_
    exact ⟨((HB2.out.setCell (Nat.le_refl _) _).setCell (Nat.le_refl _) _).setCell (Nat.le_refl _) _, .inl ⟨.inl HZ.out, rfl⟩⟩
  · rw [hl.out] at ho hsl ⊢
    have HZ := Lib.hid hz
    have HO := Lib.hid ho
    have HF := Lib.hid hfew
    clear hz ho hfew hsl
    by_cases h0 : k < 0
    · go_wp2
      refine bodyPost_ret (by rw [results_cell_tmp rfl]; go_simp; rfl) rfl ?_
      exact ⟨((HB2.out.setCell (Nat.le_refl _) _).setCell (Nat.le_refl _) _).setCell (Nat.le_refl _) _, .inl ⟨.inr (.inl h0), rfl⟩⟩
    · have h0' : 0 ≤ k := by omega
      clear h0
      by_cases h1 : (n : Int) ≤ k
      · go_wp2
        refine bodyPost_ret (by rw [results_cell_tmp rfl]; go_simp; rfl) rfl ?_
        exact ⟨((HB2.out.setCell (Nat.le_refl _) _).setCell (Nat.le_refl _) _).setCell (Nat.le_refl _) _, .inl ⟨.inr (.inr h1), rfl⟩⟩
      · have h1' : k < (n : Int) := by omega
        clear h1
        go_wp2
        refine bodyPost_ret (by rw [results_cell_tmp rfl]; go_simp; rfl) rfl ?_
        refine ⟨((HB2.out.setCell (Nat.le_refl _) _).setCell (Nat.le_refl _) _).setCell (Nat.le_refl _) _, .inr ⟨ss, B, d, ⟨hC.out.below (((HB2.out.setCell (Nat.le_refl _) _).setCell (Nat.le_refl _) _).setCell (Nat.le_refl _) _), ?_, HF.out, HZ.out⟩, h0', h1', rfl⟩⟩
        exact Sl.of_own (ownsRow_setCell_below (ownsRow_setCell_below (ownsRow_setCell_below HO.out hsz.out _) hsz.out _) hsz.out _)
theorem field_kind (nm : ByteArray) (kd lo hi : Int) (N : Option Addr) (m e : Nat) (fi th : Int) (w : World) : (Instr.field 27 (.agg #[.string nm, .int .i64 kd, .int .i64 lo, .int .i64 hi, .slice N m e, .int .i64 fi, .int .i64 th]) 1).run Tryd.prog w = .ok (.int .i64 kd) w := by kernel_rfl
theorem field_lo (nm : ByteArray) (kd lo hi : Int) (N : Option Addr) (m e : Nat) (fi th : Int) (w : World) : (Instr.field 27 (.agg #[.string nm, .int .i64 kd, .int .i64 lo, .int .i64 hi, .slice N m e, .int .i64 fi, .int .i64 th]) 2).run Tryd.prog w = .ok (.int .i64 lo) w := by kernel_rfl
theorem field_then (nm : ByteArray) (kd lo hi : Int) (N : Option Addr) (m e : Nat) (fi th : Int) (w : World) : (Instr.field 27 (.agg #[.string nm, .int .i64 kd, .int .i64 lo, .int .i64 hi, .slice N m e, .int .i64 fi, .int .i64 th]) 6).run Tryd.prog w = .ok (.int .i64 th) w := by kernel_rfl
section
variable {A : Option Addr} {n c : Nat} {L : List Col} {B : Option Addr} {d : Nat} {ss : List Int}
set_option maxRecDepth 100000 in
set_option maxHeartbeats 2000000 in
theorem col_has (k : Nat) (m : Int) (w : World) (hS : Hid (SetOk w A n c L B d ss)) (hk : k < n) :
    Calls Tryd.prog 16 #[setV A n c B d k, .int .i64 m] w fun e w' => e = .returned (.bool (decide (0 ≤ m) && decide (m < ss.getD k 0))) ∧ Below w.heap.size w w' := by
  have HB3 := Lib.hid ((Below.refl _ w).alloc (Nat.le_refl _) (.cells #[.slice A n c, .slice B n d, .int .i64 (k : Int)] 42))
  obtain ⟨b, o, rfl, c1⟩ := (hS.out.sl.below HB3.out).int_at' hk
  have hk0 : (0 : Int) ≤ (k : Int) := by omega
  have hk1 : (k : Int) < (n : Int) := by omega
  obtain ⟨x, hx⟩ : ∃ x, x = ss.getD k 0 := ⟨_, rfl⟩
  rw [← hx] at c1 ⊢
  clear hx
  by_cases h0 : 0 ≤ m
  · rw [decide_eq_true h0, Bool.true_and]
    go_enter Tryd.func16, Tryd.ntmps16
    go_wp2
    go_ret
    exact ⟨rfl, HB3.out⟩
  · have h1 : decide (0 ≤ m) = false := by simpa using h0
    rw [h1, Bool.false_and]
    go_enter Tryd.func16, Tryd.ntmps16
    go_wp2
    go_ret
    exact ⟨rfl, HB3.out⟩
set_option maxRecDepth 100000 in
set_option maxHeartbeats 2000000 in
theorem col_colour (k : Nat) (w : World) (hS : Hid (SetOk w A n c L B d ss)) (hk : k < n) :
    Calls Tryd.prog 17 #[setV A n c B d k] w fun e w' => (∃ N m e1, e = .returned ((L.getD k default).val N m e1) ∧ Hid (Sl w' (.slice N m e1) m 1 (strCells (L.getD k default).names))) ∧ Hid (Below w.heap.size w w') := by
  have HB2 := Lib.hid ((Below.refl w.heap.size w).alloc (Nat.le_refl _) (.cells #[.slice A n c, .slice B n d, .int .i64 (k : Int)] 42))
  have HB3 := Lib.hid (HB2.out.alloc HB2.out.size (.cells #[.string ⟨#[]⟩, .int .i64 0, .int .i64 0, .int .i64 0, .slice none 0 0, .int .i64 0, .int .i64 0] 27))
  obtain ⟨b, off, rfl, N, nn, nd, hCA0⟩ := hS.out.cols.at_ hk
  have hCA := hCA0.below HB3.out
  have HNM0 := Lib.hid hCA0.names
  clear hCA0
  obtain ⟨col, hcol⟩ : ∃ col, col = L.getD k default := ⟨_, rfl⟩
  rw [← hcol] at hCA HNM0 ⊢
  obtain ⟨c0, c1, c2, c3, c4, c5, c6, hnm, hok⟩ := hCA
  have hk0 : (0 : Int) ≤ (k : Int) := by omega
  have hk1 : (k : Int) < (n : Int) := by omega
  clear hnm hok hcol
  go_enter Tryd.func17, Tryd.ntmps17
  go_wp2
  go_returns
  have hb := HB2.out.alloc HB2.out.size (.cells #[.string col.name, .int .i64 col.kind, .int .i64 col.lo, .int .i64 col.hi, .slice N nn nd, .int .i64 col.first, .int .i64 col.then_] 27)
  exact ⟨⟨N, nn, nd, rfl, HNM0.out.below hb⟩, hb⟩
set_option maxRecDepth 100000 in
set_option maxHeartbeats 2000000 in
theorem col_at (k j : Int) (w : World) :
    Calls Tryd.prog 27 #[setV A n c B d k, .int .i64 j] w fun e w' => e = .returned (setV A n c B d j) ∧ Below w.heap.size w w' := by
  have HB2 := Lib.hid ((Below.refl w.heap.size w).alloc (Nat.le_refl _) (.cells #[.slice A n c, .slice B n d, .int .i64 k] 42))
  go_enter Tryd.func27, Tryd.ntmps27
  go_wp2
  go_returns
  exact ⟨rfl, HB2.out.alloc HB2.out.size _⟩
set_option maxRecDepth 100000 in
set_option maxHeartbeats 4000000 in
theorem col_parts (k q : Nat) (m : Int) (w : World) (hS : Hid (SetOk w A n c L B d ss)) (hk : k < n) (hq : q < n) (ht : Hid ((L.getD k default).then_ = (q : Int))) (h1 : 1 ≤ ss.getD q 0) (hm0 : 0 ≤ m) (hm1 : m ≤ 9223372036854775807) :
    Calls Tryd.prog 18 #[setV A n c B d k, .int .i64 m] w fun e w' => e = .returned (.tuple #[.int .i64 (m / ss.getD q 0), .int .i64 (m % ss.getD q 0)]) ∧ Below w.heap.size w w' := by
  have HB2 := Lib.hid ((Below.refl w.heap.size w).alloc (Nat.le_refl _) (.cells #[.slice A n c, .slice B n d, .int .i64 (k : Int)] 42))
  have s0 := cell_new w #[.slice A n c, .slice B n d, .int .i64 (k : Int)] 42 0 _ rfl
  have s1 := cell_new w #[.slice A n c, .slice B n d, .int .i64 (k : Int)] 42 1 _ rfl
  have s2 := cell_new w #[.slice A n c, .slice B n d, .int .i64 (k : Int)] 42 2 _ rfl
  have hS2 := Lib.hid (hS.out.below HB2.out)
  obtain ⟨w1, hw1⟩ : ∃ w1, w1 = w.alloc (.cells #[.slice A n c, .slice B n d, .int .i64 (k : Int)] 42) := ⟨_, rfl⟩
  obtain ⟨g, hg⟩ : ∃ g, g = w.heap.size := ⟨_, rfl⟩
  have HW1 := Lib.hid hw1
  have HG := Lib.hid hg
  rw [← hw1] at s0 s1 s2 hS2 HB2
  rw [← hg] at s0 s1 s2
  obtain ⟨b, o, rfl, c1⟩ := hS2.out.sl.int_at' hq
  obtain ⟨x, hx⟩ : ∃ x, x = ss.getD q 0 := ⟨_, rfl⟩
  have hx9 := (hS.out.few.at_ (k := q) (by rw [hS.out.len]; exact hq)).2
  rw [← hx] at c1 h1 hx9 ⊢
  have hq0 : (0 : Int) ≤ (q : Int) := by omega
  have hq1 : (q : Int) < (n : Int) := by omega
  have cC : ∀ t, Hid (Calls Tryd.prog 17 #[setV A n c (some ⟨b, o, none⟩) d k] (w1.drewN t) fun e w' => (∃ nm kd lo hi N m e1 fi, e = .returned (.agg #[.string nm, .int .i64 kd, .int .i64 lo, .int .i64 hi, .slice N m e1, .int .i64 fi, .int .i64 (q : Int)])) ∧ Hid (Below w1.heap.size w1 w')) := by
    intro t
    refine (col_colour k (w1.drewN t) (Lib.hid (hS2.out.below (below_drewN' (Below.refl _ _) t))) hk).mono ?_
    rintro e w5 ⟨⟨N, nm, e1, rfl, _⟩, hb5⟩
    exact ⟨⟨_, _, _, _, _, _, _, _, by rw [← ht.out]⟩, (below_drewN' (Below.refl _ _) _).trans hb5.out⟩
  have d0 : (x == 0) = false := by simp; omega
  have d1 : IntKind.i64.wrap (m.tdiv x) = m / x := by
    rw [Int.tdiv_eq_ediv_of_nonneg hm0]
    exact IntWalk.i64_in _ ⟨by have := Int.ediv_nonneg hm0 (show 0 ≤ x by omega); omega, by have := Int.ediv_le_self x hm0; omega⟩
  have d2 : IntKind.i64.wrap (m.tmod x) = m % x := by
    rw [Int.tmod_eq_emod_of_nonneg hm0]
    exact IntWalk.i64_in _ ⟨by have := Int.emod_nonneg m (show x ≠ 0 by omega); omega, by have := Int.emod_lt_of_pos m (show 0 < x by omega); omega⟩
  have hfd := field_then
  clear hx hw1 hg
  go_enter Tryd.func18, Tryd.ntmps18
  go_wp2
  rw [← HW1.out, ← HG.out]
  go_region_held3 (fun W => W.cell? ⟨g, 0, none⟩ = some (.slice A n c) ∧ W.cell? ⟨g, 1, none⟩ = some (.slice (some ⟨b, o, none⟩) n d) ∧ W.cell? ⟨g, 2, none⟩ = some (.int .i64 (k : Int)) ∧ W.cell? ⟨b, o + q, none⟩ = some (.int .i64 x))
    (first | exact ⟨cell_kept HB5.out s0, cell_kept HB5.out s1, cell_kept HB5.out s2, cell_kept HB5.out c1⟩ | exact ⟨s0, s1, s2, c1⟩)
    (first
      | (go_at_call 17; refine (cC _).out.mono ?_; rintro e w5 ⟨⟨nm, kd, lo, hi, N, nm', e1, fi, rfl⟩, HB5⟩))
  all_goals
    go_wp2
    go_quiet (fail)
    go_wp2
    go_ret2
    exact ⟨rfl, HB2.out.trans ((below_drewN' HB5.out _).mono HB2.out.size)⟩
end
end Go.Proofs.YtckcoknfgfjhmaaDoor
