/- Package colour: of, has, colour, parts. -/
import Derived.Test.YtaeeblceedklnaaGreatDoorColD
import Derived.Handy
import Derived.Deep.RegionHeld3
namespace Go.Proofs.YtaeeblceedklnaaGreatDoor
open Go.RowKit
theorem sizesG_at : ∀ (L : List Col) (had : List (List UInt8)) (out ss : List Int), sizesG had out L = some ss → ss.length = out.length + L.length ∧ ss.take out.length = out ∧ ∀ j, j < L.length → ss.getD (out.length + j) 0 = sizeF (L.getD j default) (ss.take (out.length + j)) ∧ 1 ≤ ss.getD (out.length + j) 0
  | [], had, out, ss, h => by
    rw [sizesG] at h
    injection h with h
    subst h
    exact ⟨by simp, by simp, fun j hj => by simp at hj⟩
  | c :: r, had, out, ss, h => by
    rw [sizesG] at h
    split at h
    · rename_i hg
      simp only [Bool.and_eq_true, decide_eq_true_eq] at hg
      obtain ⟨h1, h2, h3⟩ := sizesG_at r _ _ ss h
      rw [List.length_append, List.length_singleton] at h1 h2 h3
      have h4 : ss.take out.length = out := by
        have := congrArg (List.take out.length) h2
        rw [List.take_take, Nat.min_eq_left (by omega), List.take_left'] at this
        · exact this
        · rfl
      have h5 : ss.getD out.length 0 = sizeF c out := by
        have h6 : (ss.take (out.length + 1)).getD out.length 0 = sizeF c out := by rw [h2]; simp
        have h7 : out.length < ss.length := by rw [h1]; omega
        rw [List.getD, List.getElem?_take, if_pos (by omega)] at h6
        exact h6
      refine ⟨by rw [h1]; simp; omega, h4, fun j hj => ?_⟩
      cases j with
      | zero =>
        rw [Nat.add_zero, h4, h5]
        exact ⟨rfl, hg.1.2⟩
      | succ j =>
        have := h3 j (by simpa using hj)
        rw [show out.length + (j + 1) = out.length + 1 + j by omega]
        simpa using this
    · cases h
theorem sizesF_at {L : List Col} {ss : List Int} (h : sizesF L = some ss) : ss.length = L.length ∧ ∀ j, j < L.length → ss.getD j 0 = sizeF (L.getD j default) (ss.take j) ∧ 1 ≤ ss.getD j 0 := by
  unfold sizesF at h
  split at h
  · cases h
  · obtain ⟨h1, _, h3⟩ := sizesG_at L [] [] ss h
    refine ⟨by simpa using h1, fun j hj => ?_⟩
    have := h3 j hj
    simpa using this
/-- A pair's parts stand ahead of it, and its size is the product of theirs. -/
theorem pair_at_ {L : List Col} {ss : List Int} (h : sizesF L = some ss) {k : Nat} (hk : k < L.length) (h3 : (L.getD k default).kind = 3) :
    ∃ p q : Nat, (L.getD k default).first = p ∧ (L.getD k default).then_ = q ∧ p < k ∧ q < k ∧ ss.getD k 0 = ss.getD p 0 * ss.getD q 0 := by
  obtain ⟨hl, hj⟩ := sizesF_at h
  obtain ⟨h4, h5⟩ := hj k hk
  have hlk : (ss.take k).length = k := by rw [List.length_take]; omega
  unfold sizeF at h4
  rw [h3, if_neg (by decide), if_neg (by decide), if_pos rfl, hlk] at h4
  split at h4
  · rename_i hg
    refine ⟨(L.getD k default).first.toNat, (L.getD k default).then_.toNat, by omega, by omega, by omega, by omega, ?_⟩
    rw [h4]
    have e : ∀ p : Nat, p < k → (ss.take k).getD p 0 = ss.getD p 0 := fun p hp => by rw [List.getD, List.getElem?_take, if_pos hp]; rfl
    rw [e _ (by omega), e _ (by omega)]
  · omega
/-- A set. -/
abbrev setV (A : Option Addr) (n c : Nat) (B : Option Addr) (d : Nat) (k : Int) : Value := .agg #[.slice A n c, .slice B n d, .int .i64 k]
structure SetOk (w : World) (A : Option Addr) (n c : Nat) (L : List Col) (B : Option Addr) (d : Nat) (ss : List Int) : Prop where
  cols : Cols w A n c L
  sl : Sl w (.slice B n d) n 1 (intCells ss)
  few : Few1024 ss
  sz : sizesF L = some ss
theorem SetOk.below {w w' : World} {A : Option Addr} {n c : Nat} {L : List Col} {B : Option Addr} {d : Nat} {ss : List Int} (h : SetOk w A n c L B d ss) (hb : Below w.heap.size w w') : SetOk w' A n c L B d ss := ⟨h.cols.below hb, h.sl.below hb, h.few, h.sz⟩
theorem SetOk.len {w : World} {A : Option Addr} {n c : Nat} {L : List Col} {B : Option Addr} {d : Nat} {ss : List Int} (h : SetOk w A n c L B d ss) : ss.length = n := by have := h.sl.len; rw [intCells_len] at this; omega
theorem ret2c {a b : Value} {c d : Bool} (h : a = b) (g : c = d) : Ending.returned (.tuple #[a, .bool c]) = .returned (.tuple #[b, .bool d]) := by rw [h, g]
/-- What of tells. -/
def OfP (w : World) (A : Option Addr) (n c : Nat) (L : List Col) (k : Int) (e : Ending) (w' : World) : Prop :=
  Below w.heap.size w w' ∧ (((sizesF L = none ∨ k < 0 ∨ (n : Int) ≤ k) ∧ e = .returned (.tuple #[setV none 0 0 none 0 0, .bool false])) ∨
    ∃ ss B d, SetOk w' A n c L B d ss ∧ 0 ≤ k ∧ k < (n : Int) ∧ e = .returned (.tuple #[setV A n c B d k, .bool true]))
set_option maxRecDepth 100000 in
set_option maxHeartbeats 4000000 in
theorem col_of (A : Option Addr) (n c : Nat) (L : List Col) (k : Int) (w : World) (hC : Hid (Cols w A n c L)) :
    Calls Tryz.prog 99 #[.slice A n c, .int .i64 k] w (OfP w A n c L k) := by
  have HB1 := Lib.hid ((Below.refl w.heap.size w).alloc (Nat.le_refl _) (.cells #[.slice none 0 0, .slice none 0 0, .int .i64 0] 114))
  have n0 := Lib.hid (cell_new w #[.slice none 0 0, .slice none 0 0, .int .i64 0] 114 0 _ rfl)
  have n1 := Lib.hid (cell_new w #[.slice none 0 0, .slice none 0 0, .int .i64 0] 114 1 _ rfl)
  have n2 := Lib.hid (cell_new w #[.slice none 0 0, .slice none 0 0, .int .i64 0] 114 2 _ rfl)
  have nf := Lib.hid (fun j => frozen_of_row (w.alloc (.cells #[.slice none 0 0, .slice none 0 0, .int .i64 0] 114)) w.heap.size j _ 114 (heap_alloc_new w _))
  have hsz := Lib.hid (show w.heap.size < (w.alloc (.cells #[.slice none 0 0, .slice none 0 0, .int .i64 0] 114)).heap.size by simp)
  have hl := Lib.hid hC.out.2.2.1
  go_enter Tryz.func99, Tryz.ntmps99
  go_wp2_with fail
  refine (col_sizes A n c L _ (Lib.hid (hC.out.below HB1.out))).mono ?_
  rintro e w2 ⟨hb, hr⟩
  have k0 := cell_kept hb n0.out
  have k1 := cell_kept hb n1.out
  have k2 := cell_kept hb n2.out
  have f0 : w2.frozen? ⟨w.heap.size, 0, none⟩ = false := (hb.frozen (p := ⟨w.heap.size, 0, none⟩) hsz.out).trans (nf.out 0)
  have f1 : w2.frozen? ⟨w.heap.size, 1, none⟩ = false := (hb.frozen (p := ⟨w.heap.size, 1, none⟩) hsz.out).trans (nf.out 1)
  have f2 : w2.frozen? ⟨w.heap.size, 2, none⟩ = false := (hb.frozen (p := ⟨w.heap.size, 2, none⟩) hsz.out).trans (nf.out 2)
  have HB2 := Lib.hid (HB1.out.trans (hb.mono HB1.out.size))
  have hw2 := Lib.hid (Nat.lt_of_lt_of_le hsz.out hb.size)
  have HBL := Lib.hid hb
  clear hb n0 n1 n2 nf
  rcases hr with ⟨hz, rfl⟩ | ⟨ss, B, d, hz, hsl, hfew, rfl, ho⟩
  · have HZ := Lib.hid hz
    clear hz
    go_wp2
    refine bodyPost_ret (by rw [results_cell_tmp rfl]; go_simp; rfl) rfl ?_
    exact ⟨((HB2.out.setCell (Nat.le_refl _) _).setCell (Nat.le_refl _) _).setCell (Nat.le_refl _) _, .inl ⟨.inl HZ.out, rfl⟩⟩
  · rw [hl.out] at ho hsl ⊢
    have HZ := Lib.hid hz
    have HO := Lib.hid ho
    have HF := Lib.hid hfew
    clear hz ho hfew hsl
    by_cases h0 : k < 0
    · go_wp2
      refine bodyPost_ret (by rw [results_cell_tmp rfl]; go_simp; rfl) rfl ?_
      exact ⟨((HB2.out.setCell (Nat.le_refl _) _).setCell (Nat.le_refl _) _).setCell (Nat.le_refl _) _, .inl ⟨.inr (.inl h0), rfl⟩⟩
    · have h0' : 0 ≤ k := by omega
      clear h0
      by_cases h1 : (n : Int) ≤ k
      · go_wp2
        refine bodyPost_ret (by rw [results_cell_tmp rfl]; go_simp; rfl) rfl ?_
        exact ⟨((HB2.out.setCell (Nat.le_refl _) _).setCell (Nat.le_refl _) _).setCell (Nat.le_refl _) _, .inl ⟨.inr (.inr h1), rfl⟩⟩
      · have h1' : k < (n : Int) := by omega
        clear h1
        go_wp2
        refine bodyPost_ret (by rw [results_cell_tmp rfl]; go_simp; rfl) rfl ?_
        refine ⟨((HB2.out.setCell (Nat.le_refl _) _).setCell (Nat.le_refl _) _).setCell (Nat.le_refl _) _, .inr ⟨ss, B, d, ⟨hC.out.below (((HB2.out.setCell (Nat.le_refl _) _).setCell (Nat.le_refl _) _).setCell (Nat.le_refl _) _), ?_, HF.out, HZ.out⟩, h0', h1', rfl⟩⟩
        exact Sl.of_own (ownsRow_setCell_below (ownsRow_setCell_below (ownsRow_setCell_below HO.out hsz.out _) hsz.out _) hsz.out _)
theorem field_kind (nm : ByteArray) (kd lo hi : Int) (N : Option Addr) (m e : Nat) (fi th : Int) (w : World) : (Instr.field 62 (.agg #[.string nm, .int .i64 kd, .int .i64 lo, .int .i64 hi, .slice N m e, .int .i64 fi, .int .i64 th]) 1).run Tryz.prog w = .ok (.int .i64 kd) w := by kernel_rfl
theorem field_lo (nm : ByteArray) (kd lo hi : Int) (N : Option Addr) (m e : Nat) (fi th : Int) (w : World) : (Instr.field 62 (.agg #[.string nm, .int .i64 kd, .int .i64 lo, .int .i64 hi, .slice N m e, .int .i64 fi, .int .i64 th]) 2).run Tryz.prog w = .ok (.int .i64 lo) w := by kernel_rfl
theorem field_then (nm : ByteArray) (kd lo hi : Int) (N : Option Addr) (m e : Nat) (fi th : Int) (w : World) : (Instr.field 62 (.agg #[.string nm, .int .i64 kd, .int .i64 lo, .int .i64 hi, .slice N m e, .int .i64 fi, .int .i64 th]) 6).run Tryz.prog w = .ok (.int .i64 th) w := by kernel_rfl
section
variable {A : Option Addr} {n c : Nat} {L : List Col} {B : Option Addr} {d : Nat} {ss : List Int}
end
end Go.Proofs.YtaeeblceedklnaaGreatDoor
