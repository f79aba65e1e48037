/- Law 08: the small case. Printed by gen_ckC.py. -/
import Derived.Test.YtaeeblceedklnaaGreatDoorCkX
import Derived.Deep.QuietTactic
import Derived.BigQuiet
import Derived.Handy
namespace Go.Proofs.YtaeeblceedklnaaGreatDoor
open Go.RowKit
theorem drew2 (w : World) (a b : Nat) : (w.drewN a).drewN b = w.drewN (a + b) := World.drewN_drewN _ _ _
theorem list_eq_of {l m : List Int} (hl : l.length = m.length) (h : ∀ j, j < l.length → l.getD j 0 = m.getD j 0) : l = m := by
  refine List.ext_getElem hl fun j h1 h2 => ?_
  have := h j h1
  simpa [List.getD, h1, h2] using this
set_option maxHeartbeats 1000000 in
theorem ref_Ints (A B : Option Addr) (n m c d : Nat) (la lb : List Int) (w : World) (hA : Hid (Sl w (.slice A n c) n 1 (intCells la))) (hB : Hid (Sl w (.slice B m d) m 1 (intCells lb))) (hn : n ≤ 9223372036854775807) (hm : m ≤ 9223372036854775807) :
    Calls Tryz.prog 22 #[.slice A n c, .slice B m d] w fun e w' => e = .returned (.bool (decide (la = lb))) ∧ ∃ k, w' = w.drewN k := by
  have hla := Lib.hid (show la.length = n by have := hA.out.len; rw [intCells_len] at this; omega)
  have hlb := Lib.hid (show lb.length = m by have := hB.out.len; rw [intCells_len] at this; omega)
  by_cases hnm : n = m
  · subst hnm
    go_enter Tryz.func22, Tryz.ntmps22
    go_wp2
    go_loopw [5] (fun v wr => ∃ (k q : Nat), k ≤ n ∧ v = .int .i64 (k : Int) ∧ wr = w.drewN q ∧ Hid (∀ j, j < k → la.getD j 0 = lb.getD j 0)) (fun v _ => n - (RowKit.intOf v).toNat)
    case atStart => exact ⟨0, 0, by omega, rfl, rfl, fun j hj => by omega⟩
    case round =>
      obtain ⟨k, q, hk, rfl, rfl, hj⟩ := hrel
      by_cases hlt : k < n
      · obtain ⟨b1, o1, rfl, c1⟩ := hA.out.int_at' hlt
        obtain ⟨b2, o2, rfl, c2⟩ := hB.out.int_at' hlt
        obtain ⟨x, hx⟩ : ∃ x, x = la.getD k 0 := ⟨_, rfl⟩
        obtain ⟨y, hy⟩ : ∃ y, y = lb.getD k 0 := ⟨_, rfl⟩
        rw [← hx] at c1
        rw [← hy] at c2
        have HX := Lib.hid hx
        have HY := Lib.hid hy
        have hlt2 : (k : Int) < (n : Int) := by omega
        have hk0 : (0 : Int) ≤ (k : Int) := by omega
        clear hx hy
        rcases hxy : (x == y) with _ | _
        · have hxy2 : (x != y) = true := by simp [bne, hxy]
          have HXY := Lib.hid hxy
          clear hxy
          go_wp2
          go_quiet (fail)
          go_wp2
          go_ret
          refine ⟨ret_b ?_, _, drew2 _ _ _⟩
          symm
          rw [decide_eq_false_iff_not]
          intro e
          have h1 := HXY.out
          rw [HX.out, HY.out, e] at h1
          simp at h1
        · have hxy2 : (x != y) = false := by simp [bne, hxy]
          have HXY := Lib.hid hxy
          clear hxy
          go_wp2
          go_quiet (fail)
          go_wp2
          go_roundw
          case rel =>
            refine ⟨k + 1, _, by omega, by go_num, rfl, fun j hj2 => ?_⟩
            by_cases e : j = k
            · rw [e, ← HX.out, ← HY.out]
              simpa using HXY.out
            · exact hj.out j (by omega)
          case measure => simp [RowKit.intOf]; omega
      · go_wp2
        go_ret
        refine ⟨ret_b ?_, _, rfl⟩
        symm
        rw [decide_eq_true_eq]
        exact list_eq_of (by rw [hla.out, hlb.out]) fun j h => hj.out j (by rw [hla.out] at h; omega)
  · have d1 : ((n : Int) != (m : Int)) = true := by simp; omega
    have e1 : decide (la = lb) = false := by
      rw [decide_eq_false_iff_not]
      intro e
      have h1 := hla.out
      have h2 := hlb.out
      rw [e] at h1
      omega
    rw [e1]
    go_enter Tryz.func22, Tryz.ntmps22
    go_wp2
    go_ret
    exact ⟨rfl, 0, rfl⟩
def exX : Tr := .mk 2 0 []
def exOne : Tr := .mk 1 1 []
/-- The small net; c: its first place's colour. -/
def someN (c : Int) : Nt := ⟨[⟨⟨#[110]⟩, 1, 0, 3, [], 0, 0⟩], [⟨⟨#[97]⟩, c, [(0, 2)]⟩, ⟨⟨#[98]⟩, 0, []⟩, ⟨⟨#[99]⟩, 0, []⟩], [⟨⟨#[116]⟩, [⟨⟨#[120]⟩, 0⟩], exOne, 1, 1, [⟨0, exX⟩], [⟨1, exX⟩], [], 0, 0, 0, 0⟩], 0, 1⟩
/-- Its memory, from block H on. -/
structure SmBlk (w : World) (H : Nat) (c : Int) : Prop where
  b3 : ∀ j u, ([.string ⟨#[110]⟩, .int .i64 1, .int .i64 0, .int .i64 3, .slice none 0 0, .int .i64 0, .int .i64 0] : List Value)[j]? = some u → w.cell? ⟨H + 3, j, none⟩ = some u
  b4 : ∀ j u, ([.int .i64 0, .int .i64 2] : List Value)[j]? = some u → w.cell? ⟨H + 4, j, none⟩ = some u
  b5 : ∀ j u, ([.string ⟨#[97]⟩, .int .i64 c, .slice (some ⟨H + 4, 0, none⟩) 1 1, .string ⟨#[98]⟩, .int .i64 0, .slice none 0 0, .string ⟨#[99]⟩, .int .i64 0, .slice none 0 0] : List Value)[j]? = some u → w.cell? ⟨H + 5, j, none⟩ = some u
  b6 : ∀ j u, ([.string ⟨#[120]⟩, .int .i64 0] : List Value)[j]? = some u → w.cell? ⟨H + 6, j, none⟩ = some u
  b7 : ∀ j u, ([.int .i64 0, .int .i64 2, .int .i64 0, .slice none 0 0] : List Value)[j]? = some u → w.cell? ⟨H + 7, j, none⟩ = some u
  b8 : ∀ j u, ([.int .i64 1, .int .i64 2, .int .i64 0, .slice none 0 0] : List Value)[j]? = some u → w.cell? ⟨H + 8, j, none⟩ = some u
  b9 : ∀ j u, ([.string ⟨#[116]⟩, .slice (some ⟨H + 6, 0, none⟩) 1 1, .int .i64 1, .int .i64 1, .slice none 0 0, .int .i64 1, .int .i64 1, .slice (some ⟨H + 7, 0, none⟩) 1 1, .slice (some ⟨H + 8, 0, none⟩) 1 1, .slice none 0 0, .int .i64 0, .int .i64 0, .int .i64 0, .int .i64 0] : List Value)[j]? = some u → w.cell? ⟨H + 9, j, none⟩ = some u
  f5 : w.frozen? ⟨H + 5, 1, none⟩ = false
theorem SmBlk.below {w w' : World} {H : Nat} {c : Int} (h : SmBlk w H c) (hb : Below w.heap.size w w') : SmBlk w' H c :=
  ⟨fun j u hu => cell_kept hb (h.b3 j u hu), fun j u hu => cell_kept hb (h.b4 j u hu), fun j u hu => cell_kept hb (h.b5 j u hu), fun j u hu => cell_kept hb (h.b6 j u hu), fun j u hu => cell_kept hb (h.b7 j u hu), fun j u hu => cell_kept hb (h.b8 j u hu), fun j u hu => cell_kept hb (h.b9 j u hu), (hb.frozen (p := ⟨H + 5, 1, none⟩) (World.block_lt_of_cell? w _ (h.b5 1 _ rfl))).trans h.f5⟩
theorem SmBlk.set {w : World} {H : Nat} {c : Int} (h : SmBlk w H c) (d : Int) : SmBlk (w.setCell ⟨H + 5, 1, none⟩ (.int .i64 d)) H d := by
  have far : ∀ b j, b ≠ H + 5 → (w.setCell ⟨H + 5, 1, none⟩ (.int .i64 d)).cell? ⟨b, j, none⟩ = w.cell? ⟨b, j, none⟩ := fun b j hb => World.cell?_setCell_far w _ _ _ (Ne.symm hb)
  refine ⟨fun j u hu => (far _ j (by omega)).trans (h.b3 j u hu), fun j u hu => (far _ j (by omega)).trans (h.b4 j u hu), fun j u hu => ?_, fun j u hu => (far _ j (by omega)).trans (h.b6 j u hu), fun j u hu => (far _ j (by omega)).trans (h.b7 j u hu), fun j u hu => (far _ j (by omega)).trans (h.b8 j u hu), fun j u hu => (far _ j (by omega)).trans (h.b9 j u hu), by rw [World.frozen?_setCell]; exact h.f5⟩
  by_cases e : j = 1
  · subst e
    rw [World.cell?_setCell_same w _ _ (h.b5 1 _ rfl)]
    exact hu
  · rw [World.cell?_setCell_other w _ _ _ (by intro h2; injection h2 with _ h2; omega)]
    refine h.b5 j u ?_
    match j, e, hu with
    | 0, _, hu => exact hu
    | j + 2, _, hu => exact hu
theorem i64_small {x : Int} (h : 0 ≤ x) (h2 : x ≤ 100) : I64 x := ⟨by omega, by omega⟩
theorem tr_leaf (w : World) (k n : Int) (hk : I64 k) (hn : I64 n) : TrAt w none 0 0 (.mk k n []) := TrAt.mk_ (t := .mk k n []) hk hn rfl (Nat.le_refl _) (by omega) (.inl rfl)
theorem SmBlk.net {w : World} {H : Nat} {c : Int} (h : SmBlk w H c) (hc : I64 c) : NetAt w (some ⟨H + 3, 0, none⟩) 1 1 (some ⟨H + 5, 0, none⟩) 3 3 (some ⟨H + 9, 0, none⟩) 1 1 (someN c) := by
  have z : I64 0 := i64_small (by omega) (by omega)
  have o : I64 1 := i64_small (by omega) (by omega)
  have t : I64 2 := i64_small (by omega) (by omega)
  have r : I64 3 := i64_small (by omega) (by omega)
  refine ⟨⟨Nat.le_refl _, by omega, rfl, fun _ => ⟨_, 0, rfl, fun k hk => ?_⟩⟩, ⟨Nat.le_refl _, by omega, rfl, fun _ => ⟨_, 0, rfl, fun k hk => ?_⟩⟩, ⟨Nat.le_refl _, by omega, rfl, fun _ => ⟨_, 0, rfl, fun k hk => ?_⟩⟩, z, o⟩
  · have e : k = 0 := by omega
    subst e
    exact ⟨none, 0, 0, h.b3 0 _ rfl, h.b3 1 _ rfl, h.b3 2 _ rfl, h.b3 3 _ rfl, h.b3 4 _ rfl, h.b3 5 _ rfl, h.b3 6 _ rfl, Sl.none_ w 1, o, z, r, z, z⟩
  · match k, hk with
    | 0, _ => exact ⟨some ⟨H + 4, 0, none⟩, 1, 1, h.b5 0 _ rfl, h.b5 1 _ rfl, h.b5 2 _ rfl, ⟨_, 1, rfl, Nat.le_refl _, by omega, rfl, fun _ => ⟨_, 0, rfl, fun j u hu => by rw [Nat.zero_add]; exact h.b4 j u hu⟩⟩, hc, fun q hq => by
        have : q = (0, 2) := by simpa [someN] using hq
        rw [this]; exact ⟨z, t⟩⟩
    | 1, _ => exact ⟨none, 0, 0, h.b5 3 _ rfl, h.b5 4 _ rfl, h.b5 5 _ rfl, Sl.none_ w 2, z, fun q hq => by cases hq⟩
    | 2, _ => exact ⟨none, 0, 0, h.b5 6 _ rfl, h.b5 7 _ rfl, h.b5 8 _ rfl, Sl.none_ w 2, z, fun q hq => by cases hq⟩
    | k + 3, hk => exact absurd hk (by omega)
  · have e : k = 0 := by omega
    subst e
    refine ⟨some ⟨H + 6, 0, none⟩, 1, 1, none, 0, 0, some ⟨H + 7, 0, none⟩, 1, 1, some ⟨H + 8, 0, none⟩, 1, 1, none, 0, 0, h.b9 0 _ rfl, h.b9 1 _ rfl, h.b9 2 _ rfl, h.b9 3 _ rfl, h.b9 4 _ rfl, h.b9 5 _ rfl, h.b9 6 _ rfl, h.b9 7 _ rfl, h.b9 8 _ rfl, h.b9 9 _ rfl, h.b9 10 _ rfl, h.b9 11 _ rfl, h.b9 12 _ rfl, h.b9 13 _ rfl, ⟨Nat.le_refl _, by omega, rfl, fun _ => ⟨_, 0, rfl, fun k hk => ?_⟩⟩, tr_leaf w 1 1 o o, ⟨Nat.le_refl _, by omega, rfl, fun _ => ⟨_, 0, rfl, fun k hk => ?_⟩⟩, ⟨Nat.le_refl _, by omega, rfl, fun _ => ⟨_, 0, rfl, fun k hk => ?_⟩⟩, Sl.none_ w 1, o, o, (fun x hx => by cases hx), z, z, z, z⟩
    · have e : k = 0 := by omega
      subst e
      exact ⟨h.b6 0 _ rfl, h.b6 1 _ rfl, z⟩
    · have e : k = 0 := by omega
      subst e
      exact ⟨none, 0, 0, h.b7 0 _ rfl, h.b7 1 _ rfl, h.b7 2 _ rfl, h.b7 3 _ rfl, tr_leaf w 2 0 t z, z⟩
    · have e : k = 0 := by omega
      subst e
      exact ⟨none, 0, 0, h.b8 0 _ rfl, h.b8 1 _ rfl, h.b8 2 _ rfl, h.b8 3 _ rfl, tr_leaf w 2 0 t z, o⟩
theorem heap_all : ∀ (os : List Obj) (w : World), (os.foldl World.alloc w).heap = w.heap ++ os.toArray
  | [], _ => by simp
  | o :: os, w => by
    rw [List.foldl_cons, heap_all os]
    show w.heap.push o ++ os.toArray = _
    simp
theorem below_all : ∀ (os : List Obj) (w : World), Below w.heap.size w (os.foldl World.alloc w)
  | [], _ => Below.refl _ _
  | o :: os, w => below_then (alr w o) (below_all os _)
theorem blk_all (os : List Obj) (w : World) (i : Nat) (o : Obj) (h : os[i]? = some o) : (os.foldl World.alloc w).heap[w.heap.size + i]? = some o := by
  rw [heap_all, Array.getElem?_append_right (by omega)]
  simpa using h
def someOs (w : World) : List Obj := [.cells #[.slice (some ⟨w.heap.size + 3, 0, none⟩) 1 1, .slice (some ⟨w.heap.size + 5, 0, none⟩) 3 3, .slice (some ⟨w.heap.size + 9, 0, none⟩) 1 1, .int .i64 0, .int .i64 1] 26 (0, 0), .cells #[.int .i64 2, .int .i64 0, .slice none 0 0] 49 (0, 0), .cells #[.int .i64 1, .int .i64 1, .slice none 0 0] 49 (0, 0), .cells #[.string ⟨#[110]⟩, .int .i64 1, .int .i64 0, .int .i64 3, .slice none 0 0, .int .i64 0, .int .i64 0] 62 (0, 0), .cells #[.int .i64 0, .int .i64 2] 83 (0, 0), .cells #[.string ⟨#[97]⟩, .int .i64 0, .slice (some ⟨w.heap.size + 4, 0, none⟩) 1 1, .string ⟨#[98]⟩, .int .i64 0, .slice none 0 0, .string ⟨#[99]⟩, .int .i64 0, .slice none 0 0] 45 (0, 0), .cells #[.string ⟨#[120]⟩, .int .i64 0] 56 (0, 0), .cells #[.int .i64 0, .int .i64 2, .int .i64 0, .slice none 0 0] 65 (0, 0), .cells #[.int .i64 1, .int .i64 2, .int .i64 0, .slice none 0 0] 65 (0, 0), .cells #[.string ⟨#[116]⟩, .slice (some ⟨w.heap.size + 6, 0, none⟩) 1 1, .int .i64 1, .int .i64 1, .slice none 0 0, .int .i64 1, .int .i64 1, .slice (some ⟨w.heap.size + 7, 0, none⟩) 1 1, .slice (some ⟨w.heap.size + 8, 0, none⟩) 1 1, .slice none 0 0, .int .i64 0, .int .i64 0, .int .i64 0, .int .i64 0] 53 (0, 0)]
theorem sm_blk (w : World) : SmBlk ((someOs w).foldl World.alloc w) w.heap.size 0 := by
  refine ⟨fun j u hu => ?_, fun j u hu => ?_, fun j u hu => ?_, fun j u hu => ?_, fun j u hu => ?_, fun j u hu => ?_, fun j u hu => ?_, frozen_row2 (blk_all (someOs w) w 5 _ rfl)⟩
  · rw [cell_of_row _ _ _ _ _ _ (blk_all (someOs w) w 3 _ rfl)]
    simpa using hu
  · rw [cell_of_row _ _ _ _ _ _ (blk_all (someOs w) w 4 _ rfl)]
    simpa using hu
  · rw [cell_of_row _ _ _ _ _ _ (blk_all (someOs w) w 5 _ rfl)]
    simpa using hu
  · rw [cell_of_row _ _ _ _ _ _ (blk_all (someOs w) w 6 _ rfl)]
    simpa using hu
  · rw [cell_of_row _ _ _ _ _ _ (blk_all (someOs w) w 7 _ rfl)]
    simpa using hu
  · rw [cell_of_row _ _ _ _ _ _ (blk_all (someOs w) w 8 _ rfl)]
    simpa using hu
  · rw [cell_of_row _ _ _ _ _ _ (blk_all (someOs w) w 9 _ rfl)]
    simpa using hu
set_option maxRecDepth 100000 in
set_option maxHeartbeats 2000000 in
theorem law_some (w : World) : Calls Tryz.prog 21 #[] w fun e w' => e = .returned (netV (some ⟨w.heap.size + 3, 0, none⟩) 1 1 (some ⟨w.heap.size + 5, 0, none⟩) 3 3 (some ⟨w.heap.size + 9, 0, none⟩) 1 1 0 1) ∧ Hid (SmBlk w' w.heap.size 0) ∧ Hid (Below w.heap.size w w') := by
  go_enter Tryz.func21, Tryz.ntmps21
  go_wp2
  go_returns
  exact ⟨rfl, sm_blk w, below_all (someOs w) w⟩
end Go.Proofs.YtaeeblceedklnaaGreatDoor
