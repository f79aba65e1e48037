/- Copy: the program's. -/
import Derived.Test.YtmfdiclbenmfbaaDoorExprSb
import Derived.Deep.RegionHeld3
import Derived.Handy
namespace Go.Proofs.YtmfdiclbenmfbaaDoor
open Go.RowKit
/-- What Copy tells. -/
def CpP (t : Tr) (m : Nat) (w : World) (e : Ending) (w' : World) : Prop :=
  ∃ A2 c2, e = .returned (.agg #[.int .i64 t.kind, .int .i64 t.num, .slice A2 m c2]) ∧ Hid (FrI w' w.heap.size w'.heap.size A2 m c2 t) ∧ Hid (Below w.heap.size w w')
def CopyAt (N : Nat) : Prop := ∀ (t : Tr), t.sz ≤ N → ∀ (A : Option Addr) (m c : Nat) (w : World), Hid (TrAt w A m c t) → sizeT t ≤ 1000000 → Calls Tryd.prog 25 #[t.val A m c] w (CpP t m w)
/-- Halfway through a copy's kids. -/
structure CpInv (w wr : World) (g2 : Nat) (m j : Nat) (kids done : List Tr) : Prop where
  hb : Below w.heap.size w wr
  blk : ∃ cur, wr.heap[g2]? = some (.cells cur 24 (0, 0)) ∧ m * 3 ≤ cur.size
  kds : KidsI wr g2 0 (g2 + 1) wr.heap.size done
  rest : ∀ i, j ≤ i → i < m → ∃ A' m' c', KidC wr g2 (i * 3) A' m' c' (kids.getD i default) ∧ TrAt w A' m' c' (kids.getD i default)
theorem set_same3 {w : World} {g o t : Nat} {c : Array Value} {u : Value} (h : w.heap[g]? = some (.cells c t (0, 0))) : (w.setCell ⟨g, o, none⟩ u).heap[g]? = some (.cells (c.setIfInBounds o u) t (0, 0)) := by
  simp [World.setCell, Array.getElem?_modify, h]
theorem set_other3 {w : World} {g o k : Nat} {u : Value} (h : k ≠ g) : (w.setCell ⟨g, o, none⟩ u).heap[k]? = w.heap[k]? := Below.heap_setCell _ _ _ _ (fun e => h e)
/-- Three cells set. -/
def set3 (w : World) (g o : Nat) (u0 u1 u2 : Value) : World := ((w.setCell ⟨g, o, none⟩ u0).setCell ⟨g, o + 1, none⟩ u1).setCell ⟨g, o + 2, none⟩ u2
theorem set3_size (w : World) (g o : Nat) (u0 u1 u2 : Value) : (set3 w g o u0 u1 u2).heap.size = w.heap.size := by simp [set3, World.setCell]
theorem set3_other {w : World} {g o k : Nat} {u0 u1 u2 : Value} (h : k ≠ g) : (set3 w g o u0 u1 u2).heap[k]? = w.heap[k]? := by
  unfold set3
  rw [set_other3 h, set_other3 h, set_other3 h]
theorem set3_cell_other {w : World} {g o b i : Nat} {u0 u1 u2 : Value} (h : b ≠ g) : (set3 w g o u0 u1 u2).cell? ⟨b, i, none⟩ = w.cell? ⟨b, i, none⟩ := by
  simp only [World.cell?, set3_other (w := w) (o := o) (u0 := u0) (u1 := u1) (u2 := u2) h]
theorem set3_same {w : World} {g o t : Nat} {c : Array Value} {u0 u1 u2 : Value} (h : w.heap[g]? = some (.cells c t (0, 0))) :
    (set3 w g o u0 u1 u2).heap[g]? = some (.cells (((c.setIfInBounds o u0).setIfInBounds (o + 1) u1).setIfInBounds (o + 2) u2) t (0, 0)) := by
  unfold set3
  exact set_same3 (set_same3 (set_same3 h))
theorem set3_cell {w : World} {g o t : Nat} {c : Array Value} {u0 u1 u2 : Value} (h : w.heap[g]? = some (.cells c t (0, 0))) (ho : o + 2 < c.size) (i : Nat) :
    (set3 w g o u0 u1 u2).cell? ⟨g, i, none⟩ = if i = o then some u0 else if i = o + 1 then some u1 else if i = o + 2 then some u2 else w.cell? ⟨g, i, none⟩ := by
  rw [cell_of_row _ _ _ _ _ _ (set3_same h), cell_of_row _ _ _ _ _ _ h]
  simp only [Array.getElem?_setIfInBounds, Array.size_setIfInBounds]
  by_cases h0 : i = o
  · subst h0
    rw [if_neg (by omega), if_neg (by omega), if_pos rfl, if_pos (by omega), if_pos rfl]
  by_cases h1 : i = o + 1
  · subst h1
    rw [if_neg (by omega), if_pos rfl, if_pos (by omega), if_neg (by omega), if_pos rfl]
  by_cases h2 : i = o + 2
  · subst h2
    rw [if_pos rfl, if_pos (by omega), if_neg (by omega), if_neg (by omega), if_pos rfl]
  rw [if_neg (by omega), if_neg (by omega), if_neg (by omega), if_neg h0, if_neg h1, if_neg h2]
theorem below_set3 {B : Nat} {w w' : World} (h : Below B w w') {g : Nat} (hg : B ≤ g) (o : Nat) (u0 u1 u2 : Value) : Below B w (set3 w' g o u0 u1 u2) := by
  unfold set3
  exact ((h.setCell (p := ⟨g, o, none⟩) hg u0).setCell (p := ⟨g, o + 1, none⟩) hg u1).setCell (p := ⟨g, o + 2, none⟩) hg u2
theorem cell_set_self {w : World} {b o : Nat} {u v : Value} (h : w.cell? ⟨b, o, none⟩ = some v) : (w.setCell ⟨b, o, none⟩ u).cell? ⟨b, o, none⟩ = some u := World.cell?_setCell_same _ _ _ h
/-- Three cells, as they were set one by one. -/
theorem set3_steps {w : World} {g : Nat} {v0 v1 v2 : Value} (h0 : w.cell? ⟨g, 0, none⟩ = some v0) (h1 : w.cell? ⟨g, 1, none⟩ = some v1) (h2 : w.cell? ⟨g, 2, none⟩ = some v2) (u0 u1 u2 : Value) :
    (w.setCell ⟨g, 0, none⟩ u0).cell? ⟨g, 0, none⟩ = some u0 ∧ ((w.setCell ⟨g, 0, none⟩ u0).setCell ⟨g, 1, none⟩ u1).cell? ⟨g, 1, none⟩ = some u1 ∧ (((w.setCell ⟨g, 0, none⟩ u0).setCell ⟨g, 1, none⟩ u1).setCell ⟨g, 2, none⟩ u2).cell? ⟨g, 2, none⟩ = some u2 := by
  refine ⟨cell_set_self h0, cell_set_self (v := v1) ?_, cell_set_self (v := v2) ?_⟩
  · rw [World.cell?_setCell_other _ _ _ _ (by simp)]; exact h1
  · rw [World.cell?_setCell_other _ _ _ _ (by simp), World.cell?_setCell_other _ _ _ _ (by simp)]; exact h2
theorem CpInv.step {w wr w5 : World} {g2 m j mid : Nat} {kids done : List Tr} {u : Tr} {A3 : Option Addr} {m' c3 : Nat} (h : CpInv w wr g2 m j kids done) (hj : j < m) (hd : done.length = j) (hg : w.heap.size ≤ g2) (hb5 : Below wr.heap.size wr w5) (hmid : wr.heap.size ≤ mid) (hF : FrI w5 mid w5.heap.size A3 m' c3 u) :
    CpInv w (set3 w5 g2 (j * 3) (.int .i64 u.kind) (.int .i64 u.num) (.slice A3 m' c3)) g2 m (j + 1) kids (done ++ [u]) := by
  obtain ⟨cur, hblk, hcs⟩ := h.blk
  have hlt := (Array.getElem?_eq_some_iff.1 hblk).1
  have hblk5 := (hb5.block g2 hlt).trans hblk
  have hm3 : j * 3 + 2 < cur.size := by omega
  have hcell := fun i => set3_cell (u0 := .int .i64 u.kind) (u1 := .int .i64 u.num) (u2 := .slice A3 m' c3) hblk5 hm3 i
  have hs := hb5.size
  refine ⟨below_set3 (h.hb.trans (hb5.mono h.hb.size)) hg _ _ _ _, ⟨_, set3_same hblk5, by simp; exact hcs⟩, ?_, fun i hi1 hi2 => ?_⟩
  · refine KidsI.snoc (mid := wr.heap.size) (A := A3) (m := m') (c := c3) done ?_ ?_
    · refine KidsI.movedA done h.kds (fun k h1 h2 => ?_) (fun o ho => ?_) (Nat.le_refl _)
      · rw [set3_other (by omega)]; exact hb5.block k h2
      · rw [hcell, if_neg (by omega), if_neg (by omega), if_neg (by omega), cell_of_row _ _ _ _ _ _ hblk5, cell_of_row _ _ _ _ _ _ hblk]
    · rw [Nat.zero_add, hd, set3_size]
      refine ⟨?_, ?_, ?_, ?_⟩
      · rw [hcell, if_pos rfl]
      · rw [hcell, if_neg (by omega), if_pos rfl]
      · rw [hcell, if_neg (by omega), if_neg (by omega), if_pos rfl]
      · exact FrI.moved u hF (fun k h1 h2 => set3_other (by omega)) hmid (Nat.le_refl _)
  · obtain ⟨A', m'', c', hK, hT⟩ := h.rest i (by omega) hi2
    refine ⟨A', m'', c', hK.same (fun k hk => ?_), hT⟩
    rw [hcell, if_neg (by omega), if_neg (by omega), if_neg (by omega), cell_of_row _ _ _ _ _ _ hblk5, cell_of_row _ _ _ _ _ _ hblk]
theorem kidsLen {t : Tr} {m : Nat} (h : t.kids.length = m) (hs : sizeT t ≤ 1000000) : m < 1000000 := by
  have : ∀ l : List Tr, l.length ≤ sizeL l := fun l => by
    induction l with
    | nil => simp
    | cons u r ih => rw [sizeL, List.length_cons]; have := sizeT_eq u; omega
  have h1 := this t.kids
  have h2 := sizeT_eq t
  omega
theorem copy_end {w wr : World} {g2 m c2 : Nat} {ks : List Tr} {t : Tr} {g : Nat} (h : CpInv w wr g2 m m ks t.kids) (hl : t.kids.length = m) (i1 : I64 t.kind) (i2 : I64 t.num) (hmc : m ≤ c2) (hc29 : c2 ≤ 9223372036854775807) (hg : w.heap.size ≤ g) (hg1 : g < g2) (_hg2 : w.heap.size ≤ g2) :
    FrI (set3 wr g 0 (.int .i64 t.kind) (.int .i64 t.num) (.slice (some ⟨g2, 0, none⟩) m c2)) w.heap.size (set3 wr g 0 (.int .i64 t.kind) (.int .i64 t.num) (.slice (some ⟨g2, 0, none⟩) m c2)).heap.size (some ⟨g2, 0, none⟩) m c2 t ∧ Below w.heap.size w (set3 wr g 0 (.int .i64 t.kind) (.int .i64 t.num) (.slice (some ⟨g2, 0, none⟩) m c2)) := by
  obtain ⟨cur, hblk, hcs⟩ := h.blk
  refine ⟨FrI.mk_ ⟨i1, i2, hl, hmc, hc29, ?_, .inr ⟨g2, rfl, by omega, ⟨cur, (set3_other (by omega)).trans hblk⟩, ?_⟩⟩, below_set3 h.hb hg _ _ _ _⟩
  · rw [set3_size]; exact h.hb.size
  · rw [set3_size]
    exact KidsI.moved _ h.kds (fun k h1 h2 => set3_other (by omega)) (fun o => set3_cell_other (by omega)) (Nat.le_refl _)
set_option maxRecDepth 100000 in
set_option maxHeartbeats 4000000 in
theorem ex_Copy_step (N : Nat) (IH : Hid (CopyAt N)) : CopyAt (N + 1) := by
  intro t hN A m c w h hsz
  obtain ⟨hl, hc, hc9⟩ := h.out.len
  obtain ⟨i1, i2⟩ := h.out.nums
  have hm := kidsLen hl hsz
  have hz : (w.alloc (.cells #[.int .i64 t.kind, .int .i64 t.num, .slice A m c] 24)).heap.size = w.heap.size + 1 := World.size_alloc _ _
  have hb1 := (Below.refl w.heap.size w).alloc (Nat.le_refl _) (.cells #[.int .i64 t.kind, .int .i64 t.num, .slice A m c] 24)
  have hb2 := hb1.alloc (by rw [hz]; omega) (.cells #[.int .i64 0, .int .i64 0, .slice none 0 0] 24)
  have hx := (heap_alloc_old (w.alloc (.cells #[.int .i64 t.kind, .int .i64 t.num, .slice A m c] 24)) (.cells #[.int .i64 0, .int .i64 0, .slice none 0 0] 24) (r := w.heap.size) (by rw [hz]; omega)).trans (heap_alloc_new w _)
  have hy := heap_alloc_new (w.alloc (.cells #[.int .i64 t.kind, .int .i64 t.num, .slice A m c] 24)) (.cells #[.int .i64 0, .int .i64 0, .slice none 0 0] 24)
  rw [hz] at hy
  obtain ⟨w1, hw1⟩ : ∃ w1, w1 = (w.alloc (.cells #[.int .i64 t.kind, .int .i64 t.num, .slice A m c] 24)).alloc (.cells #[.int .i64 0, .int .i64 0, .slice none 0 0] 24) := ⟨_, rfl⟩
  have hs1 : w1.heap.size = w.heap.size + 2 := by rw [hw1, World.size_alloc, hz]
  obtain ⟨g, hg⟩ : ∃ g, g = w.heap.size := ⟨_, rfl⟩
  have HW1 := Lib.hid hw1
  have HG := Lib.hid hg
  have HS1 := Lib.hid hs1
  rw [← hw1] at hb2 hx hy
  rw [← hg] at hx hy
  have HB1 := Lib.hid hb2
  have HX := Lib.hid hx
  have HY := Lib.hid hy
  have x0 : w1.cell? ⟨g, 0, none⟩ = some (.int .i64 t.kind) := by rw [cell_of_row _ _ _ _ _ _ hx]; rfl
  have x1 : w1.cell? ⟨g, 1, none⟩ = some (.int .i64 t.num) := by rw [cell_of_row _ _ _ _ _ _ hx]; rfl
  have x2 : w1.cell? ⟨g, 2, none⟩ = some (.slice A m c) := by rw [cell_of_row _ _ _ _ _ _ hx]; rfl
  have CC := Lib.hid (clone_kids t A m c w w1 h HB1 hm)
  clear hz hb1 hb2 hx hy hw1 hs1 hg
  go_enter Tryd.func25, Tryd.ntmps25
  go_upto_region 1 with fail
  rw [← HG.out, ← HW1.out]
  go_wp2_with fail
  refine CC.out.mono ?_
  rintro e w2 ⟨A2, c2, rfl, hmc, hc29, hb2, hcl⟩
  have HB2 := Lib.hid hb2
  have HCL := Lib.hid hcl
  have hx2 := (hb2.block g (by rw [HS1.out, ← HG.out]; omega)).trans HX.out
  have y2 : w2.cell? ⟨g, 2, none⟩ = some (.slice A m c) := by rw [cell_of_row _ _ _ _ _ _ hx2]; rfl
  have f2 : w2.frozen? ⟨g, 2, none⟩ = false := by simp [World.frozen?, hx2]
  clear hb2 hcl hx2 x0 x1 x2
  go_upto_region 2 with fail
  have hgn : g ≠ g + 1 := by omega
  have hsz2 : w1.heap.size ≤ w2.heap.size := HB2.out.size
  have hx3 := set_same3 (o := 2) (u := .slice A2 m c2) ((HB2.out.block g (by rw [HS1.out, ← HG.out]; omega)).trans HX.out)
  have hy3 := (set_other3 (w := w2) (g := g) (o := 2) (k := g + 1) (u := .slice A2 m c2) (by omega)).trans ((HB2.out.block (g + 1) (by rw [HS1.out, ← HG.out]; omega)).trans HY.out)
  have hb3 := ((HB1.out.trans (HB2.out.mono HB1.out.size)).setCell (p := ⟨g, 2, none⟩) (by rw [HG.out]; exact Nat.le_refl _) (.slice A2 m c2))
  have hs3 : (w2.setCell ⟨g, 2, none⟩ (.slice A2 m c2)).heap.size = w2.heap.size := by simp [World.setCell]
  have ho3 := fun k (hk : k ≠ g) => set_other3 (w := w2) (g := g) (o := 2) (k := k) (u := .slice A2 m c2) hk
  obtain ⟨w3, hw3⟩ : ∃ w3, w3 = w2.setCell ⟨g, 2, none⟩ (.slice A2 m c2) := ⟨_, rfl⟩
  rw [← hw3] at hx3 hy3 hb3 hs3 ho3 ⊢
  have HX3 := Lib.hid (show w3.heap[g]? = some (.cells #[.int .i64 t.kind, .int .i64 t.num, .slice A2 m c2] 24 (0, 0)) from hx3)
  have HY3 := Lib.hid hy3
  have HB3 := Lib.hid hb3
  have HS3 := Lib.hid hs3
  have HO3 := Lib.hid ho3
  have y2 : w3.cell? ⟨g, 2, none⟩ = some (.slice A2 m c2) := by rw [cell_of_row _ _ _ _ _ _ HX3.out]; rfl
  clear hx3 hy3 hb3 hs3 ho3 hw3 f2
  by_cases h0 : m = 0
  · subst h0
    have x0 : w3.cell? ⟨g, 0, none⟩ = some (.int .i64 t.kind) := by rw [cell_of_row _ _ _ _ _ _ HX3.out]; rfl
    have x1 : w3.cell? ⟨g, 1, none⟩ = some (.int .i64 t.num) := by rw [cell_of_row _ _ _ _ _ _ HX3.out]; rfl
    have z0 : w3.cell? ⟨g + 1, 0, none⟩ = some (.int .i64 0) := by rw [cell_of_row _ _ _ _ _ _ HY3.out]; rfl
    have z1 : w3.cell? ⟨g + 1, 1, none⟩ = some (.int .i64 0) := by rw [cell_of_row _ _ _ _ _ _ HY3.out]; rfl
    have z2 : w3.cell? ⟨g + 1, 2, none⟩ = some (.slice none 0 0) := by rw [cell_of_row _ _ _ _ _ _ HY3.out]; rfl
    have f0 : w3.frozen? ⟨g + 1, 0, none⟩ = false := by simp [World.frozen?, HY3.out]
    have f1 : w3.frozen? ⟨g + 1, 1, none⟩ = false := by simp [World.frozen?, HY3.out]
    have f2 : w3.frozen? ⟨g + 1, 2, none⟩ = false := by simp [World.frozen?, HY3.out]
    have hend : FrI (set3 w3 (g + 1) 0 (.int .i64 t.kind) (.int .i64 t.num) (.slice A2 0 c2)) w.heap.size (set3 w3 (g + 1) 0 (.int .i64 t.kind) (.int .i64 t.num) (.slice A2 0 c2)).heap.size A2 0 c2 t := FrI.mk_ ⟨i1, i2, hl, hmc, hc29, by rw [set3_size]; exact HB3.out.size, .inl rfl⟩
    have HEND := Lib.hid hend
    have HEN2 := Lib.hid (below_set3 HB3.out (g := g + 1) (by rw [← HG.out]; omega) 0 (.int .i64 t.kind) (.int .i64 t.num) (.slice A2 0 c2))
    clear hend hl HCL hgn hsz2
    go_wp2_with fail
    go_loopw [12] (fun v12 wr => v12 = .int .i64 0 ∧ Hid (wr = w3)) (fun v12 _ => 0)
    case atStart => exact ⟨rfl, Lib.hid rfl⟩
    case round =>
      obtain ⟨rfl, hw⟩ := hrel
      have hw2 := hw.out
      subst hw2
      go_wp2_with fail
      obtain ⟨qa, qb, qc⟩ := set3_steps z0 z1 z2 (.int .i64 t.kind) (.int .i64 t.num) (.slice A2 0 c2)
      exact bodyPost_ret (v := .agg #[.int .i64 t.kind, .int .i64 t.num, .slice A2 0 c2]) (by simp [results, Tryd.results25, go_sem, qa, qb, qc]) rfl ⟨_, _, rfl, HEND, HEN2⟩
  · obtain ⟨g2, cur, rfl, hg2, hh2, hcs, hkc⟩ := HCL.out.resolve_left h0
    have hinv : CpInv w w3 g2 m 0 t.kids [] := ⟨HB3.out, ⟨cur, (HO3.out g2 (by rw [HG.out]; have := HS1.out; omega)).trans hh2, hcs⟩, by
      rw [KidsI]
      have := (Array.getElem?_eq_some_iff.1 hh2).1
      rw [HS3.out]; omega, fun i _ hi => by
      obtain ⟨A', m', c', hK, hT⟩ := hkc i hi
      exact ⟨A', m', c', hK.same (fun k _ => by simp only [World.cell?, HO3.out g2 (by rw [HG.out]; have := HS1.out; omega)]), hT⟩⟩
    have HINV := Lib.hid hinv
    have HG2 := Lib.hid (show g + 2 ≤ g2 by rw [HG.out]; have := HS1.out; omega)
    clear hinv hh2 hcs hkc hg2 HCL hgn hsz2
    go_wp2_with fail
    go_loopw [12] (fun v12 wr => ∃ (j : Nat), j ≤ m ∧ v12 = .int .i64 (j : Int) ∧ Hid (CpInv w wr g2 m j t.kids (t.kids.take j)) ∧ Hid (wr.heap[g]? = some (.cells #[.int .i64 t.kind, .int .i64 t.num, .slice (some ⟨g2, 0, none⟩) m c2] 24 (0, 0))) ∧ Hid (wr.heap[g + 1]? = some (.cells #[.int .i64 0, .int .i64 0, .slice none 0 0] 24 (0, 0)))) (fun v12 _ => m - (intOf v12).toNat)
    case atStart => exact ⟨0, by omega, rfl, HINV, HX3, HY3⟩
    case round =>
      obtain ⟨j, hj, rfl, hI, hX, hY⟩ := hrel
      by_cases hlt : j < m
      · obtain ⟨A', m', c', hK, hT⟩ := hI.out.rest j (Nat.le_refl _) hlt
        have hkd := Tr.kid_lt (t := t) (j := j) (by omega)
        have hsk := size_kid (t := t) (j := j) (by omega)
        obtain ⟨q, hq⟩ : ∃ q, q = t.kids.getD j default := ⟨_, rfl⟩
        rw [← hq] at hK hT hkd hsk
        obtain ⟨cur, hblk, hcs⟩ := hI.out.blk
        have c0 := hK.c0
        have c1 := hK.c1
        have c2' := hK.c2
        have ha := (Below.refl wr.heap.size wr).alloc (Nat.le_refl _) (.cells #[.int .i64 q.kind, .int .i64 q.num, .slice A' m' c'] 24)
        have e0 := cell_new wr #[.int .i64 q.kind, .int .i64 q.num, .slice A' m' c'] 24 0 _ rfl
        have e1 := cell_new wr #[.int .i64 q.kind, .int .i64 q.num, .slice A' m' c'] 24 1 _ rfl
        have e2 := cell_new wr #[.int .i64 q.kind, .int .i64 q.num, .slice A' m' c'] 24 2 _ rfl
        have z2 : (wr.alloc (.cells #[.int .i64 q.kind, .int .i64 q.num, .slice A' m' c'] 24)).cell? ⟨g, 2, none⟩ = some (.slice (some ⟨g2, 0, none⟩) m c2) := cell_kept ha (by rw [cell_of_row _ _ _ _ _ _ hX.out]; rfl)
        have hblk2 := (ha.block g2 (Array.getElem?_eq_some_iff.1 hblk).1).trans hblk
        obtain ⟨wa, hwa⟩ : ∃ wa, wa = wr.alloc (.cells #[.int .i64 q.kind, .int .i64 q.num, .slice A' m' c'] 24) := ⟨_, rfl⟩
        obtain ⟨ga, hga⟩ : ∃ ga, ga = wr.heap.size := ⟨_, rfl⟩
        have HWA := Lib.hid hwa
        have HGA := Lib.hid hga
        rw [← hwa] at ha e0 e1 e2 z2 hblk2
        rw [← hga] at e0 e1 e2
        have HA := Lib.hid ha
        have CQ := Lib.hid (fun W h => IH.out q (by omega) A' m' c' W h (by omega))
        have HTQ := Lib.hid (fun W (hb : Below wa.heap.size wa W) => hT.kept (hI.out.hb.trans ((ha.trans (hb.mono ha.size)).mono hI.out.hb.size)))
        have HBK := Lib.hid hblk2
        have hlt2 : (j : Int) < (m : Int) := by omega
        have hj0 : (0 : Int) ≤ (j : Int) := by omega
        have hqt : t.kids.take (j + 1) = t.kids.take j ++ [q] := by rw [take_snocT (by omega), hq]
        have HQT := Lib.hid hqt
        have hld : (t.kids.take j).length = j := List.length_take_of_le (by omega)
        have HLD := Lib.hid hld
        have hd9 : Below wa.heap.size wa wa.drew := below_drewN' (Below.refl _ _) 1
        have BD := Lib.hid hd9
        have HC := Lib.hid (show ∀ W, Below wa.heap.size wa W → W.cell? ⟨g, 2, none⟩ = some (.slice (some ⟨g2, 0, none⟩) m c2) ∧ W.cell? ⟨ga, 0, none⟩ = some (.int .i64 q.kind) ∧ W.cell? ⟨ga, 1, none⟩ = some (.int .i64 q.num) ∧ W.cell? ⟨ga, 2, none⟩ = some (.slice A' m' c') from fun W h => ⟨cell_kept h z2, cell_kept h e0, cell_kept h e1, cell_kept h e2⟩)
        have NG : g ≠ g2 := by have := HG2.out; omega
        have NG1 : g + 1 ≠ g2 := by have := HG2.out; omega
        have NGA : ga ≠ g2 := by have := (Array.getElem?_eq_some_iff.1 hblk).1; omega
        clear hqt hld hK hT hq hblk hblk2 hwa hga ha hkd hsk hd9
        go_upto_region 5 with fail
        rw [← HGA.out, ← HWA.out]
        go_region_held3 (fun W => W.cell? ⟨g, 2, none⟩ = some (.slice (some ⟨g2, 0, none⟩) m c2) ∧ W.cell? ⟨ga, 0, none⟩ = some (.int .i64 q.kind) ∧ W.cell? ⟨ga, 1, none⟩ = some (.int .i64 q.num) ∧ W.cell? ⟨ga, 2, none⟩ = some (.slice A' m' c'))
          (first | exact HCS.out _ _ _ | exact HC.out _ BD1.out | exact HC.out _ BD.out)
          (first
            | (go_at_call 25; refine (CQ.out _ (HTQ.out _ BD.out)).mono ?_; rintro e w5 ⟨A3, c3, rfl, hF, hb5⟩; have BD1 := Lib.hid (below_then BD.out hb5.out); have hbk5 := (BD1.out.block g2 (Array.getElem?_eq_some_iff.1 HBK.out).1).trans HBK.out; have k0 := cell_kept (below_then HA.out BD1.out) c0; have k1 := cell_kept (below_then HA.out BD1.out) c1; have k2 := cell_kept (below_then HA.out BD1.out) c2'; have f0 : w5.frozen? ⟨g2, j * 3, none⟩ = false := by simp [World.frozen?, hbk5]
               have f1 : w5.frozen? ⟨g2, j * 3 + 1, none⟩ = false := by simp [World.frozen?, hbk5]
               have f2 : w5.frozen? ⟨g2, j * 3 + 2, none⟩ = false := by simp [World.frozen?, hbk5]
               have HBK5 := Lib.hid hbk5
               have HCS := Lib.hid (show ∀ u0 u1 u2, _ from fun u0 u1 u2 => And.intro ((set3_cell_other (w := w5) (g := g2) (o := j * 3) (b := g) (i := 2) (u0 := u0) (u1 := u1) (u2 := u2) NG).trans (HC.out _ BD1.out).1) (And.intro ((set3_cell_other (w := w5) (g := g2) (o := j * 3) (b := ga) (i := 0) (u0 := u0) (u1 := u1) (u2 := u2) NGA).trans (HC.out _ BD1.out).2.1) (And.intro ((set3_cell_other (w := w5) (g := g2) (o := j * 3) (b := ga) (i := 1) (u0 := u0) (u1 := u1) (u2 := u2) NGA).trans (HC.out _ BD1.out).2.2.1) ((set3_cell_other (w := w5) (g := g2) (o := j * 3) (b := ga) (i := 2) (u0 := u0) (u1 := u1) (u2 := u2) NGA).trans (HC.out _ BD1.out).2.2.2))))
               clear hbk5))
        all_goals
          have hb6 := below_then HA.out BD1.out
          have HS := Lib.hid (hI.out.step (mid := wr.heap.size) hlt HLD.out (by have := HG2.out; rw [← HG.out]; omega) hb6 (Nat.le_refl _) (hF.out.wide (by have := (below_then HA.out BD.out).size; exact this) (Nat.le_refl _)))
          rw [← HQT.out] at HS
          have HX6 := Lib.hid ((set3_other (w := w5) (g := g2) (o := j * 3) (u0 := .int .i64 q.kind) (u1 := .int .i64 q.num) (u2 := .slice A3 m' c3) NG).trans ((hb6.block g (Array.getElem?_eq_some_iff.1 hX.out).1).trans hX.out))
          have HY6 := Lib.hid ((set3_other (w := w5) (g := g2) (o := j * 3) (u0 := .int .i64 q.kind) (u1 := .int .i64 q.num) (u2 := .slice A3 m' c3) NG1).trans ((hb6.block (g + 1) (Array.getElem?_eq_some_iff.1 hY.out).1).trans hY.out))
          unfold set3 at HS HX6 HY6
          clear hb6
          go_wp2_with fail
          go_roundw
          case rel => exact ⟨j + 1, by omega, by go_num, HS, HX6, HY6⟩
          case measure => simp [intOf]; omega
      · have hjm : j = m := by omega
        subst hjm
        have e1 : t.kids.take j = t.kids := List.take_of_length_le (by omega)
        have hI2 := hI.out
        rw [e1] at hI2
        have hend := copy_end hI2 hl i1 i2 hmc hc29 (g := g + 1) (by rw [← HG.out]; omega) (by have := HG2.out; omega) (by have := HG2.out; rw [← HG.out]; omega)
        have HEND := Lib.hid hend
        have x0 : wr.cell? ⟨g, 0, none⟩ = some (.int .i64 t.kind) := by rw [cell_of_row _ _ _ _ _ _ hX.out]; rfl
        have x1 : wr.cell? ⟨g, 1, none⟩ = some (.int .i64 t.num) := by rw [cell_of_row _ _ _ _ _ _ hX.out]; rfl
        have x2 : wr.cell? ⟨g, 2, none⟩ = some (.slice (some ⟨g2, 0, none⟩) j c2) := by rw [cell_of_row _ _ _ _ _ _ hX.out]; rfl
        have y0 : wr.cell? ⟨g + 1, 0, none⟩ = some (.int .i64 0) := by rw [cell_of_row _ _ _ _ _ _ hY.out]; rfl
        have y1 : wr.cell? ⟨g + 1, 1, none⟩ = some (.int .i64 0) := by rw [cell_of_row _ _ _ _ _ _ hY.out]; rfl
        have y2 : wr.cell? ⟨g + 1, 2, none⟩ = some (.slice none 0 0) := by rw [cell_of_row _ _ _ _ _ _ hY.out]; rfl
        have f0 : wr.frozen? ⟨g + 1, 0, none⟩ = false := by simp [World.frozen?, hY.out]
        have f1 : wr.frozen? ⟨g + 1, 1, none⟩ = false := by simp [World.frozen?, hY.out]
        have f2 : wr.frozen? ⟨g + 1, 2, none⟩ = false := by simp [World.frozen?, hY.out]
        clear e1 hI2 hend
        go_wp2_with fail
        obtain ⟨qa, qb, qc⟩ := set3_steps y0 y1 y2 (.int .i64 t.kind) (.int .i64 t.num) (.slice (some ⟨g2, 0, none⟩) j c2)
        exact bodyPost_ret (v := .agg #[.int .i64 t.kind, .int .i64 t.num, .slice (some ⟨g2, 0, none⟩) j c2]) (by simp [results, Tryd.results25, go_sem, qa, qb, qc]) rfl ⟨_, _, rfl, Lib.hid HEND.out.1, Lib.hid HEND.out.2⟩
theorem ex_Copy : ∀ N, CopyAt N
  | 0 => fun t hN _ _ _ _ _ _ => by have := t.sz_pos; omega
  | N + 1 => ex_Copy_step N (Lib.hid (ex_Copy N))
end Go.Proofs.YtmfdiclbenmfbaaDoor
