/- Contracts of package timer: Swap of entries. -/
import Derived.Test.YtkcggnfbmbfciaaTimA
namespace Go.Proofs.Ytkcggnfbmbfciaa
open Go.RowKit
/-- Only the blocks of which 'own' holds have turned, and what is new. -/
structure Only (own : Nat → Prop) (w w' : World) : Prop where
  os : w'.os = w.os
  tape : w'.tape = w.tape
  output : w'.output = w.output
  size : w.heap.size ≤ w'.heap.size
  block : ∀ k, k < w.heap.size → ¬ own k → w'.heap[k]? = w.heap[k]?
theorem Only.refl (own : Nat → Prop) (w : World) : Only own w w := ⟨rfl, rfl, rfl, Nat.le_refl _, fun _ _ _ => rfl⟩
theorem Only.trans {own : Nat → Prop} {a b c : World} (h : Only own a b) (k : Only own b c) : Only own a c :=
  ⟨k.os.trans h.os, k.tape.trans h.tape, k.output.trans h.output, Nat.le_trans h.size k.size, fun i hi hn => (k.block i (Nat.lt_of_lt_of_le hi h.size) hn).trans (h.block i hi hn)⟩
theorem Only.mono {own own' : Nat → Prop} {a b : World} (h : Only own a b) (ho : ∀ k, k < a.heap.size → own k → own' k) : Only own' a b := ⟨h.os, h.tape, h.output, h.size, fun i hi hn => h.block i hi fun hk => hn (ho i hi hk)⟩
theorem Only.drew {own : Nat → Prop} {a w : World} (h : Only own a w) : Only own a w.drew := ⟨h.os, h.tape, h.output, h.size, h.block⟩
theorem Only.drewN {own : Nat → Prop} {a w : World} (h : Only own a w) (n : Nat) : Only own a (w.drewN n) := ⟨h.os, h.tape, h.output, h.size, h.block⟩
theorem Only.set {own : Nat → Prop} {a w : World} (h : Only own a w) (g o : Nat) (u : Value) (hg : own g) : Only own a (w.setCell ⟨g, o, none⟩ u) :=
  ⟨h.os, h.tape, h.output, by simpa [World.setCell] using h.size, fun i hi hn => (Below.heap_setCell w ⟨g, o, none⟩ u i (by rintro rfl; exact hn hg)).trans (h.block i hi hn)⟩
theorem Only.below {own : Nat → Prop} {a w : World} {B : Nat} (h : Only own a w) (hB : ∀ k, k < B → ¬ own k) (hs : B ≤ a.heap.size) : Below B a w := ⟨h.os, h.tape, h.output, h.size, fun k hk => h.block k (by omega) (hB k hk)⟩
theorem set_same {w : World} {g o t : Nat} {c : Array Value} {u : Value} (h : w.heap[g]? = some (.cells c t (0, 0))) : (w.setCell ⟨g, o, none⟩ u).heap[g]? = some (.cells (c.setIfInBounds o u) t (0, 0)) := by
  simp [World.setCell, Array.getElem?_modify, h]
theorem set_other {w : World} {g x o : Nat} {u : Value} (h : x ≠ g) : (w.setCell ⟨g, o, none⟩ u).heap[x]? = w.heap[x]? := Below.heap_setCell w ⟨g, o, none⟩ u x h
/-- The blocks of the entries and of their row. -/
def OwnL (b : Nat) (hs : List Ent) (x : Nat) : Prop := x = b ∨ ∃ e ∈ hs, x = e.blk
theorem OwnL.perm {b : Nat} {hs l : List Ent} (h : hs.Perm l) {x : Nat} (ho : OwnL b l x) : OwnL b hs x := by
  rcases ho with h1 | ⟨e, he, h1⟩
  · exact .inl h1
  · exact .inr ⟨e, h.mem_iff.2 he, h1⟩
theorem OwnL.at_ {b : Nat} {hs : List Ent} {j : Nat} (h : j < hs.length) : OwnL b hs (gE hs j).blk := .inr ⟨_, List.mem_iff_getElem?.2 ⟨j, gE_some h⟩, rfl⟩
theorem swap_world {w : World} {b cap : Nat} {hs : List Ent} {i k : Nat} (h : Lies w b cap hs) (hi : i < hs.length) (hk : k < hs.length) (hne : i ≠ k) :
    Lies (((((w.setCell ⟨b, i, none⟩ (.pointer (some ⟨(gE hs k).blk, 0, none⟩))).setCell ⟨b, k, none⟩ (.pointer (some ⟨(gE hs i).blk, 0, none⟩))).drew).setCell ⟨(gE hs k).blk, 2, none⟩ (.int .i64 (i : Int))).setCell ⟨(gE hs i).blk, 2, none⟩ (.int .i64 (k : Int))).drew b cap (swp hs i k) ∧
    Only (OwnL b hs) w (((((w.setCell ⟨b, i, none⟩ (.pointer (some ⟨(gE hs k).blk, 0, none⟩))).setCell ⟨b, k, none⟩ (.pointer (some ⟨(gE hs i).blk, 0, none⟩))).drew).setCell ⟨(gE hs k).blk, 2, none⟩ (.int .i64 (i : Int))).setCell ⟨(gE hs i).blk, 2, none⟩ (.int .i64 (k : Int))).drew := by
  have ni := h.ne hi
  have nk := h.ne hk
  have nik := h.apart hi hk hne
  refine ⟨⟨by rw [swp_len]; exact h.le, h.max, ?_, fun j hj => ?_⟩, ?_⟩
  · obtain ⟨cur, h1, h2, h3⟩ := h.row
    refine ⟨(cur.setIfInBounds i (.pointer (some ⟨(gE hs k).blk, 0, none⟩))).setIfInBounds k (.pointer (some ⟨(gE hs i).blk, 0, none⟩)), ?_, by simp [h2], ?_⟩
    · show ((((w.setCell _ _).setCell _ _).setCell _ _).setCell _ _).heap[b]? = _
      rw [set_other ni.symm, set_other nk.symm]
      exact set_same (set_same h1)
    · rw [swp_len, Array.toList_setIfInBounds, Array.toList_setIfInBounds, List.take_set, List.take_set, h3]
      have e1 : (Value.pointer (some ⟨(gE hs k).blk, 0, none⟩)) = ptrV (gE hs k) := rfl
      have e2 : (Value.pointer (some ⟨(gE hs i).blk, 0, none⟩)) = ptrV (gE hs i) := rfl
      rw [e1, e2]
      unfold swp
      rw [List.map_set, List.map_set]
  · rw [swp_len] at hj
    rw [swp_get hi hk]
    show ((((w.setCell _ _).setCell _ _).setCell _ _).setCell _ _).heap[_]? = _
    by_cases e1 : j = k
    · rw [if_pos e1, e1]
      have h1 := h.ent i hi
      have h2 : ((((w.setCell ⟨b, i, none⟩ (.pointer (some ⟨(gE hs k).blk, 0, none⟩))).setCell ⟨b, k, none⟩ (.pointer (some ⟨(gE hs i).blk, 0, none⟩)))).setCell ⟨(gE hs k).blk, 2, none⟩ (.int .i64 (i : Int))).heap[(gE hs i).blk]? = some (.cells (entCells (gE hs i) i) 57 (0, 0)) := by
        rw [set_other nik, set_other ni, set_other ni]; exact h1
      rw [set_same h2]; rfl
    · rw [if_neg e1]
      by_cases e2 : j = i
      · rw [if_pos e2, e2, set_other nik.symm]
        have h1 := h.ent k hk
        have h2 : (((w.setCell ⟨b, i, none⟩ (.pointer (some ⟨(gE hs k).blk, 0, none⟩))).setCell ⟨b, k, none⟩ (.pointer (some ⟨(gE hs i).blk, 0, none⟩)))).heap[(gE hs k).blk]? = some (.cells (entCells (gE hs k) k) 57 (0, 0)) := by
          rw [set_other nk, set_other nk]; exact h1
        rw [set_same h2]; rfl
      · rw [if_neg e2, set_other (h.apart hj hi e2), set_other (h.apart hj hk e1), set_other (h.ne hj), set_other (h.ne hj)]
        exact h.ent j hj
  · exact (((((Only.refl _ _).set _ _ _ (.inl rfl)).set _ _ _ (.inl rfl)).drew.set _ _ _ (OwnL.at_ hk)).set _ _ _ (OwnL.at_ hi)).drew
set_option maxRecDepth 100000 in
set_option maxHeartbeats 1000000 in
theorem tim_Swap (b cap : Nat) (hs : List Ent) (i k n : Nat) (w : World) (H : Hid (Lies w b cap hs)) (hn : Hid (n = hs.length)) (hi : i < n) (hk : k < n) (hne : i ≠ k) :
    Calls Try.prog 74 #[.slice (some ⟨b, 0, none⟩) n cap, .int .i64 (i : Int), .int .i64 (k : Int)] w fun e w' => e = .returned (.tuple #[]) ∧ Lies w' b cap (swp hs i k) ∧ Only (OwnL b hs) w w' := by
  have hi' : i < hs.length := by rw [← hn.out]; exact hi
  have hk' : k < hs.length := by rw [← hn.out]; exact hk
  have c1 := H.out.c hi'
  have c2 := H.out.c hk'
  have p1 := H.out.p hi'
  have p2 := H.out.p hk'
  have f1 := H.out.f i
  have f2 := H.out.f k
  have g1 := H.out.fe hi' 2
  have g2 := H.out.fe hk' 2
  have n1 := H.out.ne hi'
  have n2 := H.out.ne hk'
  have n3 := H.out.apart hi' hk' hne
  clear hi' hk'
  obtain ⟨x, hx⟩ : ∃ x, x = (gE hs i).blk := ⟨_, rfl⟩
  obtain ⟨y, hy⟩ : ∃ y, y = (gE hs k).blk := ⟨_, rfl⟩
  rw [← hx] at c1 p1 g1 n1 n3
  rw [← hy] at c2 p2 g2 n2 n3
  have HX := Lib.hid hx
  have HY := Lib.hid hy
  clear hx hy
  have hi2 : (i : Int) < (n : Int) := by omega
  have hk2 : (k : Int) < (n : Int) := by omega
  have hi0 : (0 : Int) ≤ (i : Int) := by omega
  have hk0 : (0 : Int) ≤ (k : Int) := by omega
  have n4 : ¬ b = x := fun h => n1 h.symm
  have n5 : ¬ b = y := fun h => n2 h.symm
  have n6 : ¬ y = x := fun h => n3 h.symm
  have n7 : ¬ k = i := fun h => hne h.symm
  go_enter Try.func74, Try.ntmps74
  go_wp2
  go_region
  all_goals
    obtain ⟨w1, hw1⟩ : ∃ w1, w1 = ((w.setCell ⟨b, i, none⟩ (.pointer (some ⟨y, 0, none⟩))).setCell ⟨b, k, none⟩ (.pointer (some ⟨x, 0, none⟩))).drew := ⟨_, rfl⟩
    rw [← hw1]
    have q1 : w1.cell? ⟨b, i, none⟩ = some (.pointer (some ⟨y, 0, none⟩)) := by rw [hw1]; go_simp
    have q2 : w1.cell? ⟨b, k, none⟩ = some (.pointer (some ⟨x, 0, none⟩)) := by rw [hw1]; go_simp
    have q3 : w1.cell? ⟨x, 2, none⟩ = some (.int .i64 (i : Int)) := by rw [hw1]; go_simp
    have q4 : w1.cell? ⟨y, 2, none⟩ = some (.int .i64 (k : Int)) := by rw [hw1]; go_simp
    have q5 : w1.frozen? ⟨x, 2, none⟩ = false := by rw [hw1]; go_simp
    have q6 : w1.frozen? ⟨y, 2, none⟩ = false := by rw [hw1]; go_simp
    have HW := Lib.hid hw1
    clear hw1 c1 c2 p1 p2 f1 f2 g1 g2
    go_wp2
    go_region
    all_goals
      go_wp2
      go_end0
      refine ⟨rfl, ?_⟩
      have hi' : i < hs.length := by rw [← hn.out]; exact hi
      have hk' : k < hs.length := by rw [← hn.out]; exact hk
      have hsw := swap_world H.out hi' hk' hne
      rw [← HX.out, ← HY.out, ← HW.out] at hsw
      exact hsw
end Go.Proofs.Ytkcggnfbmbfciaa
