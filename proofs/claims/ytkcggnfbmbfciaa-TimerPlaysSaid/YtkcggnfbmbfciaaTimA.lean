/- Contracts of package timer: Less, Swap, Len of entries. -/
import Derived.Test.YtkcggnfbmbfciaaChecked
import Derived.Test.YtkcggnfbmbfciaaTimQ
import Derived.Test.YtkcggnfbmbfciaaSl
import Derived.BigQuiet
import Derived.Deep.QuietTactic
import Derived.Deep.RegionWith
import Derived.BigRegion
import Derived.Deep.DeepCutAuto
namespace Go.Proofs.Ytkcggnfbmbfciaa
open Go.RowKit
def ptrV (e : Ent) : Value := .pointer (some ⟨e.blk, 0, none⟩)
def entCells (e : Ent) (j : Nat) : Array Value := #[.int .i64 e.id, .int .i64 e.at_, .int .i64 (j : Int)]
/-- The entries lie in row b, in order; each knows its place. -/
structure Lies (w : World) (b cap : Nat) (hs : List Ent) : Prop where
  le : hs.length ≤ cap
  max : cap ≤ 9223372036854775807
  row : ∃ cur : Array Value, w.heap[b]? = some (.cells cur 55 (0, 0)) ∧ cur.size = cap ∧ cur.toList.take hs.length = hs.map ptrV
  ent : ∀ j, j < hs.length → w.heap[(gE hs j).blk]? = some (.cells (entCells (gE hs j) j) 57 (0, 0))
theorem gE_some {hs : List Ent} {j : Nat} (h : j < hs.length) : hs[j]? = some (gE hs j) := by simp [gE, List.getD, h]
theorem Lies.c {w : World} {b cap : Nat} {hs : List Ent} (h : Lies w b cap hs) {j : Nat} (hj : j < hs.length) : w.cell? ⟨b, j, none⟩ = some (.pointer (some ⟨(gE hs j).blk, 0, none⟩)) := by
  obtain ⟨cur, h1, _, h3⟩ := h.row
  rw [cell_of_row _ _ _ _ _ _ h1]
  have e1 : (cur.toList.take hs.length)[j]? = cur.toList[j]? := by rw [List.getElem?_take, if_pos hj]
  rw [h3, List.getElem?_map, gE_some hj] at e1
  simpa [ptrV] using e1.symm
theorem Lies.f {w : World} {b cap : Nat} {hs : List Ent} (h : Lies w b cap hs) (j : Nat) : w.frozen? ⟨b, j, none⟩ = false := by
  obtain ⟨cur, h1, _, _⟩ := h.row
  simp [World.frozen?, h1]
theorem Lies.i {w : World} {b cap : Nat} {hs : List Ent} (h : Lies w b cap hs) {j : Nat} (hj : j < hs.length) : w.cell? ⟨(gE hs j).blk, 0, none⟩ = some (.int .i64 (gE hs j).id) := by
  rw [cell_of_row _ _ _ _ _ _ (h.ent j hj)]; rfl
theorem Lies.a {w : World} {b cap : Nat} {hs : List Ent} (h : Lies w b cap hs) {j : Nat} (hj : j < hs.length) : w.cell? ⟨(gE hs j).blk, 1, none⟩ = some (.int .i64 (gE hs j).at_) := by
  rw [cell_of_row _ _ _ _ _ _ (h.ent j hj)]; rfl
theorem Lies.p {w : World} {b cap : Nat} {hs : List Ent} (h : Lies w b cap hs) {j : Nat} (hj : j < hs.length) : w.cell? ⟨(gE hs j).blk, 2, none⟩ = some (.int .i64 (j : Int)) := by
  rw [cell_of_row _ _ _ _ _ _ (h.ent j hj)]; rfl
theorem Lies.fe {w : World} {b cap : Nat} {hs : List Ent} (h : Lies w b cap hs) {j : Nat} (hj : j < hs.length) (o : Nat) : w.frozen? ⟨(gE hs j).blk, o, none⟩ = false := by
  simp [World.frozen?, h.ent j hj]
theorem Lies.ne {w : World} {b cap : Nat} {hs : List Ent} (h : Lies w b cap hs) {j : Nat} (hj : j < hs.length) : (gE hs j).blk ≠ b := by
  intro e
  have h1 := h.i hj
  rw [e] at h1
  have h2 := h.c (show 0 < hs.length by omega)
  rw [h1] at h2
  cases h2
theorem Lies.apart {w : World} {b cap : Nat} {hs : List Ent} (h : Lies w b cap hs) {j k : Nat} (hj : j < hs.length) (hk : k < hs.length) (hne : j ≠ k) : (gE hs j).blk ≠ (gE hs k).blk := by
  intro e
  have h1 := h.p hj
  have h2 := h.p hk
  rw [e] at h1
  rw [h1] at h2
  injection h2 with h2; injection h2 with _ h2
  omega
theorem Lies.drewN {w : World} {b cap : Nat} {hs : List Ent} (h : Lies w b cap hs) (n : Nat) : Lies (w.drewN n) b cap hs := ⟨h.le, h.max, h.row, h.ent⟩
def ltB (a b : Ent) : Bool := decide (a.at_ < b.at_) || (decide (a.at_ = b.at_) && decide (a.id < b.id))
theorem ltB_iff {a b : Ent} : ltB a b = true ↔ ltE a b := by simp [ltB, ltE]
theorem ltB_false {a b : Ent} : ltB a b = false ↔ leE b a := by rw [Bool.eq_false_iff, ne_eq, ltB_iff]; rfl
theorem ret_b {a b : Bool} (h : a = b) : Ending.returned (.bool a) = .returned (.bool b) := by rw [h]
set_option maxRecDepth 100000 in
set_option maxHeartbeats 1000000 in
theorem tim_Less (b cap : Nat) (hs : List Ent) (i k n : Nat) (w : World) (H : Hid (Lies w b cap hs)) (hn : Hid (n = hs.length)) (hi : i < n) (hk : k < n) :
    Calls Try.prog 73 #[.slice (some ⟨b, 0, none⟩) n cap, .int .i64 (i : Int), .int .i64 (k : Int)] w fun e w' => e = .returned (.bool (ltB (gE hs i) (gE hs k))) ∧ ∃ q, w' = w.drewN q := by
  have hi' : i < hs.length := by rw [← hn.out]; exact hi
  have hk' : k < hs.length := by rw [← hn.out]; exact hk
  have c1 := H.out.c hi'
  have c2 := H.out.c hk'
  have i1 := H.out.i hi'
  have i2 := H.out.i hk'
  have a1 := H.out.a hi'
  have a2 := H.out.a hk'
  clear hi' hk'
  obtain ⟨x, hx⟩ : ∃ x, x = gE hs i := ⟨_, rfl⟩
  obtain ⟨y, hy⟩ : ∃ y, y = gE hs k := ⟨_, rfl⟩
  rw [← hx] at c1 i1 a1
  rw [← hy] at c2 i2 a2
  rw [← hx, ← hy]
  obtain ⟨bx, ix, ax⟩ := x
  obtain ⟨by_, iy, ay⟩ := y
  simp only at c1 c2 i1 i2 a1 a2
  clear hx hy
  have hi2 : (i : Int) < (n : Int) := by omega
  have hk2 : (k : Int) < (n : Int) := by omega
  have hi0 : (0 : Int) ≤ (i : Int) := by omega
  have hk0 : (0 : Int) ≤ (k : Int) := by omega
  by_cases h1 : ax < ay
  · go_enter Try.func73, Try.ntmps73
    go_wp2
    go_quiet (fail)
    go_wp2
    go_ret
    exact ⟨ret_b (by simp [ltB, h1]), _, rfl⟩
  · have d1 : decide (ax < ay) = false := by simpa using h1
    by_cases h2 : ax = ay
    · have d2 : (ax == ay) = true := by simpa using h2
      have H2 := Lib.hid h2
      clear h2 h1
      go_enter Try.func73, Try.ntmps73
      go_wp2
      go_quiet (fail)
      go_wp2
      go_ret
      refine ⟨ret_b ?_, _, rfl⟩
      have h2 := H2.out
      subst h2
      simp [ltB]
    · have d2 : (ax == ay) = false := by simpa using h2
      go_enter Try.func73, Try.ntmps73
      go_wp2
      go_quiet (fail)
      go_wp2
      go_ret
      exact ⟨ret_b (by simp [ltB, d1, h2]), _, rfl⟩
end Go.Proofs.Ytkcggnfbmbfciaa
