/- Contracts of package mark: the reader's numbers. -/
import Derived.Test.YtajcleobmgjhoaaGreatDoorMarkF
namespace Go.Proofs.YtajcleobmgjhoaaGreatDoor
open Go.RowKit Go.Lib
/-- The number that bytes write. -/
def numB : Int → List Int → Int
  | z, [] => z
  | z, x :: r => numB (z * 256 + x) r
def U8s (l : List Int) : Prop := ∀ x ∈ l, 0 ≤ x ∧ x ≤ 255
theorem numB_snoc (x : Int) : ∀ (l : List Int) (z : Int), numB z (l ++ [x]) = numB z l * 256 + x
  | [], _ => rfl
  | y :: r, z => numB_snoc x r (z * 256 + y)
/-- A reader in memory: what is left of the bytes, and whether they were too few. -/
structure Rd (w : World) (lim r : Nat) (rest : List Int) (bad : Bool) : Prop where
  buf : ∃ A n c, w.cell? ⟨r, 0, none⟩ = some (.slice A n c) ∧ Sl w (.slice A n c) n 1 (u8Cells rest) ∧ (0 < n → ∀ b o, A = some ⟨b, o, none⟩ → b < lim)
  lt : r < lim
  isBad : w.cell? ⟨r, 1, none⟩ = some (.bool bad)
  live : ∀ j, w.frozen? ⟨r, j, none⟩ = false
  wf : U8s rest
theorem u8_at {l : List Int} {k : Nat} (h : k < l.length) : (u8Cells l)[k]? = some (.int .u8 (l.getD k 0)) := by
  simp [u8Cells, List.getD, List.getElem?_eq_getElem h]
theorem u8_len (l : List Int) : (u8Cells l).length = l.length := by simp [u8Cells]
theorem Sl.u8_at {w : World} {A : Option Addr} {n c : Nat} {l : List Int} (h : Sl w (.slice A n c) n 1 (u8Cells l)) {k : Nat} (hk : k < n) : ∃ b off, A = some ⟨b, off, none⟩ ∧ w.cell? ⟨b, off + k, none⟩ = some (.int .u8 (l.getD k 0)) := by
  have hl := h.len
  rw [u8_len] at hl
  obtain ⟨b, off, e, hc⟩ := h.at_ (by omega)
  exact ⟨b, off, e, hc k _ (Go.Proofs.YtajcleobmgjhoaaGreatDoor.u8_at (by omega))⟩
theorem set_cell_other {w : World} {a p : Addr} {u v : Value} (hp : w.cell? p = some v) (ha : w.cell? a = some u) (hne : ∀ k x, v = .int k x → u ≠ .int k x) (h : ∃ k x, v = .int k x) (u' : Value) : (w.setCell a u').cell? p = some v := by
  refine (World.cell?_setCell_other _ _ _ _ ?_).trans hp
  intro e
  rw [e, hp] at ha
  obtain ⟨k, x, rfl⟩ := h
  exact hne k x rfl (Option.some.inj ha).symm
theorem Sl.set_u8 {w : World} {A : Option Addr} {n c : Nat} {l : List Int} (h : Sl w (.slice A n c) n 1 (u8Cells l)) {a : Addr} {u : Value} (ha : w.cell? a = some u) (hne : ∀ k x, u ≠ .int k x) (u' : Value) : Sl (w.setCell a u') (.slice A n c) n 1 (u8Cells l) := by
  obtain ⟨A1, c1, h1, h2, h3, h4, h5⟩ := h
  refine ⟨A1, c1, h1, h2, h3, h4, fun hn => ?_⟩
  obtain ⟨b, off, e, hc⟩ := h5 hn
  refine ⟨b, off, e, fun j v hj => ?_⟩
  have : ∃ k x, v = .int k x := by
    obtain ⟨x, _, rfl⟩ := List.mem_map.1 (List.mem_of_getElem? hj)
    exact ⟨_, _, rfl⟩
  exact set_cell_other (hc j v hj) ha (fun k x _ => hne k x) this u'
theorem Sl.drop_u8 {w : World} {b off n c s : Nat} {l : List Int} (h : Sl w (.slice (some ⟨b, off, none⟩) n c) n 1 (u8Cells l)) (hs : s ≤ n) : Sl w (.slice (some ⟨b, off + s, none⟩) (n - s) (c - s)) (n - s) 1 (u8Cells (l.drop s)) := by
  have hl := h.len
  rw [u8_len] at hl
  obtain ⟨A1, c1, h1, h2, h3, h4, h5⟩ := h
  injection h1 with h1 _ h1c
  subst h1 h1c
  refine ⟨_, _, rfl, by omega, by omega, by rw [u8_len, List.length_drop]; omega, fun hn => ⟨b, off + s, rfl, fun j v hj => ?_⟩⟩
  obtain ⟨b', off', e, hc⟩ := h5 (by omega)
  injection e with e
  injection e with e1 e2
  subst e1 e2
  have := hc (s + j) v (by
    unfold u8Cells at hj ⊢
    rw [List.map_drop, List.getElem?_drop] at hj
    exact hj)
  rwa [← Nat.add_assoc] at this
theorem Sl.take_u8 {w : World} {A : Option Addr} {n c s : Nat} {l : List Int} (h : Sl w (.slice A n c) n 1 (u8Cells l)) (hs : s ≤ n) : Sl w (.slice A s c) s 1 (u8Cells (l.take s)) := by
  have hl := h.len
  rw [u8_len] at hl
  obtain ⟨A1, c1, h1, h2, h3, h4, h5⟩ := h
  injection h1 with h1 _ h1c
  subst h1 h1c
  refine ⟨_, _, rfl, by omega, by omega, by rw [u8_len, List.length_take]; omega, fun hn => ?_⟩
  obtain ⟨b', off', e, hc⟩ := h5 (by omega)
  refine ⟨b', off', e, fun j v hj => hc j v ?_⟩
  unfold u8Cells at hj ⊢
  rw [List.map_take, List.getElem?_take] at hj
  split at hj
  · exact hj
  · cases hj
theorem numB_bound : ∀ (l : List Int), U8s l → 0 ≤ numB 0 l ∧ (l.length ≤ 4 → numB 0 l ≤ 4294967295) := by
  have key : ∀ (l : List Int) (z : Int), U8s l → 0 ≤ z → 0 ≤ numB z l ∧ numB z l + 1 ≤ (z + 1) * 256 ^ l.length := by
    intro l
    induction l with
    | nil => intro z _ hz; simp [numB]; omega
    | cons x r ih =>
      intro z h hz
      have hx := h x (by simp)
      have h2 := ih (z * 256 + x) (fun y hy => h y (by simp [hy])) (by omega)
      refine ⟨h2.1, ?_⟩
      have h3 : (z * 256 + x + 1) * 256 ^ r.length ≤ ((z + 1) * 256) * 256 ^ r.length := Int.mul_le_mul_of_nonneg_right (by omega) (Int.pow_nonneg (by omega))
      rw [List.length_cons, Int.pow_succ, Int.mul_comm (256 ^ r.length) 256, ← Int.mul_assoc]
      exact Int.le_trans h2.2 h3
  intro l h
  have h1 := key l 0 h (by omega)
  refine ⟨h1.1, fun h4 => ?_⟩
  have : (256 : Int) ^ l.length ≤ 256 ^ 4 := by
    rcases (show l.length = 0 ∨ l.length = 1 ∨ l.length = 2 ∨ l.length = 3 ∨ l.length = 4 by omega) with e | e | e | e | e <;> rw [e] <;> decide
  have h5 : (256 : Int) ^ 4 = 4294967296 := by decide
  have h6 := h1.2
  rw [Int.zero_add, Int.one_mul] at h6
  omega
/-- What 'number' leaves. -/
def NumP (lim r s : Nat) (rest : List Int) (bad : Bool) (w : World) (e : Ending) (w' : World) : Prop :=
  (∀ (B : Nat) (a : World), Below B a w → B ≤ r → Below B a w') ∧ w'.heap.size = w.heap.size ∧
  (∀ (base : Nat) (t : TypeId) (sz : Nat) (v : Value) (n : Nat) (xs : List Value), r < base → w.ownsRow base t sz v n xs → w'.ownsRow base t sz v n xs) ∧
  (((bad = true ∨ rest.length < s) ∧ e = .returned (.int .i64 0) ∧ Rd w' lim r rest true) ∨ (bad = false ∧ s ≤ rest.length ∧ e = .returned (.int .i64 (numB 0 (rest.take s))) ∧ Rd w' lim r (rest.drop s) false))
theorem Rd.setBad {w : World} {lim r : Nat} {rest : List Int} {bad : Bool} (h : Rd w lim r rest bad) (b : Bool) : Rd (w.setCell ⟨r, 1, none⟩ (.bool b)) lim r rest b := by
  obtain ⟨⟨A, n, c, h1, h2, h6⟩, h7, h3, h4, h5⟩ := h
  refine ⟨⟨A, n, c, ?_, h2.set_u8 h3 (by intro k x h; cases h) _, h6⟩, h7, World.cell?_setCell_same _ _ _ h3, fun j => ?_, h5⟩
  · exact (World.cell?_setCell_other _ _ _ _ (by intro e; injection e with _ e _; cases e)).trans h1
  · rw [World.frozen?_setCell]; exact h4 j
theorem frozen_same {w w' : World} {b : Nat} (h : w'.heap[b]? = w.heap[b]?) (j : Nat) : w'.frozen? ⟨b, j, none⟩ = w.frozen? ⟨b, j, none⟩ := by
  unfold World.frozen?
  simp only [h]
theorem Sl.lim {w w' : World} {A : Option Addr} {n c sz B : Nat} {xs : List Value} (h : Sl w (.slice A n c) n sz xs) (hb : Below B w w') (hA : 0 < n → ∀ b o, A = some ⟨b, o, none⟩ → b < B) : Sl w' (.slice A n c) n sz xs := by
  obtain ⟨A1, c1, h1, h2, h3, h4, h5⟩ := h
  injection h1 with e1 _ e2
  subst e1 e2
  refine ⟨_, _, rfl, h2, h3, h4, fun hn => ?_⟩
  obtain ⟨b, off, e, hc⟩ := h5 hn
  exact ⟨b, off, e, fun j v hj => (hb.cell (hA hn b off e)).trans (hc j v hj)⟩
theorem Rd.below {w w' : World} {lim r B : Nat} {rest : List Int} {bad : Bool} (h : Rd w lim r rest bad) (hb : Below B w w') (hB : lim ≤ B) : Rd w' lim r rest bad := by
  obtain ⟨⟨A, n, c, h1, h2, h6⟩, h7, h3, h4, h5⟩ := h
  refine ⟨⟨A, n, c, (hb.cell (show r < B by omega)).trans h1, h2.lim hb fun hn b o e => by have := h6 hn b o e; omega, h6⟩, h7, (hb.cell (show r < B by omega)).trans h3, fun j => ?_, h5⟩
  rw [frozen_same (hb.block r (by omega))]; exact h4 j
end Go.Proofs.YtajcleobmgjhoaaGreatDoor
