/- Markings: slices of bags, opened and read. -/
import Derived.Test.YtajcleobmgjhoaaGreatDoorBagK
namespace Go.Proofs.YtajcleobmgjhoaaGreatDoor
open _root_.Go.ChangeShapes _root_.Go.WideShapes _root_.Go.ChangeAt _root_.Go.RowKit _root_.Go.Deep
/-- A bag's slice and its rows. -/
structure Bg where
  A : Option Addr
  n : Nat
  c : Nat
  l : Row
abbrev Bg.val (b : Bg) : Value := .slice b.A b.n b.c
structure BgOk (w : World) (b : Bg) : Prop where
  sl : Sl w (.slice b.A b.n b.c) b.n 2 (pairCells b.l)
  wf : I64s b.l
/-- A marking in memory. -/
structure Mk (w : World) (A : Option Addr) (n c : Nat) (bs : List Bg) : Prop where
  sl : Sl w (.slice A n c) n 1 (bs.map Bg.val)
  bag : ∀ b ∈ bs, BgOk w b
theorem BgOk.below {w w' : World} {b : Bg} (h : BgOk w b) (hb : Below w.heap.size w w') : BgOk w' b := ⟨h.sl.below hb, h.wf⟩
theorem BgOk.len {w : World} {b : Bg} (h : BgOk w b) : b.l.length = b.n := by have := h.sl.len; rw [pairCells_len] at this; omega
theorem Mk.below {w w' : World} {A : Option Addr} {n c : Nat} {bs : List Bg} (h : Mk w A n c bs) (hb : Below w.heap.size w w') : Mk w' A n c bs :=
  ⟨h.sl.below hb, fun b hm => (h.bag b hm).below hb⟩
theorem Mk.len {w : World} {A : Option Addr} {n c : Nat} {bs : List Bg} (h : Mk w A n c bs) : bs.length = n := by
  have := h.sl.len; rw [List.length_map] at this; omega
/-- The k-th bag of a marking. -/
theorem Mk.at_ {w : World} {A : Option Addr} {n c : Nat} {bs : List Bg} (h : Mk w A n c bs) {k : Nat} (hk : k < n) :
    ∃ b off g, A = some ⟨b, off, none⟩ ∧ w.cell? ⟨b, off + k, none⟩ = some (.slice g.A g.n g.c) ∧ bs.drop k = g :: bs.drop (k + 1) ∧ g ∈ bs ∧ bs[k]? = some g ∧ bs.take (k + 1) = bs.take k ++ [g] := by
  have hl := h.len
  obtain ⟨b, off, e, hc⟩ := h.sl.at_ (by omega)
  have hkl : k < bs.length := by omega
  refine ⟨b, off, bs[k], e, hc k _ (by rw [List.getElem?_map, List.getElem?_eq_getElem hkl]; rfl), List.drop_eq_getElem_cons hkl, List.getElem_mem hkl, List.getElem?_eq_getElem hkl, ?_⟩
  rw [List.take_succ_eq_append_getElem hkl]
def rowsB (bs : List Bg) : List Row := bs.map Bg.l
theorem Mk.nil (w : World) : Mk w none 0 0 [] := ⟨Sl.none_ w 1, fun b h => by cases h⟩
section
variable {H : Type} {enc : TypeId × Value → H} {P : Program} {W : World} {base b0 : Nat} {spare : Nat → Bool} {held : Bool} {r : Reach}
/-- A slice of arrays of m ints, off its reading. -/
theorem rows_of_trod {t e ei : TypeId} {m fuel : Nat} {cs : List Value} {x : DataW H × List MemPlace} (ht : P.underlying t = some (.slice e)) (he : P.underlying e = some (.array m ei)) (hi : P.underlying ei = some (.int .i64)) (hce : P.cellsOf e = m) (hc : P.cellsOf ei = 1) (hm0 : 0 < m)
    (hf : DataW.trod enc P W base spare held fuel t cs = some x) :
    ∃ A n c l, cs = [.slice A n c] ∧ Sl W (.slice A n c) n m (rowCells l) ∧ l.length = n ∧ ∀ x ∈ l, x.length = m ∧ ∀ y ∈ x, -9223372036854775808 ≤ y ∧ y ≤ 9223372036854775807 := by
  rcases open_slice ht hf with ⟨hcs, _⟩ | ⟨a, n, c, k, fu, D, Pl, hcs, _, hl, hmx, hk, _, hx⟩
  · exact ⟨none, 0, 0, [], hcs, Sl.none_ W m, rfl, by simp⟩
  · have hlk : n ≤ k := by rw [hk]; split <;> omega
    have each : ∀ i, i < n → ∃ x : List Int, x.length = m ∧ (∀ y ∈ x, -9223372036854775808 ≤ y ∧ y ≤ 9223372036854775807) ∧ ∀ j, j < m → W.cell? ((a.add (i * m)).add j) = some (.int .i64 (x.getD j 0)) := by
      intro i hin
      obtain ⟨cs', h1, h2⟩ := hx i (by omega)
      rw [hce] at h1
      obtain ⟨_, hlen, hcell⟩ := World.cells?_some h1
      obtain ⟨xs, m', _, _, hl1, hl2, hel⟩ := DataW.trod_array he h2
      have each2 : ∀ j, j < m → ∃ y : Int, cs'[j]? = some (.int .i64 y) ∧ (Lit.int .i64 y).wf = true := by
        intro j hj
        have h3 := hel j hj
        rw [hc, Nat.mul_one, List.getElem?_eq_getElem (by omega)] at h3
        obtain ⟨y, hy, _, hw⟩ := DataW.trod_int hi h3
        have hj2 : j < cs'.length := by omega
        rw [List.drop_eq_getElem_cons hj2, List.take_succ_cons, List.take_zero] at hy
        injection hy with hy _
        exact ⟨y, by rw [List.getElem?_eq_getElem hj2, hy], hw⟩
      obtain ⟨F, hF⟩ := choose_lt (α := Int) (p := fun j y => cs'[j]? = some (.int .i64 y) ∧ (Lit.int .i64 y).wf = true) each2
      refine ⟨(List.range m).map F, by simp, fun y hy => ?_, fun j hj => ?_⟩
      · obtain ⟨j, hj, rfl⟩ := List.mem_map.1 hy
        exact wf_i64 (hF j (by simpa using hj)).2
      · rw [hcell j (by omega), (hF j hj).1]
        simp [List.getD, hj]
    obtain ⟨R, hR⟩ := choose_lt (α := List Int) (p := fun i x => x.length = m ∧ (∀ y ∈ x, -9223372036854775808 ≤ y ∧ y ≤ 9223372036854775807) ∧ ∀ j, j < m → W.cell? ((a.add (i * m)).add j) = some (.int .i64 (x.getD j 0))) each
    have hrl : ∀ x ∈ (List.range n).map R, (intCells x).length = m := by
      intro x hx
      obtain ⟨i, hi, rfl⟩ := List.mem_map.1 hx
      rw [intCells_len]; exact (hR i (by simpa using hi)).1
    refine ⟨_, _, _, (List.range n).map R, hcs, ⟨_, _, rfl, hl, by unfold maxLen at hmx; exact hmx, ?_, fun hn => ?_⟩, by simp, fun x hx => ?_⟩
    · unfold rowCells
      rw [flat_len intCells _ hrl]; simp
    · have hplain : a.spot = none := by
        have := (hR 0 hn).2.2 0 hm0
        rcases hs : a.spot with _ | s
        · rfl
        · simp [World.cell?, Addr.add, hs] at this
          split at this <;> simp_all
      obtain ⟨b, off, sp⟩ := a
      simp only at hplain
      subst hplain
      refine ⟨b, off, rfl, fun j u hu => ?_⟩
      unfold rowCells at hu
      rw [flat_get intCells hm0 _ hrl] at hu
      rcases hji : ((List.range n).map R)[j / m]? with _ | x
      · rw [hji] at hu; cases hu
      · rw [hji] at hu
        have hlt : j / m < n := by
          have := (List.getElem?_eq_some_iff.1 hji).1
          simpa using this
        have hxe : R (j / m) = x := by
          rw [List.getElem?_map, List.getElem?_range hlt] at hji
          simpa using hji
        have hjm : j % m < m := Nat.mod_lt _ hm0
        have hcell := (hR (j / m) hlt).2.2 (j % m) hjm
        rw [hxe] at hcell
        have hxl : x.length = m := hxe ▸ (hR (j / m) hlt).1
        have hu2 : (intCells x)[j % m]? = some u := hu
        rw [intCells_at (by omega)] at hu2
        rw [← hu2, ← hcell]
        rw [Go.WideShapes.add_plain, Go.WideShapes.add_plain]
        have h5 := Nat.div_add_mod j m
        rw [Nat.mul_comm] at h5
        rw [show off + j / m * m + j % m = off + j by omega]
    · obtain ⟨i, hi, rfl⟩ := List.mem_map.1 hx
      have := hR i (by simpa using hi)
      exact ⟨this.1, this.2.1⟩
/-- A slice of bags that came in. -/
theorem open_marking {t e ea ei : TypeId} {v : Value} {d : DataW H} {p : List MemPlace} (ht : P.underlying t = some (.slice e)) (he : P.underlying e = some (.slice ea)) (hea : P.underlying ea = some (.array 2 ei)) (hi : P.underlying ei = some (.int .i64)) (hce : P.cellsOf e = 1) (hcea : P.cellsOf ea = 2) (hc : P.cellsOf ei = 1)
    (h : DataW.Trod enc P W base spare held t v d p) (hv : Value.okWide P W r b0 t v) :
    ∃ A n c bs, v = .slice A n c ∧ Mk W A n c bs := by
  obtain ⟨A, n, c, rfl⟩ := okWide_slice ht hv
  obtain ⟨fuel, hf⟩ := h
  rcases open_slice ht hf with ⟨hcs, _⟩ | ⟨a, len, cap, k, fu, D, Pl, hcs, _, hl, hmx, hk, _, hx⟩
  · simp [Value.cells] at hcs
    obtain ⟨rfl, rfl, rfl⟩ := hcs
    exact ⟨none, 0, 0, [], rfl, Mk.nil W⟩
  · simp [Value.cells] at hcs
    obtain ⟨rfl, rfl, rfl⟩ := hcs
    have hlk : n ≤ k := by rw [hk]; split <;> omega
    have each : ∀ i, i < n → ∃ x : Bg, W.cell? (a.add i) = some x.val ∧ BgOk W x := by
      intro i hin
      obtain ⟨cs', h1, h2⟩ := hx i (by omega)
      rw [hce, Nat.mul_one] at h1
      obtain ⟨_, hlen, hcell⟩ := World.cells?_some h1
      obtain ⟨A', n', c', l, e1, s1, _, f1⟩ := rows_of_trod he hea hi hcea hc (by omega) h2
      obtain ⟨L, e2, _, i2⟩ := rows_pairs f1
      rw [e2] at s1
      refine ⟨⟨A', n', c', L⟩, ?_, s1, i2⟩
      have := hcell 0 (by omega)
      rw [e1] at this
      simpa [Addr.add] using this
    haveI : Inhabited Bg := ⟨⟨none, 0, 0, []⟩⟩
    obtain ⟨R, hR⟩ := choose_lt (α := Bg) (p := fun i x => W.cell? (a.add i) = some x.val ∧ BgOk W x) each
    refine ⟨_, _, _, (List.range n).map R, rfl, ⟨_, _, rfl, hl, by unfold maxLen at hmx; exact hmx, by simp, fun hn => ?_⟩, fun b hb => ?_⟩
    · have hplain : a.spot = none := by
        have := (hR 0 hn).1
        rcases hs : a.spot with _ | s
        · rfl
        · simp [World.cell?, Addr.add, hs] at this
          split at this <;> simp_all
      obtain ⟨b, off, sp⟩ := a
      simp only at hplain
      subst hplain
      refine ⟨b, off, rfl, fun j u hu => ?_⟩
      rw [List.map_map, List.getElem?_map] at hu
      rcases Nat.lt_or_ge j n with hj | hj
      · rw [List.getElem?_range hj] at hu
        simp only [Option.map_some, Option.some.injEq, Function.comp_apply] at hu
        have := (hR j hj).1
        rw [Go.WideShapes.add_plain] at this
        rw [this, ← hu]
      · rw [List.getElem?_eq_none (by simpa using hj)] at hu
        cases hu
    · obtain ⟨i, hi, rfl⟩ := List.mem_map.1 hb
      exact (hR i (by simpa using hi)).2
end
/-- Do all of two rows' parts agree? -/
def allF (f : Row → Row → Bool) : List Row → List Row → Bool
  | [], [] => true
  | a :: r, b :: s => f a b && allF f r s
  | _, _ => false
theorem allF_ne {f : Row → Row → Bool} : ∀ {a b : List Row}, a.length ≠ b.length → allF f a b = false
  | [], [], h => absurd rfl h
  | [], _ :: _, _ => rfl
  | _ :: _, [], _ => rfl
  | x :: a, y :: b, h => by
    unfold allF
    rw [allF_ne (by simpa using h), Bool.and_false]
/-- Which of two is more, by the first parts that are not alike. -/
def CmpL : List Row → List Row → Int → Prop
  | [], [], z => z = 0
  | a :: r, b :: s, z => ∃ y, CmpR a b y ∧ ((y ≠ 0 ∧ z = y) ∨ (y = 0 ∧ CmpL r s z))
  | _, _, _ => False
end Go.Proofs.YtajcleobmgjhoaaGreatDoor
