/- Package expr: trees in memory. -/
import Derived.Test.YtaeeblceedklnaaGreatDoorCalcC
import Derived.Test.YtaeeblceedklnaaGreatDoorSl
import Derived.WalkLawsBesides
import Derived.Deep.QuietTactic
import Derived.BigQuiet
import Derived.Handy
namespace Go.Proofs.YtaeeblceedklnaaGreatDoor
open Go.RowKit
inductive Tr where
  | mk (kind num : Int) (kids : List Tr)
instance : Inhabited Tr := ⟨.mk 0 0 []⟩
def Tr.kind : Tr → Int | .mk k _ _ => k
def Tr.num : Tr → Int | .mk _ n _ => n
def Tr.kids : Tr → List Tr | .mk _ _ l => l
noncomputable def Tr.sz (t : Tr) : Nat := SizeOf.sizeOf t
theorem Tr.sz_pos (t : Tr) : 0 < t.sz := by
  obtain ⟨k, n, l⟩ := t
  unfold Tr.sz
  simp only [Tr.mk.sizeOf_spec]
  omega
theorem Tr.kid_lt {t : Tr} {j : Nat} (h : j < t.kids.length) : (t.kids.getD j default).sz < t.sz := by
  obtain ⟨k, n, l⟩ := t
  have h' : j < l.length := h
  have e : (Tr.mk k n l).kids.getD j default = l[j] := by
    show l.getD j default = _
    rw [List.getD, List.getElem?_eq_getElem h']; rfl
  rw [e]
  have := List.sizeOf_lt_of_mem (List.getElem_mem h')
  unfold Tr.sz
  simp only [Tr.mk.sizeOf_spec]
  omega
/-- An expression's value. -/
abbrev Tr.val (t : Tr) (A : Option Addr) (m c : Nat) : Value := .agg #[.int .i64 t.kind, .int .i64 t.num, .slice A m c]
mutual
/-- The slice of a tree's kids. -/
def TrAt (w : World) (A : Option Addr) (m c : Nat) : Tr → Prop
  | .mk k n kids => I64 k ∧ I64 n ∧ kids.length = m ∧ m ≤ c ∧ c ≤ 9223372036854775807 ∧ (m = 0 ∨ ∃ b off, A = some ⟨b, off, none⟩ ∧ KidsAt w b off 0 kids)
def KidsAt (w : World) (b off : Nat) : Nat → List Tr → Prop
  | _, [] => True
  | i, t :: r => (∃ A m c, w.cell? ⟨b, off + i * 3, none⟩ = some (.int .i64 t.kind) ∧ w.cell? ⟨b, off + i * 3 + 1, none⟩ = some (.int .i64 t.num) ∧ w.cell? ⟨b, off + i * 3 + 2, none⟩ = some (.slice A m c) ∧ TrAt w A m c t) ∧ KidsAt w b off (i + 1) r
end
/-- A kid's cells. -/
structure KidAt (w : World) (b o : Nat) (A : Option Addr) (m c : Nat) (t : Tr) : Prop where
  c0 : w.cell? ⟨b, o, none⟩ = some (.int .i64 t.kind)
  c1 : w.cell? ⟨b, o + 1, none⟩ = some (.int .i64 t.num)
  c2 : w.cell? ⟨b, o + 2, none⟩ = some (.slice A m c)
  tr : TrAt w A m c t
theorem KidsAt.get {w : World} {b off : Nat} : ∀ {l : List Tr} {i j : Nat}, KidsAt w b off i l → j < l.length → ∃ A m c, KidAt w b (off + (i + j) * 3) A m c (l.getD j default)
  | [], i, j, _, hj => by simp at hj
  | t :: r, i, 0, h, _ => by
    rw [KidsAt] at h
    obtain ⟨⟨A, m, c, h0, h1, h2, h3⟩, _⟩ := h
    exact ⟨A, m, c, h0, h1, h2, h3⟩
  | t :: r, i, j + 1, h, hj => by
    rw [KidsAt] at h
    have := KidsAt.get h.2 (show j < r.length by simpa using hj)
    rw [show i + (j + 1) = i + 1 + j by omega]
    exact this
theorem KidsAt.mk_ {w : World} {b off : Nat} : ∀ {l : List Tr} {i : Nat}, (∀ j, j < l.length → ∃ A m c, KidAt w b (off + (i + j) * 3) A m c (l.getD j default)) → KidsAt w b off i l
  | [], i, _ => by rw [KidsAt]; trivial
  | t :: r, i, h => by
    rw [KidsAt]
    obtain ⟨A, m, c, h0, h1, h2, h3⟩ := h 0 (by simp)
    refine ⟨⟨A, m, c, h0, h1, h2, h3⟩, KidsAt.mk_ fun j hj => ?_⟩
    have := h (j + 1) (by simpa using hj)
    rw [show i + (j + 1) = i + 1 + j by omega] at this
    exact this
theorem TrAt.len {w : World} {A : Option Addr} {m c : Nat} {t : Tr} (h : TrAt w A m c t) : t.kids.length = m ∧ m ≤ c ∧ c ≤ 9223372036854775807 := by
  obtain ⟨k, n, l⟩ := t
  rw [TrAt] at h
  exact ⟨h.2.2.1, h.2.2.2.1, h.2.2.2.2.1⟩
theorem TrAt.nums {w : World} {A : Option Addr} {m c : Nat} {t : Tr} (h : TrAt w A m c t) : I64 t.kind ∧ I64 t.num := by
  obtain ⟨k, n, l⟩ := t
  rw [TrAt] at h
  exact ⟨h.1, h.2.1⟩
theorem TrAt.kid {w : World} {A : Option Addr} {m c : Nat} {t : Tr} (h : TrAt w A m c t) {j : Nat} (hj : j < m) : ∃ b off, A = some ⟨b, off, none⟩ ∧ ∃ A' m' c', KidAt w b (off + j * 3) A' m' c' (t.kids.getD j default) := by
  obtain ⟨k, n, l⟩ := t
  rw [TrAt] at h
  obtain ⟨_, _, hl, _, _, h | ⟨b, off, e, hk⟩⟩ := h
  · omega
  · refine ⟨b, off, e, ?_⟩
    have := hk.get (j := j) (by omega)
    rw [Nat.zero_add] at this
    exact this
theorem TrAt.mk_ {w : World} {A : Option Addr} {m c : Nat} {t : Tr} (h1 : I64 t.kind) (h2 : I64 t.num) (hl : t.kids.length = m) (hc : m ≤ c) (hc9 : c ≤ 9223372036854775807) (h : m = 0 ∨ ∃ b off, A = some ⟨b, off, none⟩ ∧ ∀ j, j < m → ∃ A' m' c', KidAt w b (off + j * 3) A' m' c' (t.kids.getD j default)) : TrAt w A m c t := by
  obtain ⟨k, n, l⟩ := t
  rw [TrAt]
  refine ⟨h1, h2, hl, hc, hc9, ?_⟩
  rcases h with h | ⟨b, off, e, h⟩
  · exact .inl h
  · refine .inr ⟨b, off, e, KidsAt.mk_ fun j hj => ?_⟩
    rw [Nat.zero_add]
    exact h j (by have : l.length = m := hl; omega)
theorem TrAt.below {w w' : World} (hb : Below w.heap.size w w') : ∀ (N : Nat) (t : Tr), t.sz ≤ N → ∀ {A : Option Addr} {m c : Nat}, TrAt w A m c t → TrAt w' A m c t
  | 0, t, hN, _, _, _, _ => by
    have := t.sz_pos
    omega
  | N + 1, t, hN, A, m, c, h => by
    obtain ⟨hl, hc, hc9⟩ := h.len
    obtain ⟨i1, i2⟩ := h.nums
    refine TrAt.mk_ i1 i2 hl hc hc9 ?_
    by_cases h0 : m = 0
    · exact .inl h0
    · obtain ⟨b, off, e, _⟩ := h.kid (j := 0) (by omega)
      refine .inr ⟨b, off, e, fun j hj => ?_⟩
      obtain ⟨b', off', e', A', m', c', hk⟩ := h.kid hj
      rw [e] at e'
      injection e' with e'
      injection e' with e1 e2
      subst e1; subst e2
      have hlt := Tr.kid_lt (t := t) (j := j) (by omega)
      exact ⟨A', m', c', cell_kept hb hk.c0, cell_kept hb hk.c1, cell_kept hb hk.c2, TrAt.below hb N _ (by omega) hk.tr⟩
theorem TrAt.kept {w w' : World} {A : Option Addr} {m c : Nat} {t : Tr} (h : TrAt w A m c t) (hb : Below w.heap.size w w') : TrAt w' A m c t := TrAt.below hb _ t (Nat.le_refl _) h
end Go.Proofs.YtaeeblceedklnaaGreatDoor
