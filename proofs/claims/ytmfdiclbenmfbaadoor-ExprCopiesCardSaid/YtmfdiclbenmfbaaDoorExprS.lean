/- Trees in new memory. -/
import Derived.Test.YtmfdiclbenmfbaaDoorExprR
namespace Go.Proofs.YtmfdiclbenmfbaaDoor
open Go.RowKit
mutual
/-- A tree whose blocks are at B and above; its kids' numbers can be written. -/
def FrAt (B : Nat) (w : World) (A : Option Addr) (m c : Nat) : Tr → Prop
  | .mk k n kids => I64 k ∧ I64 n ∧ kids.length = m ∧ m ≤ c ∧ c ≤ 9223372036854775807 ∧ (m = 0 ∨ ∃ b off, A = some ⟨b, off, none⟩ ∧ B ≤ b ∧ KidsFr B w b off 0 kids)
def KidsFr (B : Nat) (w : World) (b off : Nat) : Nat → List Tr → Prop
  | _, [] => True
  | i, t :: r => (∃ A m c, w.cell? ⟨b, off + i * 3, none⟩ = some (.int .i64 t.kind) ∧ w.cell? ⟨b, off + i * 3 + 1, none⟩ = some (.int .i64 t.num) ∧ w.cell? ⟨b, off + i * 3 + 2, none⟩ = some (.slice A m c) ∧ w.frozen? ⟨b, off + i * 3 + 1, none⟩ = false ∧ FrAt B w A m c t) ∧ KidsFr B w b off (i + 1) r
end
structure KidFr (B : Nat) (w : World) (b o : Nat) (A : Option Addr) (m c : Nat) (t : Tr) : Prop where
  c0 : w.cell? ⟨b, o, none⟩ = some (.int .i64 t.kind)
  c1 : w.cell? ⟨b, o + 1, none⟩ = some (.int .i64 t.num)
  c2 : w.cell? ⟨b, o + 2, none⟩ = some (.slice A m c)
  fr : w.frozen? ⟨b, o + 1, none⟩ = false
  tr : FrAt B w A m c t
theorem KidsFr.get {B : Nat} {w : World} {b off : Nat} : ∀ {l : List Tr} {i j : Nat}, KidsFr B w b off i l → j < l.length → ∃ A m c, KidFr B w b (off + (i + j) * 3) A m c (l.getD j default)
  | [], i, j, _, hj => by simp at hj
  | t :: r, i, 0, h, _ => by
    rw [KidsFr] at h
    obtain ⟨⟨A, m, c, h0, h1, h2, h3, h4⟩, _⟩ := h
    exact ⟨A, m, c, h0, h1, h2, h3, h4⟩
  | t :: r, i, j + 1, h, hj => by
    rw [KidsFr] at h
    have := KidsFr.get h.2 (show j < r.length by simpa using hj)
    rw [show i + (j + 1) = i + 1 + j by omega]
    exact this
theorem KidsFr.mk_ {B : Nat} {w : World} {b off : Nat} : ∀ {l : List Tr} {i : Nat}, (∀ j, j < l.length → ∃ A m c, KidFr B w b (off + (i + j) * 3) A m c (l.getD j default)) → KidsFr B w b off i l
  | [], i, _ => by rw [KidsFr]; trivial
  | t :: r, i, h => by
    rw [KidsFr]
    obtain ⟨A, m, c, h0, h1, h2, h3, h4⟩ := h 0 (by simp)
    refine ⟨⟨A, m, c, h0, h1, h2, h3, h4⟩, KidsFr.mk_ fun j hj => ?_⟩
    have := h (j + 1) (by simpa using hj)
    rw [show i + (j + 1) = i + 1 + j by omega] at this
    exact this
theorem FrAt.len {B : Nat} {w : World} {A : Option Addr} {m c : Nat} {t : Tr} (h : FrAt B w A m c t) : t.kids.length = m ∧ m ≤ c ∧ c ≤ 9223372036854775807 := by
  obtain ⟨k, n, l⟩ := t
  rw [FrAt] at h
  exact ⟨h.2.2.1, h.2.2.2.1, h.2.2.2.2.1⟩
theorem FrAt.nums {B : Nat} {w : World} {A : Option Addr} {m c : Nat} {t : Tr} (h : FrAt B w A m c t) : I64 t.kind ∧ I64 t.num := by
  obtain ⟨k, n, l⟩ := t
  rw [FrAt] at h
  exact ⟨h.1, h.2.1⟩
theorem FrAt.kid {B : Nat} {w : World} {A : Option Addr} {m c : Nat} {t : Tr} (h : FrAt B w A m c t) {j : Nat} (hj : j < m) : ∃ b off, A = some ⟨b, off, none⟩ ∧ B ≤ b ∧ ∃ A' m' c', KidFr B w b (off + j * 3) A' m' c' (t.kids.getD j default) := by
  obtain ⟨k, n, l⟩ := t
  rw [FrAt] at h
  obtain ⟨_, _, hl, _, _, h | ⟨b, off, e, hB, hk⟩⟩ := h
  · omega
  · refine ⟨b, off, e, hB, ?_⟩
    have := hk.get (j := j) (by omega)
    rw [Nat.zero_add] at this
    exact this
theorem FrAt.mk_ {B : Nat} {w : World} {A : Option Addr} {m c : Nat} {t : Tr} (h1 : I64 t.kind) (h2 : I64 t.num) (hl : t.kids.length = m) (hc : m ≤ c) (hc9 : c ≤ 9223372036854775807) (h : m = 0 ∨ ∃ b off, A = some ⟨b, off, none⟩ ∧ B ≤ b ∧ ∀ j, j < m → ∃ A' m' c', KidFr B w b (off + j * 3) A' m' c' (t.kids.getD j default)) : FrAt B w A m c t := by
  obtain ⟨k, n, l⟩ := t
  rw [FrAt]
  refine ⟨h1, h2, hl, hc, hc9, ?_⟩
  rcases h with h | ⟨b, off, e, hB, h⟩
  · exact .inl h
  · refine .inr ⟨b, off, e, hB, KidsFr.mk_ fun j hj => ?_⟩
    rw [Nat.zero_add]
    exact h j (by have : l.length = m := hl; omega)
/-- From kid to kid. -/
theorem FrAt.mapped {B B' : Nat} {w w' : World} (hB : B' ≤ B) (hk : ∀ b o A m c t, B ≤ b → KidFr B w b o A m c t → w'.cell? ⟨b, o, none⟩ = w.cell? ⟨b, o, none⟩ ∧ w'.cell? ⟨b, o + 1, none⟩ = w.cell? ⟨b, o + 1, none⟩ ∧ w'.cell? ⟨b, o + 2, none⟩ = w.cell? ⟨b, o + 2, none⟩ ∧ w'.frozen? ⟨b, o + 1, none⟩ = w.frozen? ⟨b, o + 1, none⟩) : ∀ (N : Nat) (t : Tr), t.sz ≤ N → ∀ {A : Option Addr} {m c : Nat}, FrAt B w A m c t → FrAt B' w' A m c t
  | 0, t, hN, _, _, _, _ => by
    have := t.sz_pos
    omega
  | N + 1, t, hN, A, m, c, h => by
    obtain ⟨hl, hc, hc9⟩ := h.len
    obtain ⟨i1, i2⟩ := h.nums
    refine FrAt.mk_ i1 i2 hl hc hc9 ?_
    by_cases h0 : m = 0
    · exact .inl h0
    · obtain ⟨b, off, e, hb, _⟩ := h.kid (j := 0) (by omega)
      refine .inr ⟨b, off, e, by omega, fun j hj => ?_⟩
      obtain ⟨b', off', e', hb', A', m', c', hK⟩ := h.kid hj
      rw [e] at e'
      injection e' with e'
      injection e' with e1 e2
      subst e1; subst e2
      have hlt := Tr.kid_lt (t := t) (j := j) (by omega)
      obtain ⟨k0, k1, k2, k3⟩ := hk _ _ _ _ _ _ hb hK
      exact ⟨A', m', c', k0.trans hK.c0, k1.trans hK.c1, k2.trans hK.c2, k3.trans hK.fr, FrAt.mapped hB hk N _ (by omega) hK.tr⟩
/-- Blocks at B and above as before. -/
theorem FrAt.moved {B : Nat} {w w' : World} {A : Option Addr} {m c : Nat} {t : Tr} (h : FrAt B w A m c t) (hh : ∀ k, B ≤ k → k < w.heap.size → w'.heap[k]? = w.heap[k]?) : FrAt B w' A m c t := by
  refine FrAt.mapped (Nat.le_refl _) (fun b o A m c t hb hK => ?_) _ t (Nat.le_refl _) h
  have hlt := World.block_lt_of_cell? w _ hK.c0
  have e := hh b hb hlt
  refine ⟨?_, ?_, ?_, ?_⟩ <;> simp only [World.cell?, World.frozen?, e]
theorem FrAt.kept {B : Nat} {w w' : World} {A : Option Addr} {m c : Nat} {t : Tr} (h : FrAt B w A m c t) (hb : Below w.heap.size w w') : FrAt B w' A m c t := h.moved fun k _ hk => hb.block k hk
theorem FrAt.lower {B B' : Nat} {w : World} {A : Option Addr} {m c : Nat} {t : Tr} (h : FrAt B w A m c t) (hB : B' ≤ B) : FrAt B' w A m c t := FrAt.mapped hB (fun _ _ _ _ _ _ _ _ => ⟨rfl, rfl, rfl, rfl⟩) _ t (Nat.le_refl _) h
theorem FrAt.tr {B : Nat} {w : World} : ∀ (N : Nat) (t : Tr), t.sz ≤ N → ∀ {A : Option Addr} {m c : Nat}, FrAt B w A m c t → TrAt w A m c t
  | 0, t, hN, _, _, _, _ => by
    have := t.sz_pos
    omega
  | N + 1, t, hN, A, m, c, h => by
    obtain ⟨hl, hc, hc9⟩ := h.len
    obtain ⟨i1, i2⟩ := h.nums
    refine TrAt.mk_ i1 i2 hl hc hc9 ?_
    by_cases h0 : m = 0
    · exact .inl h0
    · obtain ⟨b, off, e, hb, _⟩ := h.kid (j := 0) (by omega)
      refine .inr ⟨b, off, e, fun j hj => ?_⟩
      obtain ⟨b', off', e', hb', A', m', c', hK⟩ := h.kid hj
      rw [e] at e'
      injection e' with e'
      injection e' with e1 e2
      subst e1; subst e2
      have hlt := Tr.kid_lt (t := t) (j := j) (by omega)
      exact ⟨A', m', c', hK.c0, hK.c1, hK.c2, FrAt.tr N _ (by omega) hK.tr⟩
theorem FrAt.to {B : Nat} {w : World} {A : Option Addr} {m c : Nat} {t : Tr} (h : FrAt B w A m c t) : TrAt w A m c t := FrAt.tr _ t (Nat.le_refl _) h
end Go.Proofs.YtmfdiclbenmfbaaDoor
