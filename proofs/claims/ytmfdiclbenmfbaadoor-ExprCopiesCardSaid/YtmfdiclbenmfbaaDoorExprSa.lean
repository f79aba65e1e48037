/- Trees in new memory, each kid's blocks apart from the others'. -/
import Derived.Test.YtmfdiclbenmfbaaDoorExprR
namespace Go.Proofs.YtmfdiclbenmfbaaDoor
open Go.RowKit
mutual
/-- A tree whose blocks are from lo to hi (hi left out), each once. -/
def FrI (w : World) (lo hi : Nat) (A : Option Addr) (m c : Nat) : Tr → Prop
  | .mk k n kids => I64 k ∧ I64 n ∧ kids.length = m ∧ m ≤ c ∧ c ≤ 9223372036854775807 ∧ lo ≤ hi ∧ (m = 0 ∨ ∃ b, A = some ⟨b, 0, none⟩ ∧ lo ≤ b ∧ (∃ cur, w.heap[b]? = some (.cells cur 24 (0, 0))) ∧ KidsI w b 0 (b + 1) hi kids)
def KidsI (w : World) (b : Nat) : Nat → Nat → Nat → List Tr → Prop
  | _, lo, hi, [] => lo ≤ hi
  | i, lo, hi, t :: r => ∃ mid A m c, w.cell? ⟨b, i * 3, none⟩ = some (.int .i64 t.kind) ∧ w.cell? ⟨b, i * 3 + 1, none⟩ = some (.int .i64 t.num) ∧ w.cell? ⟨b, i * 3 + 2, none⟩ = some (.slice A m c) ∧ FrI w lo mid A m c t ∧ KidsI w b (i + 1) mid hi r
end
/-- A kid's cells, its tree's blocks from lo to hi. -/
structure KidI (w : World) (b o lo hi : Nat) (A : Option Addr) (m c : Nat) (t : Tr) : Prop where
  c0 : w.cell? ⟨b, o, none⟩ = some (.int .i64 t.kind)
  c1 : w.cell? ⟨b, o + 1, none⟩ = some (.int .i64 t.num)
  c2 : w.cell? ⟨b, o + 2, none⟩ = some (.slice A m c)
  tr : FrI w lo hi A m c t
theorem FrI.parts {w : World} {lo hi : Nat} {A : Option Addr} {m c : Nat} {t : Tr} (h : FrI w lo hi A m c t) : I64 t.kind ∧ I64 t.num ∧ t.kids.length = m ∧ m ≤ c ∧ c ≤ 9223372036854775807 ∧ lo ≤ hi ∧ (m = 0 ∨ ∃ b, A = some ⟨b, 0, none⟩ ∧ lo ≤ b ∧ (∃ cur, w.heap[b]? = some (.cells cur 24 (0, 0))) ∧ KidsI w b 0 (b + 1) hi t.kids) := by
  obtain ⟨k, n, l⟩ := t
  rw [FrI] at h
  exact h
theorem FrI.mk_ {w : World} {lo hi : Nat} {A : Option Addr} {m c : Nat} {t : Tr} (h : I64 t.kind ∧ I64 t.num ∧ t.kids.length = m ∧ m ≤ c ∧ c ≤ 9223372036854775807 ∧ lo ≤ hi ∧ (m = 0 ∨ ∃ b, A = some ⟨b, 0, none⟩ ∧ lo ≤ b ∧ (∃ cur, w.heap[b]? = some (.cells cur 24 (0, 0))) ∧ KidsI w b 0 (b + 1) hi t.kids)) : FrI w lo hi A m c t := by
  obtain ⟨k, n, l⟩ := t
  rw [FrI]
  exact h
theorem FrI.le {w : World} {lo hi : Nat} {A : Option Addr} {m c : Nat} {t : Tr} (h : FrI w lo hi A m c t) : lo ≤ hi := h.parts.2.2.2.2.2.1
theorem KidsI.le {w : World} {b : Nat} : ∀ {l : List Tr} {i lo hi : Nat}, KidsI w b i lo hi l → lo ≤ hi
  | [], _, _, _, h => by rw [KidsI] at h; exact h
  | t :: r, i, lo, hi, h => by
    rw [KidsI] at h
    obtain ⟨mid, A, m, c, _, _, _, h4, h5⟩ := h
    have := h4.le
    have := KidsI.le h5
    omega
mutual
theorem FrI.moved {w w' : World} : ∀ (t : Tr) {lo hi lo' hi' : Nat} {A : Option Addr} {m c : Nat}, FrI w lo hi A m c t → (∀ k, lo ≤ k → k < hi → w'.heap[k]? = w.heap[k]?) → lo' ≤ lo → hi ≤ hi' → FrI w' lo' hi' A m c t
  | .mk k n l, lo, hi, lo', hi', A, m, c, h, hh, h1, h2 => by
    have hle := h.le
    rw [FrI] at h ⊢
    obtain ⟨a1, a2, a3, a4, a5, a6, a7⟩ := h
    refine ⟨a1, a2, a3, a4, a5, by omega, ?_⟩
    rcases a7 with a7 | ⟨b, e, hb, ⟨cur, hc⟩, hk⟩
    · exact .inl a7
    · have hkl := hk.le
      have hbb := hh b hb (by omega)
      exact .inr ⟨b, e, by omega, ⟨cur, hbb.trans hc⟩, KidsI.moved l hk (fun k h1 h2 => hh k (by omega) h2) (fun o => by simp only [World.cell?, hbb]) h2⟩
theorem KidsI.moved {w w' : World} : ∀ (l : List Tr) {b i lo hi hi' : Nat}, KidsI w b i lo hi l → (∀ k, lo ≤ k → k < hi → w'.heap[k]? = w.heap[k]?) → (∀ o, w'.cell? ⟨b, o, none⟩ = w.cell? ⟨b, o, none⟩) → hi ≤ hi' → KidsI w' b i lo hi' l
  | [], b, i, lo, hi, hi', h, _, _, h2 => by rw [KidsI] at h ⊢; omega
  | t :: r, b, i, lo, hi, hi', h, hh, hb, h2 => by
    rw [KidsI] at h ⊢
    obtain ⟨mid, A, m, c, c0, c1, c2, h4, h5⟩ := h
    have l1 := h4.le
    have l2 := h5.le
    exact ⟨mid, A, m, c, (hb _).trans c0, (hb _).trans c1, (hb _).trans c2, FrI.moved t h4 (fun k x y => hh k x (by omega)) (Nat.le_refl _) (Nat.le_refl _), KidsI.moved r h5 (fun k x y => hh k (by omega) y) hb h2⟩
end
theorem FrI.kept {w w' : World} {lo hi : Nat} {A : Option Addr} {m c : Nat} {t : Tr} (h : FrI w lo hi A m c t) (hb : Below w.heap.size w w') (hs : hi ≤ w.heap.size) : FrI w' lo hi A m c t := FrI.moved t h (fun k _ h2 => hb.block k (by omega)) (Nat.le_refl _) (Nat.le_refl _)
theorem FrI.wide {w : World} {lo hi lo' hi' : Nat} {A : Option Addr} {m c : Nat} {t : Tr} (h : FrI w lo hi A m c t) (h1 : lo' ≤ lo) (h2 : hi ≤ hi') : FrI w lo' hi' A m c t := FrI.moved t h (fun _ _ _ => rfl) h1 h2
mutual
theorem FrI.to {w : World} : ∀ (t : Tr) {lo hi : Nat} {A : Option Addr} {m c : Nat}, FrI w lo hi A m c t → TrAt w A m c t
  | .mk k n l, lo, hi, A, m, c, h => by
    rw [FrI] at h
    rw [TrAt]
    obtain ⟨a1, a2, a3, a4, a5, a6, a7⟩ := h
    refine ⟨a1, a2, a3, a4, a5, ?_⟩
    rcases a7 with a7 | ⟨b, e, hb, _, hk⟩
    · exact .inl a7
    · exact .inr ⟨b, 0, e, KidsI.to l hk⟩
theorem KidsI.to {w : World} : ∀ (l : List Tr) {b i lo hi : Nat}, KidsI w b i lo hi l → KidsAt w b 0 i l
  | [], b, i, lo, hi, _ => by rw [KidsAt]; trivial
  | t :: r, b, i, lo, hi, h => by
    rw [KidsI] at h
    rw [KidsAt]
    obtain ⟨mid, A, m, c, c0, c1, c2, h4, h5⟩ := h
    rw [Nat.zero_add]
    exact ⟨⟨A, m, c, c0, c1, c2, FrI.to t h4⟩, KidsI.to r h5⟩
end
/-- One kid more, behind the others. -/
theorem KidsI.snoc {w : World} {b : Nat} {u : Tr} {A : Option Addr} {m c : Nat} : ∀ (l : List Tr) {i lo mid hi : Nat}, KidsI w b i lo mid l → KidI w b ((i + l.length) * 3) mid hi A m c u → KidsI w b i lo hi (l ++ [u])
  | [], i, lo, mid, hi, h, hK => by
    rw [KidsI] at h
    rw [List.nil_append, KidsI]
    have e : (i + [].length (α := Tr)) = i := by simp
    rw [e] at hK
    refine ⟨hi, A, m, c, hK.c0, hK.c1, hK.c2, hK.tr.wide h (Nat.le_refl _), ?_⟩
    rw [KidsI]
    exact Nat.le_refl _
  | t :: r, i, lo, mid, hi, h, hK => by
    rw [KidsI] at h
    rw [List.cons_append, KidsI]
    obtain ⟨mid', A', m', c', c0, c1, c2, h4, h5⟩ := h
    have e : i + (t :: r).length = i + 1 + r.length := by simp; omega
    rw [e] at hK
    exact ⟨mid', A', m', c', c0, c1, c2, h4, KidsI.snoc r h5 hK⟩
theorem KidsI.movedB {w w' : World} : ∀ (l : List Tr) {b i lo hi hi' : Nat}, KidsI w b i lo hi l → (∀ k, lo ≤ k → k < hi → w'.heap[k]? = w.heap[k]?) → (∀ o, i * 3 ≤ o → w'.cell? ⟨b, o, none⟩ = w.cell? ⟨b, o, none⟩) → hi ≤ hi' → KidsI w' b i lo hi' l
  | [], b, i, lo, hi, hi', h, _, _, h2 => by rw [KidsI] at h ⊢; omega
  | t :: r, b, i, lo, hi, hi', h, hh, hb, h2 => by
    rw [KidsI] at h ⊢
    obtain ⟨mid, A, m, c, c0, c1, c2, h4, h5⟩ := h
    have l1 := h4.le
    have l2 := h5.le
    exact ⟨mid, A, m, c, (hb _ (by omega)).trans c0, (hb _ (by omega)).trans c1, (hb _ (by omega)).trans c2, FrI.moved t h4 (fun k x y => hh k x (by omega)) (Nat.le_refl _) (Nat.le_refl _), KidsI.movedB r h5 (fun k x y => hh k (by omega) y) (fun o ho => hb o (by omega)) h2⟩
theorem KidsI.movedA {w w' : World} : ∀ (l : List Tr) {b i lo hi hi' : Nat}, KidsI w b i lo hi l → (∀ k, lo ≤ k → k < hi → w'.heap[k]? = w.heap[k]?) → (∀ o, o < (i + l.length) * 3 → w'.cell? ⟨b, o, none⟩ = w.cell? ⟨b, o, none⟩) → hi ≤ hi' → KidsI w' b i lo hi' l
  | [], b, i, lo, hi, hi', h, _, _, h2 => by rw [KidsI] at h ⊢; omega
  | t :: r, b, i, lo, hi, hi', h, hh, hb, h2 => by
    rw [KidsI] at h ⊢
    obtain ⟨mid, A, m, c, c0, c1, c2, h4, h5⟩ := h
    have l1 := h4.le
    have l2 := h5.le
    have e : i + (t :: r).length = i + 1 + r.length := by simp; omega
    rw [e] at hb
    exact ⟨mid, A, m, c, (hb _ (by omega)).trans c0, (hb _ (by omega)).trans c1, (hb _ (by omega)).trans c2, FrI.moved t h4 (fun k x y => hh k x (by omega)) (Nat.le_refl _) (Nat.le_refl _), KidsI.movedA r h5 (fun k x y => hh k (by omega) y) hb h2⟩
/-- A kid in the middle: its cells and blocks; and another one put there. -/
theorem KidsI.at_ {w : World} {b : Nat} {t : Tr} : ∀ (l r : List Tr) {i lo hi : Nat}, KidsI w b i lo hi (l ++ t :: r) →
    ∃ lo' mid A m c, lo ≤ lo' ∧ mid ≤ hi ∧ KidI w b ((i + l.length) * 3) lo' mid A m c t ∧
      ∀ (w' : World) (t' : Tr), KidI w' b ((i + l.length) * 3) lo' mid A m c t' → (∀ k, lo ≤ k → k < hi → (k < lo' ∨ mid ≤ k) → w'.heap[k]? = w.heap[k]?) → (∀ o, (o < (i + l.length) * 3 ∨ (i + l.length) * 3 + 3 ≤ o) → w'.cell? ⟨b, o, none⟩ = w.cell? ⟨b, o, none⟩) → KidsI w' b i lo hi (l ++ t' :: r)
  | [], r, i, lo, hi, h => by
    rw [List.nil_append, KidsI] at h
    obtain ⟨mid, A, m, c, c0, c1, c2, h4, h5⟩ := h
    have e : (i + [].length (α := Tr)) = i := by simp
    refine ⟨lo, mid, A, m, c, Nat.le_refl _, h5.le, by rw [e]; exact ⟨c0, c1, c2, h4⟩, fun w' t' hK hh hc => ?_⟩
    rw [e] at hK hc
    rw [List.nil_append, KidsI]
    refine ⟨mid, A, m, c, hK.c0, hK.c1, hK.c2, hK.tr, ?_⟩
    have l1 := h4.le
    exact KidsI.movedB r h5 (fun k h1 h2 => hh k (by omega) h2 (.inr h1)) (fun o ho => hc o (by omega)) (Nat.le_refl _)
  | u :: l, r, i, lo, hi, h => by
    rw [List.cons_append, KidsI] at h
    obtain ⟨mid, A, m, c, c0, c1, c2, h4, h5⟩ := h
    obtain ⟨lo', mid', A', m', c', g1, g2, g3, g4⟩ := KidsI.at_ l r h5
    have l1 := h4.le
    have l3 := g3.tr.le
    have e : i + (u :: l).length = i + 1 + l.length := by simp; omega
    rw [e]
    refine ⟨lo', mid', A', m', c', by omega, g2, g3, fun w' t' hK hh hc => ?_⟩
    rw [List.cons_append, KidsI]
    refine ⟨mid, A, m, c, (hc _ (by omega)).trans c0, (hc _ (by omega)).trans c1, (hc _ (by omega)).trans c2, FrI.moved u h4 (fun k h1 h2 => hh k h1 (by omega) (.inl (by omega))) (Nat.le_refl _) (Nat.le_refl _), ?_⟩
    exact g4 w' t' hK (fun k h1 h2 h3 => hh k (by omega) h2 h3) hc
end Go.Proofs.YtmfdiclbenmfbaaDoor
