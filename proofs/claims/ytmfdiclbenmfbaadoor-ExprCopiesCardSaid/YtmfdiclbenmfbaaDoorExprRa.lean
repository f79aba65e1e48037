/- The document's Put: plain words on trees that may share memory. -/
import Derived.Test.YtmfdiclbenmfbaaDoorExprSf
import Derived.Test.YtmfdiclbenmfbaaDoorExprSc
namespace Go.Proofs.YtmfdiclbenmfbaaDoor
open Go.RowKit
/-- Two worlds agree where P holds. -/
def Agree (P : Nat → Prop) (w W : World) : Prop := ∀ k, P k → k < w.heap.size → W.heap[k]? = w.heap[k]?
/-- A tree that lies in the blocks of P. -/
def TrOut (P : Nat → Prop) (w : World) (A : Option Addr) (m c : Nat) (t : Tr) : Prop := ∀ W, Agree P w W → TrAt W A m c t
theorem TrAt.same {w w' : World} (hb : ∀ k, k < w.heap.size → w'.heap[k]? = w.heap[k]?) : ∀ (N : Nat) (t : Tr), t.sz ≤ N → ∀ {A : Option Addr} {m c : Nat}, TrAt w A m c t → TrAt w' A m c t
  | 0, t, hN, _, _, _, _ => by
    have := t.sz_pos
    omega
  | N + 1, t, hN, A, m, c, h => by
    obtain ⟨hl, hc, hc9⟩ := h.len
    obtain ⟨i1, i2⟩ := h.nums
    have hk' : ∀ {b o : Nat} {u : Value}, w.cell? ⟨b, o, none⟩ = some u → w'.cell? ⟨b, o, none⟩ = some u := fun {b o u} h => by
      have := hb b (World.block_lt_of_cell? w _ h)
      rw [← h]
      simp only [World.cell?, this]
    refine TrAt.mk_ i1 i2 hl hc hc9 ?_
    by_cases h0 : m = 0
    · exact .inl h0
    · obtain ⟨b, off, e, _⟩ := h.kid (j := 0) (by omega)
      refine .inr ⟨b, off, e, fun j hj => ?_⟩
      obtain ⟨b', off', e', A', m', c', hk⟩ := h.kid hj
      rw [e] at e'
      injection e' with e'
      injection e' with e1 e2
      subst e1; subst e2
      have hlt := Tr.kid_lt (t := t) (j := j) (by omega)
      exact ⟨A', m', c', hk' hk.c0, hk' hk.c1, hk' hk.c2, TrAt.same hb N _ (by omega) hk.tr⟩
theorem TrOut.of {w : World} {A : Option Addr} {m c : Nat} {t : Tr} (h : TrAt w A m c t) : TrOut (fun k => k < w.heap.size) w A m c t := fun _ hW => TrAt.same (fun k hk => hW k hk hk) _ t (Nat.le_refl _) h
theorem TrOut.at_ {P : Nat → Prop} {w : World} {A : Option Addr} {m c : Nat} {t : Tr} (h : TrOut P w A m c t) : TrAt w A m c t := h w fun _ _ _ => rfl
theorem TrOut.to {P P2 : Nat → Prop} {w w2 : World} {A : Option Addr} {m c : Nat} {t : Tr} (h : TrOut P w A m c t) (ha : Agree P w w2) (hs : w.heap.size ≤ w2.heap.size) (hp : ∀ k, k < w.heap.size → P k → P2 k) : TrOut P2 w2 A m c t :=
  fun W hW => h W fun k hk hlt => (hW k (hp k hlt hk) (Nat.lt_of_lt_of_le hlt hs)).trans (ha k hk hlt)
/-- A tree and its slice. -/
structure TQ where
  t : Tr
  A : Option Addr
  m : Nat
  c : Nat
def TQ.cells (q : TQ) : List Value := [.int .i64 q.t.kind, .int .i64 q.t.num, .slice q.A q.m q.c]
def tqCells (l : List TQ) : List Value := l.flatMap TQ.cells
theorem tq_app (l : List TQ) (q : TQ) : tqCells (l ++ [q]) = tqCells l ++ q.cells := by simp [tqCells]
theorem tq_len : ∀ l : List TQ, (tqCells l).length = l.length * 3
  | [] => rfl
  | q :: r => by
    have := tq_len r
    unfold tqCells at this ⊢
    rw [List.flatMap_cons, List.length_append, this, List.length_cons]
    simp [TQ.cells]; omega
theorem tq_at : ∀ (l : List TQ) (j i : Nat), i < 3 → (h : j < l.length) → (tqCells l)[j * 3 + i]? = (l[j]).cells[i]?
  | [], j, i, _, h => by simp at h
  | q :: r, 0, i, hi, _ => by
    unfold tqCells
    rw [List.flatMap_cons, List.getElem?_append_left (by simp [TQ.cells]; omega)]
    simp
  | q :: r, j + 1, i, hi, h => by
    have := tq_at r j i hi (by simpa using h)
    unfold tqCells at this ⊢
    rw [List.flatMap_cons, List.getElem?_append_right (by simp [TQ.cells]; omega)]
    have e : (j + 1) * 3 + i - q.cells.length = j * 3 + i := by simp [TQ.cells]; omega
    rw [e, this]
    simp
theorem tq_one (q : TQ) : ∀ u ∈ q.cells, u.oneCell' = true := by
  intro u hu
  simp only [TQ.cells, List.mem_cons, List.not_mem_nil, or_false] at hu
  rcases hu with rfl | rfl | rfl <;> rfl
theorem put_tree {w : World} {base n : Nat} {v : Value} {l : List TQ} {kd nm : Int} {P : Nat → Prop} (hO : w.ownsRow base 24 3 v n (tqCells l)) (hn : l.length = n) (hq : ∀ q ∈ l, TrOut P w q.A q.m q.c q.t) (hP : ∀ g, v.ownBlock = some g → P g) (i1 : I64 kd) (i2 : I64 nm) :
    ∃ A c, v = .slice A n c ∧ TrOut P w A n c (.mk kd nm (l.map (·.t))) := by
  have hc := fun g (hg : v.ownBlock = some g) => hO.cells (g := g) hg
  have hlt := fun g (hg : v.ownBlock = some g) => (hO.lt g hg).2
  obtain ⟨_, ⟨rfl, rfl⟩ | ⟨g, cap, cur, rfl, hb, hg, hnc, hm, _, _⟩⟩ := hO
  · exact ⟨none, 0, rfl, fun W _ => TrAt.mk_ i1 i2 (by simpa [Tr.kids] using hn) (Nat.le_refl _) (by omega) (.inl rfl)⟩
  · refine ⟨_, cap, rfl, fun W hW => TrAt.mk_ i1 i2 (by simpa [Tr.kids] using hn) hnc (by unfold maxLen at hm; exact hm) (.inr ⟨g, 0, rfl, fun j hj => ?_⟩)⟩
    have e : W.heap[g]? = w.heap[g]? := hW g (hP g rfl) (hlt g rfl)
    have hcell : ∀ i u, i < 3 → (l[j]'(by omega)).cells[i]? = some u → W.cell? ⟨g, 0 + j * 3 + i, none⟩ = some u := fun i u hi hu => by
      have h1 := hc g rfl (j * 3 + i) u ((tq_at l j i hi (by omega)).trans hu)
      rw [Go.WideShapes.add_plain] at h1
      rw [Nat.zero_add]
      rw [Nat.zero_add] at h1
      rw [← h1]
      simp only [World.cell?, e]
    have ek : (Tr.mk kd nm (l.map (·.t))).kids.getD j default = (l[j]'(by omega)).t := by
      show (l.map (·.t)).getD j default = _
      simp [List.getD, List.getElem?_eq_getElem (show j < l.length by omega)]
    rw [ek]
    exact ⟨_, _, _, hcell 0 _ (by omega) rfl, hcell 1 _ (by omega) rfl, hcell 2 _ (by omega) rfl, hq _ (List.getElem_mem _) W hW⟩
end Go.Proofs.YtmfdiclbenmfbaaDoor
