/- Law 04: spoil. -/
import Derived.Test.YtmfdiclbenmfbaaDoorExprSf
import Derived.Test.YtmfdiclbenmfbaaDoorExprSc
namespace Go.Proofs.YtmfdiclbenmfbaaDoor
open Go.RowKit
mutual
/-- A spoiled tree. -/
def spoilT : Tr → Tr
  | .mk k n l => .mk k n (spoilL l)
def spoilL : List Tr → List Tr
  | [] => []
  | t :: r => .mk t.kind (-77) (spoilT t).kids :: spoilL r
end
def spK (t : Tr) : Tr := .mk t.kind (-77) (spoilT t).kids
theorem spoilL_map : ∀ l : List Tr, spoilL l = l.map spK
  | [] => by rw [spoilL]; rfl
  | t :: r => by rw [spoilL, spoilL_map r]; rfl
theorem spoilT_eq (t : Tr) : spoilT t = .mk t.kind t.num (t.kids.map spK) := by
  obtain ⟨k, n, l⟩ := t
  rw [spoilT, spoilL_map]; rfl
/-- What spoil leaves: blocks from lo to hi may change. -/
structure Spl (lo hi : Nat) (w w' : World) : Prop where
  hb : Below lo w w'
  blk : ∀ k, hi ≤ k → k < w.heap.size → w'.heap[k]? = w.heap[k]?
  sz : w.heap.size ≤ w'.heap.size
theorem Spl.refl (lo hi : Nat) (w : World) (h : lo ≤ w.heap.size) : Spl lo hi w w := ⟨(Below.refl w.heap.size w).mono h, fun _ _ _ => rfl, Nat.le_refl _⟩
theorem Spl.trans {lo hi : Nat} {a b c : World} (h : Spl lo hi a b) (h2 : Spl lo hi b c) : Spl lo hi a c :=
  ⟨h.hb.trans h2.hb, fun k hk hs => (h2.blk k hk (Nat.lt_of_lt_of_le hs h.sz)).trans (h.blk k hk hs), Nat.le_trans h.sz h2.sz⟩
theorem Spl.cell {lo hi : Nat} {w w' : World} (h : Spl lo hi w w') {b o : Nat} {u : Value} (hc : w.cell? ⟨b, o, none⟩ = some u) (hh : b < lo ∨ hi ≤ b) : w'.cell? ⟨b, o, none⟩ = some u := by
  have hlt := World.block_lt_of_cell? w _ hc
  have e : w'.heap[b]? = w.heap[b]? := by
    rcases hh with hh | hh
    · exact h.hb.block b hh
    · exact h.blk b hh hlt
  rw [← hc]
  simp only [World.cell?, e]
theorem spoil_kid {w : World} {lo hi : Nat} {A : Option Addr} {m c : Nat} {kd nm : Int} {l r : List Tr} {u : Tr} (h : FrI w lo hi A m c (.mk kd nm (l ++ u :: r))) (hw : hi ≤ w.heap.size) :
    ∃ b lo' mid A' m' c', A = some ⟨b, 0, none⟩ ∧ lo ≤ lo' ∧ mid ≤ hi ∧ KidI w b (l.length * 3) lo' mid A' m' c' u ∧
      ∀ w5, FrI w5 lo' mid A' m' c' (spoilT u) → Spl lo' mid w w5 →
        w5.cell? ⟨b, l.length * 3 + 1, none⟩ = some (.int .i64 u.num) ∧ w5.frozen? ⟨b, l.length * 3 + 1, none⟩ = false ∧
        FrI (w5.setCell ⟨b, l.length * 3 + 1, none⟩ (.int .i64 (-77))) lo hi A m c (.mk kd nm (l ++ spK u :: r)) ∧
        Spl lo hi w (w5.setCell ⟨b, l.length * 3 + 1, none⟩ (.int .i64 (-77))) := by
  obtain ⟨i1, i2, hl, hmc, hc9, hle, h7⟩ := h.parts
  rcases h7 with h7 | ⟨b, rfl, hlb, ⟨cur, hcur⟩, hk⟩
  · exfalso
    have : (l ++ u :: r).length = m := hl
    simp at this
    omega
  have hk' : KidsI w b 0 (b + 1) hi (l ++ u :: r) := hk
  obtain ⟨lo', mid, A', m', c', h1, h2, hK, hput⟩ := KidsI.at_ l r hk'
  rw [Nat.zero_add] at hK hput
  have hlm := hK.tr.le
  refine ⟨b, lo', mid, A', m', c', rfl, by omega, h2, hK, fun w5 hF hS => ?_⟩
  have hblk : w5.heap[b]? = w.heap[b]? := hS.hb.block b (by omega)
  have hcur5 := hblk.trans hcur
  have hcell : ∀ o, w5.cell? ⟨b, o, none⟩ = w.cell? ⟨b, o, none⟩ := fun o => by simp only [World.cell?, hblk]
  have c1 : w5.cell? ⟨b, l.length * 3 + 1, none⟩ = some (.int .i64 u.num) := (hcell _).trans hK.c1
  have hoth : ∀ o, o ≠ l.length * 3 + 1 → (w5.setCell ⟨b, l.length * 3 + 1, none⟩ (.int .i64 (-77))).cell? ⟨b, o, none⟩ = w.cell? ⟨b, o, none⟩ := fun o ho => by
    rw [World.cell?_setCell_other _ _ _ _ (by first | (simp; omega) | (simp; done) | simpa using ho)]; exact hcell o
  have hss : (w5.setCell ⟨b, l.length * 3 + 1, none⟩ (.int .i64 (-77))).heap.size = w5.heap.size := by simp [World.setCell]
  have hF6 := FrI.moved (w' := w5.setCell ⟨b, l.length * 3 + 1, none⟩ (.int .i64 (-77))) (spoilT u) hF (fun k h1 h2 => set_other3 (by omega)) (Nat.le_refl _) (Nat.le_refl _)
  obtain ⟨j1, j2, jl, jmc, jc9, jle, j7⟩ := hF6.parts
  have hkd : (spoilT u).kind = u.kind := by rw [spoilT_eq]; rfl
  refine ⟨c1, by simp [World.frozen?, hcur5], FrI.mk_ ⟨i1, i2, ?_, hmc, hc9, hle, .inr ⟨b, rfl, hlb, ⟨_, set_same3 hcur5⟩, ?_⟩⟩, ⟨?_, ?_, ?_⟩⟩
  · have : (l ++ u :: r).length = m := hl
    show (l ++ spK u :: r).length = m
    simp at this ⊢
    omega
  · show KidsI _ b 0 (b + 1) hi (l ++ spK u :: r)
    refine hput _ (spK u) ⟨(hoth _ (by omega)).trans hK.c0, cell_set_self c1, (hoth _ (by omega)).trans hK.c2, FrI.mk_ ⟨hkd ▸ j1, by show I64 (-77); unfold I64; omega, jl, jmc, jc9, jle, j7⟩⟩ (fun k h1 h2 h3 => ?_) (fun o ho => hoth o (by omega))
    rw [set_other3 (by omega)]
    rcases h3 with h3 | h3
    · exact hS.hb.block k h3
    · exact hS.blk k h3 (by omega)
  · exact (hS.hb.mono (by omega)).setCell (p := ⟨b, l.length * 3 + 1, none⟩) hlb _
  · intro k h1 h2
    rw [set_other3 (by omega)]
    exact hS.blk k (by omega) h2
  · rw [hss]; exact hS.sz
/-- Halfway. -/
def spM (t : Tr) (k : Nat) : Tr := .mk t.kind t.num ((t.kids.take k).map spK ++ t.kids.drop k)
theorem spM_zero (t : Tr) : spM t 0 = t := by obtain ⟨k, n, l⟩ := t; simp [spM, Tr.kind, Tr.num, Tr.kids]
theorem spM_end (t : Tr) (k : Nat) (h : t.kids.length ≤ k) : spM t k = spoilT t := by
  rw [spoilT_eq, spM, List.take_of_length_le h, List.drop_of_length_le h, List.append_nil]
theorem spM_at (t : Tr) (k : Nat) (h : k < t.kids.length) : spM t k = .mk t.kind t.num ((t.kids.take k).map spK ++ t.kids.getD k default :: t.kids.drop (k + 1)) := by
  have e : t.kids.getD k default = t.kids[k] := by simp [List.getD, List.getElem?_eq_getElem h]
  rw [spM, List.drop_eq_getElem_cons h, e]
theorem spM_next (t : Tr) (k : Nat) (h : k < t.kids.length) : spM t (k + 1) = .mk t.kind t.num ((t.kids.take k).map spK ++ spK (t.kids.getD k default) :: t.kids.drop (k + 1)) := by
  rw [spM, take_snocT h]
  simp
def SpAt (N : Nat) : Prop := ∀ (t : Tr), t.sz ≤ N → ∀ (lo hi : Nat) (A : Option Addr) (m c : Nat) (w : World), Hid (FrI w lo hi A m c t) → hi ≤ w.heap.size → Calls Tryd.prog 29 #[t.val A m c] w (fun e w' => e = .returned (.tuple #[]) ∧ Hid (FrI w' lo hi A m c (spoilT t)) ∧ Hid (Spl lo hi w w'))
set_option maxRecDepth 100000 in
set_option maxHeartbeats 4000000 in
theorem law_spoil_step (N : Nat) (IH : Hid (SpAt N)) : SpAt (N + 1) := by
  intro t hN lo hi A m c w h hw
  have hle := h.out.le
  obtain ⟨_, _, hl, hc, hc9, _, _⟩ := h.out.parts
  have hz : (w.alloc (.cells #[.int .i64 t.kind, .int .i64 t.num, .slice A m c] 24)).heap.size = w.heap.size + 1 := World.size_alloc _ _
  have hal := (Below.refl w.heap.size w).alloc (Nat.le_refl _) (.cells #[.int .i64 t.kind, .int .i64 t.num, .slice A m c] 24)
  have x2 := cell_new w #[.int .i64 t.kind, .int .i64 t.num, .slice A m c] 24 2 _ rfl
  have hF1 := h.out.kept hal hw
  have hS1 : Spl lo hi w (w.alloc (.cells #[.int .i64 t.kind, .int .i64 t.num, .slice A m c] 24)) := ⟨hal.mono (by omega), fun k _ h2 => hal.block k h2, by omega⟩
  obtain ⟨w1, hw1⟩ : ∃ w1, w1 = w.alloc (.cells #[.int .i64 t.kind, .int .i64 t.num, .slice A m c] 24) := ⟨_, rfl⟩
  obtain ⟨g, hg⟩ : ∃ g, g = w.heap.size := ⟨_, rfl⟩
  have HW1 := Lib.hid hw1
  have HG := Lib.hid hg
  rw [← hw1] at hz hF1 hS1 x2
  rw [← hg] at x2
  have HF1 := Lib.hid hF1
  have HS1 := Lib.hid hS1
  have HZ := Lib.hid hz
  have HX := Lib.hid (show ∀ W, Spl lo hi w1 W → W.cell? ⟨g, 2, none⟩ = some (.slice A m c) from fun W hW => hW.cell x2 (.inr (by omega)))
  clear hal hF1 hS1 hw1 hg hz
  go_enter Tryd.func29, Tryd.ntmps29
  go_upto_region 1 with fail
  rw [← HG.out, ← HW1.out]
  go_wp2_with fail
  go_loopw [2] (fun v2 wr => ∃ (k : Nat), k ≤ m ∧ v2 = .int .i64 (k : Int) ∧ Hid (FrI wr lo hi A m c (spM t k)) ∧ Hid (Spl lo hi w1 wr)) (fun v2 _ => m - (RowKit.intOf v2).toNat)
  case atStart => exact ⟨0, by omega, rfl, Lib.hid (by rw [spM_zero]; exact HF1.out), Lib.hid (Spl.refl _ _ _ (by have := HZ.out; omega))⟩
  case round =>
    obtain ⟨k, hk, rfl, hF, hS⟩ := hrel
    have x2' := HX.out _ hS.out
    clear x2
    by_cases hlt : k < m
    · have hsw := hS.out.sz
      rw [spM_at t k (by omega)] at hF
      obtain ⟨b, lo', mid, A', m', c', rfl, h1, h2, hK, hput⟩ := spoil_kid hF.out (by have := HZ.out; omega)
      have hlen : ((t.kids.take k).map spK).length = k := by simp; omega
      rw [hlen] at hK hput
      have hkd := Tr.kid_lt (t := t) (j := k) (by omega)
      have hnx := spM_next t k (by omega)
      obtain ⟨u, hu⟩ : ∃ u, u = t.kids.getD k default := ⟨_, rfl⟩
      rw [← hu] at hK hput hkd hnx
      have HNX := Lib.hid hnx
      have HPUT := Lib.hid hput
      have c0 := hK.c0
      have c1 := hK.c1
      have c2 := hK.c2
      have hmw : mid ≤ wr.heap.size := by have := HZ.out; omega
      have CQ := Lib.hid (IH.out u (by omega) lo' mid A' m' c' wr (Lib.hid hK.tr) hmw)
      have hlt2 : (k : Int) < (m : Int) := by omega
      have hk0 : (0 : Int) ≤ (k : Int) := by omega
      clear hK hput hu hnx hkd hlen hF hsw
      go_wp2_with fail
      refine CQ.out.mono ?_
      rintro e w5 ⟨rfl, hF5, hS5⟩
      obtain ⟨y1, yf, hF6, hS6⟩ := HPUT.out w5 hF5.out hS5.out
      have hF7 := Lib.hid (show FrI _ lo hi _ m c (spM t (k + 1)) from HNX.out ▸ hF6)
      have hS7 := Lib.hid (hS.out.trans hS6)
      have x2'' := HX.out _ (hS.out.trans (show Spl lo hi wr w5 from ⟨hS5.out.hb.mono h1, fun i i1 i2 => hS5.out.blk i (by omega) i2, hS5.out.sz⟩))
      clear hF6 hS6 c0 c1 c2 x2'
      go_wp2_with fail
      go_roundw
      case rel => exact ⟨k + 1, by omega, by go_num, hF7, hS7⟩
      case measure => simp [RowKit.intOf]; omega
    · go_wp2_with fail
      go_end0
      refine ⟨rfl, Lib.hid ?_, Lib.hid (HS1.out.trans hS.out)⟩
      rw [← spM_end t k (by omega)]
      exact hF.out
theorem law_spoil : ∀ N, SpAt N
  | 0 => fun t hN _ _ _ _ _ _ _ _ => by have := t.sz_pos; omega
  | N + 1 => law_spoil_step N (Lib.hid (law_spoil N))
end Go.Proofs.YtmfdiclbenmfbaaDoor
