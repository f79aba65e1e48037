/- Joined: Package print: Copy of the law's small net. Printed by gen_prM.py. -/
import Derived.Test.YtkpjhjoopdbkaaaGreatDoorG50
import Derived.Deep.RegionLaw
import Derived.Deep.RegionWith
namespace Go.Proofs.YtkpjhjoopdbkaaaGreatDoor
open Go.RowKit
/-- A row elsewhere than at some blocks. -/
structure ApR (w : World) (Q : List Nat) (A : Option Addr) (n c size : Nat) (xs : List Value) : Prop where
  sl : Sl w (.slice A n c) n size xs
  ap : ∃ q o, A = some ⟨q, o, none⟩ ∧ q ∉ Q
theorem ApR.below {w w' : World} {Q : List Nat} {A : Option Addr} {n c size : Nat} {xs : List Value} (h : ApR w Q A n c size xs) (hb : Below w.heap.size w w') : ApR w' Q A n c size xs := ⟨h.sl.below hb, h.ap⟩
theorem ApR.other {w : World} {Q : List Nat} {A : Option Addr} {n c size g j : Nat} {u : Value} {xs : List Value} (h : ApR w Q A n c size xs) (hg : g ∈ Q) : ApR (w.setCell ⟨g, j, none⟩ u) Q A n c size xs := by
  obtain ⟨q, o, rfl, hq⟩ := h.ap
  refine ⟨?_, q, o, rfl, hq⟩
  obtain ⟨A', c', e, h1, h2, h3, h4⟩ := h.sl
  injection e with e1 e2 e3
  subst e1; subst e3
  refine ⟨_, _, rfl, h1, h2, h3, fun hn => ?_⟩
  obtain ⟨b, off, e, hc⟩ := h4 hn
  refine ⟨b, off, e, fun i v hv => ?_⟩
  injection e with e
  injection e with eb eo
  have hne : b ≠ g := fun h => hq (by rw [eb, h]; exact hg)
  rw [World.cell?_setCell_other _ _ _ _ (by intro e2; have := congrArg Addr.block e2; simp only at this; omega)]
  exact hc i v hv
theorem ApR.new {w : World} {Q : List Nat} {p n c size : Nat} {T : TypeId} {xs : List Value} (h : RowX w p T xs) (h1 : n ≤ c) (h2 : c ≤ 9223372036854775807) (h3 : xs.length = n * size) (hq : p ∉ Q) : ApR w Q (some ⟨p, 0, none⟩) n c size xs := ⟨h.sl h1 h2 h3, p, 0, rfl, hq⟩
/-- The small net's copy, on the way. -/
structure CpS (w : World) (g p1 p2 p3 k1 k2 k3 : Nat) (A2 : Option Addr) (c2 : Nat) (Av : Option Addr) (cv : Nat) (Ai : Option Addr) (ci : Nat) (Ao : Option Addr) (co : Nat) (Ac : Option Addr) (cc : Nat) : Prop where
  box : w.heap[g]? = some (.cells #[.slice (some ⟨p1, 0, none⟩) 1 k1, .slice (some ⟨p2, 0, none⟩) 2 k2, .slice (some ⟨p3, 0, none⟩) 1 k3, .int .i64 0, .int .i64 1] 39 (0, 0))
  out : w.heap[g + 1]? = some (.cells #[.slice none 0 0, .slice none 0 0, .slice none 0 0, .int .i64 0, .int .i64 0] 39 (0, 0))
  r1 : RowX w p1 82 [.string ⟨#[110]⟩, .int .i64 1, .int .i64 0, .int .i64 3, .slice none 0 0, .int .i64 0, .int .i64 0]
  r2 : RowX w p2 66 [.string ⟨#[97]⟩, .int .i64 0, .slice A2 1 c2, .string ⟨#[98]⟩, .int .i64 0, .slice none 0 0]
  r3 : RowX w p3 59 [.string ⟨#[116]⟩, .slice Av 1 cv, .int .i64 1, .int .i64 1, .slice none 0 0, .int .i64 1, .int .i64 3, .slice Ai 1 ci, .slice Ao 1 co, .slice Ac 1 cc, .int .i64 0, .int .i64 0, .int .i64 0, .int .i64 0]
  first : ApR w [g, g + 1, p1, p2, p3] A2 1 c2 2 [.int .i64 0, .int .i64 2]
  vars : ApR w [g, g + 1, p1, p2, p3] Av 1 cv 2 [.string ⟨#[120]⟩, .int .i64 0]
  ins : ApR w [g, g + 1, p1, p2, p3] Ai 1 ci 4 [.int .i64 0, .int .i64 2, .int .i64 0, .slice none 0 0]
  outs : ApR w [g, g + 1, p1, p2, p3] Ao 1 co 4 [.int .i64 1, .int .i64 2, .int .i64 0, .slice none 0 0]
  cancel : ApR w [g, g + 1, p1, p2, p3] Ac 1 cc 1 [.int .i64 1]
/-- What does not turn on the way. -/
structure CpK (g p1 p2 p3 k1 k2 k3 : Nat) : Prop where
  n1 : g + 1 < p1
  n2 : p1 < p2
  n3 : p2 < p3
  k1 : 1 ≤ k1 ∧ k1 ≤ 9223372036854775807
  k2 : 2 ≤ k2 ∧ k2 ≤ 9223372036854775807
  k3 : 1 ≤ k3 ∧ k3 ≤ 9223372036854775807
section
variable {w w' : World} {g p1 p2 p3 k1 k2 k3 : Nat} {A2 Av Ai Ao Ac : Option Addr} {c2 cv ci co cc : Nat}
theorem CpS.below (h : CpS w g p1 p2 p3 k1 k2 k3 A2 c2 Av cv Ai ci Ao co Ac cc) (hb : Below w.heap.size w w') : CpS w' g p1 p2 p3 k1 k2 k3 A2 c2 Av cv Ai ci Ao co Ac cc :=
  ⟨row_below h.box hb, row_below h.out hb, h.r1.below hb, h.r2.below hb, h.r3.below hb, h.first.below hb, h.vars.below hb, h.ins.below hb, h.outs.below hb, h.cancel.below hb⟩
theorem CpS.set1 (K : CpK g p1 p2 p3 k1 k2 k3) (h : CpS w g p1 p2 p3 k1 k2 k3 A2 c2 Av cv Ai ci Ao co Ac cc) : CpS (w.setCell ⟨p1, 4, none⟩ (.slice none 0 0)) g p1 p2 p3 k1 k2 k3 A2 c2 Av cv Ai ci Ao co Ac cc := by
  have n1 := K.n1
  have n2 := K.n2
  have n3 := K.n3
  exact ⟨(set_other3 (by omega)).trans h.box, (set_other3 (by omega)).trans h.out, h.r1.set 4 _ (by simp), h.r2.other (by omega), h.r3.other (by omega), h.first.other (by simp), h.vars.other (by simp), h.ins.other (by simp), h.outs.other (by simp), h.cancel.other (by simp)⟩
theorem CpS.set2a {B : Option Addr} {d : Nat} (K : CpK g p1 p2 p3 k1 k2 k3) (h : CpS w g p1 p2 p3 k1 k2 k3 A2 c2 Av cv Ai ci Ao co Ac cc) (hq : ApR w [g, g + 1, p1, p2, p3] B 1 d 2 [.int .i64 0, .int .i64 2]) : CpS (w.setCell ⟨p2, 2, none⟩ (.slice B 1 d)) g p1 p2 p3 k1 k2 k3 B d Av cv Ai ci Ao co Ac cc := by
  have n1 := K.n1
  have n2 := K.n2
  have n3 := K.n3
  exact ⟨(set_other3 (by omega)).trans h.box, (set_other3 (by omega)).trans h.out, h.r1.other (by omega), h.r2.set 2 _ (by simp), h.r3.other (by omega), hq.other (by simp), h.vars.other (by simp), h.ins.other (by simp), h.outs.other (by simp), h.cancel.other (by simp)⟩
theorem CpS.set2b (K : CpK g p1 p2 p3 k1 k2 k3) (h : CpS w g p1 p2 p3 k1 k2 k3 A2 c2 Av cv Ai ci Ao co Ac cc) : CpS (w.setCell ⟨p2, 5, none⟩ (.slice none 0 0)) g p1 p2 p3 k1 k2 k3 A2 c2 Av cv Ai ci Ao co Ac cc := by
  have n1 := K.n1
  have n2 := K.n2
  have n3 := K.n3
  exact ⟨(set_other3 (by omega)).trans h.box, (set_other3 (by omega)).trans h.out, h.r1.other (by omega), h.r2.set 5 _ (by simp), h.r3.other (by omega), h.first.other (by simp), h.vars.other (by simp), h.ins.other (by simp), h.outs.other (by simp), h.cancel.other (by simp)⟩
theorem CpS.set3 {rv ri ro rc kv ki ko kc : Nat} (K : CpK g p1 p2 p3 k1 k2 k3) (h : CpS w g p1 p2 p3 k1 k2 k3 A2 c2 Av cv Ai ci Ao co Ac cc) (a : ApR w [g, g + 1, p1, p2, p3] (some ⟨rv, 0, none⟩) 1 kv 2 [.string ⟨#[120]⟩, .int .i64 0]) (b : ApR w [g, g + 1, p1, p2, p3] (some ⟨ri, 0, none⟩) 1 ki 4 [.int .i64 0, .int .i64 2, .int .i64 0, .slice none 0 0]) (c : ApR w [g, g + 1, p1, p2, p3] (some ⟨ro, 0, none⟩) 1 ko 4 [.int .i64 1, .int .i64 2, .int .i64 0, .slice none 0 0]) (d : ApR w [g, g + 1, p1, p2, p3] (some ⟨rc, 0, none⟩) 1 kc 1 [.int .i64 1]) :
    CpS ((((((((((((((w.setCell ⟨p3, 0, none⟩ (.string ⟨#[116]⟩)).setCell ⟨p3, 1, none⟩ (.slice (some ⟨rv, 0, none⟩) 1 kv)).setCell ⟨p3, 2, none⟩ (.int .i64 1)).setCell ⟨p3, 3, none⟩ (.int .i64 1)).setCell ⟨p3, 4, none⟩ (.slice none 0 0)).setCell ⟨p3, 5, none⟩ (.int .i64 1)).setCell ⟨p3, 6, none⟩ (.int .i64 3)).setCell ⟨p3, 7, none⟩ (.slice (some ⟨ri, 0, none⟩) 1 ki)).setCell ⟨p3, 8, none⟩ (.slice (some ⟨ro, 0, none⟩) 1 ko)).setCell ⟨p3, 9, none⟩ (.slice (some ⟨rc, 0, none⟩) 1 kc)).setCell ⟨p3, 10, none⟩ (.int .i64 0)).setCell ⟨p3, 11, none⟩ (.int .i64 0)).setCell ⟨p3, 12, none⟩ (.int .i64 0)).setCell ⟨p3, 13, none⟩ (.int .i64 0)) g p1 p2 p3 k1 k2 k3 A2 c2 (some ⟨rv, 0, none⟩) kv (some ⟨ri, 0, none⟩) ki (some ⟨ro, 0, none⟩) ko (some ⟨rc, 0, none⟩) kc := by
  have n1 := K.n1
  have n2 := K.n2
  have n3 := K.n3
  have oth : ∀ b : Nat, b ≠ p3 → (((((((((((((((w.setCell ⟨p3, 0, none⟩ (.string ⟨#[116]⟩)).setCell ⟨p3, 1, none⟩ (.slice (some ⟨rv, 0, none⟩) 1 kv)).setCell ⟨p3, 2, none⟩ (.int .i64 1)).setCell ⟨p3, 3, none⟩ (.int .i64 1)).setCell ⟨p3, 4, none⟩ (.slice none 0 0)).setCell ⟨p3, 5, none⟩ (.int .i64 1)).setCell ⟨p3, 6, none⟩ (.int .i64 3)).setCell ⟨p3, 7, none⟩ (.slice (some ⟨ri, 0, none⟩) 1 ki)).setCell ⟨p3, 8, none⟩ (.slice (some ⟨ro, 0, none⟩) 1 ko)).setCell ⟨p3, 9, none⟩ (.slice (some ⟨rc, 0, none⟩) 1 kc)).setCell ⟨p3, 10, none⟩ (.int .i64 0)).setCell ⟨p3, 11, none⟩ (.int .i64 0)).setCell ⟨p3, 12, none⟩ (.int .i64 0)).setCell ⟨p3, 13, none⟩ (.int .i64 0))).heap[b]? = w.heap[b]? := fun b hb => by
    rw [set_other3 hb, set_other3 hb, set_other3 hb, set_other3 hb, set_other3 hb, set_other3 hb, set_other3 hb, set_other3 hb, set_other3 hb, set_other3 hb, set_other3 hb, set_other3 hb, set_other3 hb, set_other3 hb]
  refine ⟨(oth _ (by omega)).trans h.box, (oth _ (by omega)).trans h.out, ((((((((((((((h.r1.other (by omega)).other (by omega)).other (by omega)).other (by omega)).other (by omega)).other (by omega)).other (by omega)).other (by omega)).other (by omega)).other (by omega)).other (by omega)).other (by omega)).other (by omega)).other (by omega)), ((((((((((((((h.r2.other (by omega)).other (by omega)).other (by omega)).other (by omega)).other (by omega)).other (by omega)).other (by omega)).other (by omega)).other (by omega)).other (by omega)).other (by omega)).other (by omega)).other (by omega)).other (by omega)), ?_, ((((((((((((((h.first.other (by simp)).other (by simp)).other (by simp)).other (by simp)).other (by simp)).other (by simp)).other (by simp)).other (by simp)).other (by simp)).other (by simp)).other (by simp)).other (by simp)).other (by simp)).other (by simp)), ((((((((((((((a.other (by simp)).other (by simp)).other (by simp)).other (by simp)).other (by simp)).other (by simp)).other (by simp)).other (by simp)).other (by simp)).other (by simp)).other (by simp)).other (by simp)).other (by simp)).other (by simp)), ((((((((((((((b.other (by simp)).other (by simp)).other (by simp)).other (by simp)).other (by simp)).other (by simp)).other (by simp)).other (by simp)).other (by simp)).other (by simp)).other (by simp)).other (by simp)).other (by simp)).other (by simp)), ((((((((((((((c.other (by simp)).other (by simp)).other (by simp)).other (by simp)).other (by simp)).other (by simp)).other (by simp)).other (by simp)).other (by simp)).other (by simp)).other (by simp)).other (by simp)).other (by simp)).other (by simp)), ((((((((((((((d.other (by simp)).other (by simp)).other (by simp)).other (by simp)).other (by simp)).other (by simp)).other (by simp)).other (by simp)).other (by simp)).other (by simp)).other (by simp)).other (by simp)).other (by simp)).other (by simp))⟩
  exact ((((((((((((((h.r3.set 0 _ (by simp)).set 1 _ (by simp)).set 2 _ (by simp)).set 3 _ (by simp)).set 4 _ (by simp)).set 5 _ (by simp)).set 6 _ (by simp)).set 7 _ (by simp)).set 8 _ (by simp)).set 9 _ (by simp)).set 10 _ (by simp)).set 11 _ (by simp)).set 12 _ (by simp)).set 13 _ (by simp))
end
/-- The small net in memory. -/
structure SmA (w : World) (b1 b2 b3 d1 d2 d3 : Nat) (A2 : Option Addr) (c2 : Nat) (Av : Option Addr) (cv : Nat) (Ai : Option Addr) (ci : Nat) (Ao : Option Addr) (co : Nat) (Ac : Option Addr) (cc : Nat) : Prop where
  r1 : RowX w b1 82 [.string ⟨#[110]⟩, .int .i64 1, .int .i64 0, .int .i64 3, .slice none 0 0, .int .i64 0, .int .i64 0]
  r2 : RowX w b2 66 [.string ⟨#[97]⟩, .int .i64 0, .slice A2 1 c2, .string ⟨#[98]⟩, .int .i64 0, .slice none 0 0]
  r3 : RowX w b3 59 [.string ⟨#[116]⟩, .slice Av 1 cv, .int .i64 1, .int .i64 1, .slice none 0 0, .int .i64 1, .int .i64 3, .slice Ai 1 ci, .slice Ao 1 co, .slice Ac 1 cc, .int .i64 0, .int .i64 0, .int .i64 0, .int .i64 0]
  first : ∃ q, A2 = some ⟨q, 0, none⟩ ∧ RowX w q 67 [.int .i64 0, .int .i64 2]
  vars : ∃ q, Av = some ⟨q, 0, none⟩ ∧ RowX w q 132 [.string ⟨#[120]⟩, .int .i64 0]
  ins : ∃ q, Ai = some ⟨q, 0, none⟩ ∧ RowX w q 61 [.int .i64 0, .int .i64 2, .int .i64 0, .slice none 0 0]
  outs : ∃ q, Ao = some ⟨q, 0, none⟩ ∧ RowX w q 61 [.int .i64 1, .int .i64 2, .int .i64 0, .slice none 0 0]
  cancel : ∃ q, Ac = some ⟨q, 0, none⟩ ∧ RowX w q 3 [.int .i64 1]
  k1 : 1 ≤ d1 ∧ d1 ≤ 9223372036854775807
  k2 : 2 ≤ d2 ∧ d2 ≤ 9223372036854775807
  k3 : 1 ≤ d3 ∧ d3 ≤ 9223372036854775807
  e2 : 1 ≤ c2 ∧ c2 ≤ 9223372036854775807
  ev : 1 ≤ cv ∧ cv ≤ 9223372036854775807
  ei : 1 ≤ ci ∧ ci ≤ 9223372036854775807
  eo : 1 ≤ co ∧ co ≤ 9223372036854775807
  ec : 1 ≤ cc ∧ cc ≤ 9223372036854775807
/-- What Copy tells of the small net. -/
def CpEnd (w : World) (e : Ending) (w' : World) : Prop := ∃ p1 p2 p3 k1 k2 k3 A2 c2 Av cv Ai ci Ao co Ac cc, e = .returned (netV (some ⟨p1, 0, none⟩) 1 k1 (some ⟨p2, 0, none⟩) 2 k2 (some ⟨p3, 0, none⟩) 1 k3 0 1) ∧ (∃ g, CpK g p1 p2 p3 k1 k2 k3) ∧ RowX w' p1 82 [.string ⟨#[110]⟩, .int .i64 1, .int .i64 0, .int .i64 3, .slice none 0 0, .int .i64 0, .int .i64 0] ∧ RowX w' p2 66 [.string ⟨#[97]⟩, .int .i64 0, .slice A2 1 c2, .string ⟨#[98]⟩, .int .i64 0, .slice none 0 0] ∧ RowX w' p3 59 [.string ⟨#[116]⟩, .slice Av 1 cv, .int .i64 1, .int .i64 1, .slice none 0 0, .int .i64 1, .int .i64 3, .slice Ai 1 ci, .slice Ao 1 co, .slice Ac 1 cc, .int .i64 0, .int .i64 0, .int .i64 0, .int .i64 0] ∧ Sl w' (.slice A2 1 c2) 1 2 [.int .i64 0, .int .i64 2] ∧ Sl w' (.slice Av 1 cv) 1 2 [.string ⟨#[120]⟩, .int .i64 0] ∧ Sl w' (.slice Ai 1 ci) 1 4 [.int .i64 0, .int .i64 2, .int .i64 0, .slice none 0 0] ∧ Sl w' (.slice Ao 1 co) 1 4 [.int .i64 1, .int .i64 2, .int .i64 0, .slice none 0 0] ∧ Sl w' (.slice Ac 1 cc) 1 1 [.int .i64 1] ∧ Below w.heap.size w w'
theorem set5_steps {w : World} {g : Nat} {v0 v1 v2 v3 v4 : Value} (h0 : w.cell? ⟨g, 0, none⟩ = some v0) (h1 : w.cell? ⟨g, 1, none⟩ = some v1) (h2 : w.cell? ⟨g, 2, none⟩ = some v2) (h3 : w.cell? ⟨g, 3, none⟩ = some v3) (h4 : w.cell? ⟨g, 4, none⟩ = some v4) (u0 u1 u2 u3 u4 : Value) :
    (w.setCell ⟨g, 0, none⟩ u0).cell? ⟨g, 0, none⟩ = some u0 ∧ ((w.setCell ⟨g, 0, none⟩ u0).setCell ⟨g, 1, none⟩ u1).cell? ⟨g, 1, none⟩ = some u1 ∧ (((w.setCell ⟨g, 0, none⟩ u0).setCell ⟨g, 1, none⟩ u1).setCell ⟨g, 2, none⟩ u2).cell? ⟨g, 2, none⟩ = some u2 ∧ ((((w.setCell ⟨g, 0, none⟩ u0).setCell ⟨g, 1, none⟩ u1).setCell ⟨g, 2, none⟩ u2).setCell ⟨g, 3, none⟩ u3).cell? ⟨g, 3, none⟩ = some u3 ∧ (((((w.setCell ⟨g, 0, none⟩ u0).setCell ⟨g, 1, none⟩ u1).setCell ⟨g, 2, none⟩ u2).setCell ⟨g, 3, none⟩ u3).setCell ⟨g, 4, none⟩ u4).cell? ⟨g, 4, none⟩ = some u4 := by
  have o : ∀ {W : World} {i j : Nat} {u v : Value}, i ≠ j → W.cell? ⟨g, i, none⟩ = some v → (W.setCell ⟨g, j, none⟩ u).cell? ⟨g, i, none⟩ = some v := fun hij h => by
    rw [World.cell?_setCell_other _ _ _ _ (by intro e; have := congrArg Addr.off e; simp only at this; omega)]; exact h
  refine ⟨cell_set_self h0, cell_set_self (v := v1) (o (by omega) h1), cell_set_self (v := v2) (o (by omega) (o (by omega) h2)), cell_set_self (v := v3) (o (by omega) (o (by omega) (o (by omega) h3))), cell_set_self (v := v4) (o (by omega) (o (by omega) (o (by omega) (o (by omega) h4))))⟩
theorem cp_fin {w wr : World} {g p1 p2 p3 k1 k2 k3 : Nat} {A2 : Option Addr} {c2 : Nat} {Av : Option Addr} {cv : Nat} {Ai : Option Addr} {ci : Nat} {Ao : Option Addr} {co : Nat} {Ac : Option Addr} {cc : Nat} (K : CpK g p1 p2 p3 k1 k2 k3) (h : CpS wr g p1 p2 p3 k1 k2 k3 A2 c2 Av cv Ai ci Ao co Ac cc) (hb : Below w.heap.size w wr) (hg : w.heap.size = g) :
    CpEnd w (.returned (netV (some ⟨p1, 0, none⟩) 1 k1 (some ⟨p2, 0, none⟩) 2 k2 (some ⟨p3, 0, none⟩) 1 k3 0 1)) (((((wr.setCell ⟨g + 1, 0, none⟩ (.slice (some ⟨p1, 0, none⟩) 1 k1)).setCell ⟨g + 1, 1, none⟩ (.slice (some ⟨p2, 0, none⟩) 2 k2)).setCell ⟨g + 1, 2, none⟩ (.slice (some ⟨p3, 0, none⟩) 1 k3)).setCell ⟨g + 1, 3, none⟩ (.int .i64 0)).setCell ⟨g + 1, 4, none⟩ (.int .i64 1)) := by
  have n1 := K.n1
  have n2 := K.n2
  have n3 := K.n3
  have hz : w.heap.size ≤ g + 1 := by omega
  exact ⟨p1, p2, p3, k1, k2, k3, A2, c2, Av, cv, Ai, ci, Ao, co, Ac, cc, rfl, ⟨g, K⟩, ((((h.r1.other (by omega)).other (by omega)).other (by omega)).other (by omega)).other (by omega), ((((h.r2.other (by omega)).other (by omega)).other (by omega)).other (by omega)).other (by omega), ((((h.r3.other (by omega)).other (by omega)).other (by omega)).other (by omega)).other (by omega),
    (((((h.first.other (by simp)).other (by simp)).other (by simp)).other (by simp)).other (by simp)).sl, (((((h.vars.other (by simp)).other (by simp)).other (by simp)).other (by simp)).other (by simp)).sl, (((((h.ins.other (by simp)).other (by simp)).other (by simp)).other (by simp)).other (by simp)).sl, (((((h.outs.other (by simp)).other (by simp)).other (by simp)).other (by simp)).other (by simp)).sl, (((((h.cancel.other (by simp)).other (by simp)).other (by simp)).other (by simp)).other (by simp)).sl, ((((hb.setCell (p := ⟨g + 1, 0, none⟩) hz _).setCell (p := ⟨g + 1, 1, none⟩) hz _).setCell (p := ⟨g + 1, 2, none⟩) hz _).setCell (p := ⟨g + 1, 3, none⟩) hz _).setCell (p := ⟨g + 1, 4, none⟩) hz _⟩
theorem cp_end16 {wr wy w6 : World} {gx rv rc ri ro kv kc ki ko oi oo jci jco : Nat} {qi qo : Nat} (hge : wr.heap.size = gx) (hsz : gx < wy.heap.size) (hv : gx < rv) (hc : gx < rc) (hx : w6.heap[gx]? = some (.cells #[.string ⟨#[116]⟩, .slice (some ⟨rv, 0, none⟩) 1 kv, .int .i64 1, .int .i64 1, .slice none 0 0, .int .i64 1, .int .i64 3, .slice (some ⟨qi, oi, none⟩) 1 jci, .slice (some ⟨qo, oo, none⟩) 1 jco, .slice (some ⟨rc, 0, none⟩) 1 kc, .int .i64 0, .int .i64 0, .int .i64 0, .int .i64 0] 59 (0, 0))) (hd : RowX w6 rv 132 [.string ⟨#[120]⟩, .int .i64 0] ∧ RowX w6 rc 3 [.int .i64 1]) (hi : RowX w6 ri 61 [.int .i64 0, .int .i64 2, .int .i64 0, .slice none 0 0]) (ho : RowX w6 ro 61 [.int .i64 1, .int .i64 2, .int .i64 0, .slice none 0 0]) (pi : wy.heap.size ≤ ri) (po : wy.heap.size ≤ ro) (ki' : 1 ≤ ki ∧ ki ≤ 9223372036854775807) (ko' : 1 ≤ ko ∧ ko ≤ 9223372036854775807) (hb : Below wr.heap.size wr w6) :
    ∃ xi yi xo yo, Hid ((((((w6.setCell ⟨gx, 7, none⟩ (.slice (some ⟨ri, 0, none⟩) 1 ki)).setCell ⟨gx, 8, none⟩ (.slice (some ⟨ro, 0, none⟩) 1 ko)).setCell ⟨gx, 2, none⟩ (.int .i64 1)).setCell ⟨gx, 3, none⟩ (.int .i64 1)).setCell ⟨gx, 4, none⟩ (.slice none 0 0)).heap[gx]? = some (.cells #[.string ⟨#[116]⟩, .slice (some ⟨rv, 0, none⟩) 1 kv, .int .i64 1, .int .i64 1, .slice none 0 0, .int .i64 1, .int .i64 3, .slice (some ⟨xi, 0, none⟩) 1 yi, .slice (some ⟨xo, 0, none⟩) 1 yo, .slice (some ⟨rc, 0, none⟩) 1 kc, .int .i64 0, .int .i64 0, .int .i64 0, .int .i64 0] 59 (0, 0))) ∧ Hid (RowX (((((w6.setCell ⟨gx, 7, none⟩ (.slice (some ⟨ri, 0, none⟩) 1 ki)).setCell ⟨gx, 8, none⟩ (.slice (some ⟨ro, 0, none⟩) 1 ko)).setCell ⟨gx, 2, none⟩ (.int .i64 1)).setCell ⟨gx, 3, none⟩ (.int .i64 1)).setCell ⟨gx, 4, none⟩ (.slice none 0 0)) rv 132 [.string ⟨#[120]⟩, .int .i64 0]) ∧ Hid (RowX (((((w6.setCell ⟨gx, 7, none⟩ (.slice (some ⟨ri, 0, none⟩) 1 ki)).setCell ⟨gx, 8, none⟩ (.slice (some ⟨ro, 0, none⟩) 1 ko)).setCell ⟨gx, 2, none⟩ (.int .i64 1)).setCell ⟨gx, 3, none⟩ (.int .i64 1)).setCell ⟨gx, 4, none⟩ (.slice none 0 0)) rc 3 [.int .i64 1]) ∧ Hid (RowX (((((w6.setCell ⟨gx, 7, none⟩ (.slice (some ⟨ri, 0, none⟩) 1 ki)).setCell ⟨gx, 8, none⟩ (.slice (some ⟨ro, 0, none⟩) 1 ko)).setCell ⟨gx, 2, none⟩ (.int .i64 1)).setCell ⟨gx, 3, none⟩ (.int .i64 1)).setCell ⟨gx, 4, none⟩ (.slice none 0 0)) xi 61 [.int .i64 0, .int .i64 2, .int .i64 0, .slice none 0 0] ∧ gx < xi ∧ 1 ≤ yi ∧ yi ≤ 9223372036854775807) ∧ Hid (RowX (((((w6.setCell ⟨gx, 7, none⟩ (.slice (some ⟨ri, 0, none⟩) 1 ki)).setCell ⟨gx, 8, none⟩ (.slice (some ⟨ro, 0, none⟩) 1 ko)).setCell ⟨gx, 2, none⟩ (.int .i64 1)).setCell ⟨gx, 3, none⟩ (.int .i64 1)).setCell ⟨gx, 4, none⟩ (.slice none 0 0)) xo 61 [.int .i64 1, .int .i64 2, .int .i64 0, .slice none 0 0] ∧ gx < xo ∧ 1 ≤ yo ∧ yo ≤ 9223372036854775807) ∧ Hid (Below wr.heap.size wr (((((w6.setCell ⟨gx, 7, none⟩ (.slice (some ⟨ri, 0, none⟩) 1 ki)).setCell ⟨gx, 8, none⟩ (.slice (some ⟨ro, 0, none⟩) 1 ko)).setCell ⟨gx, 2, none⟩ (.int .i64 1)).setCell ⟨gx, 3, none⟩ (.int .i64 1)).setCell ⟨gx, 4, none⟩ (.slice none 0 0))) := by
  have n1 : rv ≠ gx := by omega
  have n2 : rc ≠ gx := by omega
  have n3 : ri ≠ gx := by omega
  have n4 : ro ≠ gx := by omega
  have hz : wr.heap.size ≤ gx := by omega
  exact ⟨ri, ki, ro, ko, Lib.hid (set_same3 (set_same3 (set_same3 (set_same3 (set_same3 hx))))), Lib.hid (((((hd.1.other n1).other n1).other n1).other n1).other n1), Lib.hid (((((hd.2.other n2).other n2).other n2).other n2).other n2), Lib.hid ⟨((((hi.other n3).other n3).other n3).other n3).other n3, by omega, ki'⟩, Lib.hid ⟨((((ho.other n4).other n4).other n4).other n4).other n4, by omega, ko'⟩,
    Lib.hid (((((hb.setCell (p := ⟨gx, 7, none⟩) hz _).setCell (p := ⟨gx, 8, none⟩) hz _).setCell (p := ⟨gx, 2, none⟩) hz _).setCell (p := ⟨gx, 3, none⟩) hz _).setCell (p := ⟨gx, 4, none⟩) hz _)⟩
theorem CpS.start {w w1 w4 : World} {g b1 b2 b3 d1 d2 d3 p1 p2 p3 k1 k2 k3 : Nat} {A2 Av Ai Ao Ac : Option Addr} {c2 cv ci co cc : Nat} (K : CpK g p1 p2 p3 k1 k2 k3) (hA : SmA w b1 b2 b3 d1 d2 d3 A2 c2 Av cv Ai ci Ao co Ac cc) (hg : w.heap.size = g) (hb1 : Below w.heap.size w w1) (hb : Below w1.heap.size w1 w4)
    (ra : w1.heap[g]? = some (.cells #[.slice (some ⟨b1, 0, none⟩) 1 d1, .slice (some ⟨b2, 0, none⟩) 2 d2, .slice (some ⟨b3, 0, none⟩) 1 d3, .int .i64 0, .int .i64 1] 39 (0, 0))) (rb : w1.heap[g + 1]? = some (.cells #[.slice none 0 0, .slice none 0 0, .slice none 0 0, .int .i64 0, .int .i64 0] 39 (0, 0))) (hs : w1.heap.size = g + 2) (hp : g + 2 ≤ p1)
    (h1 : RowX w4 p1 82 [.string ⟨#[110]⟩, .int .i64 1, .int .i64 0, .int .i64 3, .slice none 0 0, .int .i64 0, .int .i64 0]) (h2 : RowX w4 p2 66 [.string ⟨#[97]⟩, .int .i64 0, .slice A2 1 c2, .string ⟨#[98]⟩, .int .i64 0, .slice none 0 0]) (h3 : RowX w4 p3 59 [.string ⟨#[116]⟩, .slice Av 1 cv, .int .i64 1, .int .i64 1, .slice none 0 0, .int .i64 1, .int .i64 3, .slice Ai 1 ci, .slice Ao 1 co, .slice Ac 1 cc, .int .i64 0, .int .i64 0, .int .i64 0, .int .i64 0]) :
    CpS (((w4.setCell ⟨g, 0, none⟩ (.slice (some ⟨p1, 0, none⟩) 1 k1)).setCell ⟨g, 1, none⟩ (.slice (some ⟨p2, 0, none⟩) 2 k2)).setCell ⟨g, 2, none⟩ (.slice (some ⟨p3, 0, none⟩) 1 k3)) g p1 p2 p3 k1 k2 k3 A2 c2 Av cv Ai ci Ao co Ac cc := by
  have n1 := K.n1
  have n2 := K.n2
  have n3 := K.n3
  have hbb := below_then hb1 hb
  have ap : ∀ {A : Option Addr} {n c size : Nat} {T : TypeId} {xs : List Value}, (∃ q, A = some ⟨q, 0, none⟩ ∧ RowX w q T xs) → n ≤ c → c ≤ 9223372036854775807 → xs.length = n * size → ApR (((w4.setCell ⟨g, 0, none⟩ (.slice (some ⟨p1, 0, none⟩) 1 k1)).setCell ⟨g, 1, none⟩ (.slice (some ⟨p2, 0, none⟩) 2 k2)).setCell ⟨g, 2, none⟩ (.slice (some ⟨p3, 0, none⟩) 1 k3)) [g, g + 1, p1, p2, p3] A n c size xs := fun ⟨q, e, h⟩ a1 a2 a3 => by
    subst e
    have hq := h.lt
    have hx := h.below hbb
    exact ((ApR.new hx a1 a2 a3 (by simp only [List.mem_cons, List.not_mem_nil, or_false]; omega)).other (by simp)).other (by simp) |>.other (by simp)
  refine ⟨?_, ?_, ((h1.other (by omega)).other (by omega)).other (by omega), ((h2.other (by omega)).other (by omega)).other (by omega), ((h3.other (by omega)).other (by omega)).other (by omega), ap hA.first hA.e2.1 hA.e2.2 rfl, ap hA.vars hA.ev.1 hA.ev.2 rfl, ap hA.ins hA.ei.1 hA.ei.2 rfl, ap hA.outs hA.eo.1 hA.eo.2 rfl, ap hA.cancel hA.ec.1 hA.ec.2 rfl⟩
  · exact set_same3 (set_same3 (set_same3 (row_below ra hb)))
  · exact ((set_other3 (by omega)).trans (set_other3 (by omega))).trans ((set_other3 (by omega)).trans (row_below rb hb))
end Go.Proofs.YtkpjhjoopdbkaaaGreatDoor
