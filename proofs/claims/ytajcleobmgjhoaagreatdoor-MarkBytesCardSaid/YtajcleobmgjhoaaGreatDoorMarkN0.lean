/- The small net: its marking. -/
import Derived.Test.YtajcleobmgjhoaaGreatDoorMarkM
import Derived.Deep.RegionWith
namespace Go.Proofs.YtajcleobmgjhoaaGreatDoor
open Go.RowKit Go.Lib
/-- The small marking, in memory. -/
theorem two_bags {w : World} {A : Option Addr} {c : Nat} {ys : List Bg} (h : Mk w A 2 c ys) (hr : rowsB ys = [[(0, 3)], []]) :
    ∃ B c0 D c1 b o, ys = [⟨B, 1, c0, [(0, 3)]⟩, ⟨D, 0, c1, []⟩] ∧ A = some ⟨b, o, none⟩ ∧ w.cell? ⟨b, o, none⟩ = some (.slice B 1 c0) ∧ w.cell? ⟨b, o + 1, none⟩ = some (.slice D 0 c1) := by
  have hl := h.len
  match ys, hl with
  | [y0, y1], _ =>
    obtain ⟨B, n0, c0, l0⟩ := y0
    obtain ⟨D, n1, c1, l1⟩ := y1
    simp only [rowsB, List.map_cons, List.map_nil, List.cons.injEq, and_true] at hr
    obtain ⟨rfl, rfl⟩ := hr
    have e0 := (h.bag ⟨B, n0, c0, [(0, 3)]⟩ (by simp)).len
    have e1 := (h.bag ⟨D, n1, c1, []⟩ (by simp)).len
    simp only [List.length_cons, List.length_nil] at e0 e1
    subst e0 e1
    obtain ⟨b, o, e, hc⟩ := h.sl.at_ (by omega)
    exact ⟨B, c0, D, c1, b, o, rfl, e, hc 0 _ rfl, hc 1 _ rfl⟩
structure RtS (w : World) (cb fb pb : Nat) (A : Option Addr) (c : Nat) (ys : List Bg) (W : World) : Prop where
  net : NetOk W cb fb pb
  mkg : Mk W A 2 c ys
  b0 : W.cell? ⟨w.heap.size, 0, none⟩ = some (.slice (some ⟨cb, 0, none⟩) 1 1)
  b1 : W.cell? ⟨w.heap.size, 1, none⟩ = some (.slice (some ⟨pb, 0, none⟩) 2 2)
  bel : Below w.heap.size w W
theorem RtS.go {w : World} {cb fb pb : Nat} {A : Option Addr} {c : Nat} {ys : List Bg} {W W' : World} (h : RtS w cb fb pb A c ys W) (hb : Below W.heap.size W W') : RtS w cb fb pb A c ys W' :=
  ⟨h.net.below hb, h.mkg.below hb, cell_kept hb h.b0, cell_kept hb h.b1, below_then h.bel hb⟩
theorem rts_new {w : World} {cb fb pb : Nat} {A : Option Addr} {c : Nat} {ys : List Bg} (hN : NetOk w cb fb pb) (hM : Mk w A 2 c ys) : RtS w cb fb pb A c ys (w.alloc (.cells #[.slice (some ⟨cb, 0, none⟩) 1 1, .slice (some ⟨pb, 0, none⟩) 2 2, .slice none 0 0, .int .i64 0, .int .i64 1] 42)) := by
  have hb := (Below.refl w.heap.size w).alloc (Nat.le_refl _) (.cells #[.slice (some ⟨cb, 0, none⟩) 1 1, .slice (some ⟨pb, 0, none⟩) 2 2, .slice none 0 0, .int .i64 0, .int .i64 1] 42)
  exact ⟨hN.below hb, hM.below hb, cell_new w _ _ 0 _ rfl, cell_new w _ _ 1 _ rfl, hb⟩
end Go.Proofs.YtajcleobmgjhoaaGreatDoor
