/- Contracts of package mark: copies. -/
import Derived.Test.YtajcleobmgjhoaaGreatDoorMarkC
import Derived.Lib.SmallJoins
namespace Go.Proofs.YtajcleobmgjhoaaGreatDoor
open Go.RowKit Go.Lib
theorem pair_cells_one : ∀ (l : Row), ∀ u ∈ pairCells l, u.oneCell' = true := pair_one
theorem bags_ty : SlTy Tryz.prog 23 36 1 24 := SlTy.mk (z := .slice none 0 0) (by kernel_rfl) (by kernel_rfl) rfl (by decide)
theorem bg_one (bs : List Bg) : ∀ u ∈ bs.map Bg.val, u.oneCell' = true := by
  intro u hu
  obtain ⟨b, _, rfl⟩ := List.mem_map.1 hu
  rfl
set_option maxRecDepth 100000 in
set_option maxHeartbeats 1000000 in
theorem clone_bag (A : Option Addr) (n c : Nat) (l : Row) (w : World) (H : Hid (Sl w (.slice A n c) n 2 (pairCells l))) (hn : n < 1000000) :
    Calls Tryz.prog 40 #[.slice A n c] w fun e w' => ∃ B d, e = .returned (.slice B n d) ∧ w'.ownsRow w.heap.size 45 2 (.slice B n d) n (pairCells l) ∧ Below w.heap.size w w' := by
  have qT : ∀ (w : World) (a : Option Addr) (n c n' c' : Nat), (binOp .eql 36 (.slice a n c) (.slice none n' c')).run Tryz.prog w = .ok (.bool a.isNone) w := fun w a n c n' c' => Lib.run_eql_slice_nil w _ _ a n c n' c' Tryz.underlying36
  have hlen := H.out.len
  rw [pairCells_len] at hlen
  rcases A with _ | a
  · have h0 : n = 0 := by
      rcases Nat.eq_zero_or_pos n with h0 | h0
      · exact h0
      · obtain ⟨b, off, h, _⟩ := H.out.at_ h0
        cases h
    subst h0
    have hx : l = [] := List.eq_nil_of_length_eq_zero (by omega)
    subst hx
    clear hlen
    go_enter Tryz.func40, Tryz.ntmps40
    go_wp2
    go_ret
    exact ⟨none, 0, rfl, World.ownsRow_nil _ _ _ _, Below.refl _ _⟩
  · have hown := Lib.hid (World.ownsRow_made w (base := w.heap.size) (e := 45) (size := 2) #[] 0 (Nat.le_refl _) (by decide) rfl)
    have hsrc := Lib.hid (H.out.below ((Below.refl _ w).alloc (Nat.le_refl _) (.cells #[] 45)))
    have h1 := Lib.hid (pair_cells_one l)
    clear hlen
    go_enter Tryz.func40, Tryz.ntmps40
    go_wp2_with (at_builtin; refine wpList_append_sl pairs_ty rfl (.tmp 5) (.tmp 6) rfl w.heap.size rfl (by exact hown.out) rfl (by exact hsrc.out) h1.out (by omega) (by omega) (by simp) ?_; intro v4 w4 hown4 hg4 hat4; rw [Nat.zero_add, List.nil_append] at hown4; obtain ⟨A4, c4, rfl, _, _⟩ := own_form hown4; have HO := Lib.hid hown4; have HG := Lib.hid hg4; clear hown4 hg4 hat4)
    go_ret
    refine ⟨A4, c4, rfl, HO.out, ?_⟩
    exact below_grown (((Below.refl _ w).alloc (Nat.le_refl _) (.cells #[] 45))) HG.out hown.out (Nat.le_refl _) (by simp)
/-- A store where a slice lies changes no cell that holds a number. -/
theorem int_set {w : World} {g o : Nat} {A : Option Addr} {n c : Nat} (h : w.cell? ⟨g, o, none⟩ = some (.slice A n c)) {b i : Nat} {k : IntKind} {x : Int} (hc : w.cell? ⟨b, i, none⟩ = some (.int k x)) (u : Value) : (w.setCell ⟨g, o, none⟩ u).cell? ⟨b, i, none⟩ = some (.int k x) := by
  refine (World.cell?_setCell_other _ _ _ _ ?_).trans hc
  intro e
  rw [e, hc] at h
  cases h
theorem BgOk.set {w : World} {b : Bg} (hb : BgOk w b) {g o : Nat} {A : Option Addr} {n c : Nat} (h : w.cell? ⟨g, o, none⟩ = some (.slice A n c)) (u : Value) : BgOk (w.setCell ⟨g, o, none⟩ u) b := by
  obtain ⟨⟨A1, c1, h1, h2, h3, h4, h5⟩, hw⟩ := hb
  refine ⟨⟨A1, c1, h1, h2, h3, h4, fun hn => ?_⟩, hw⟩
  obtain ⟨b, off, e, hc⟩ := h5 hn
  refine ⟨b, off, e, fun j v hj => ?_⟩
  have h6 := hc j v hj
  have : ∃ k x, v = .int k x := by
    have hm := List.mem_of_getElem? hj
    obtain ⟨p, _, hp⟩ := List.mem_flatMap.1 hm
    simp only [List.mem_cons, List.not_mem_nil, or_false] at hp
    rcases hp with rfl | rfl
    · exact ⟨_, _, rfl⟩
    · exact ⟨_, _, rfl⟩
  obtain ⟨k, x, rfl⟩ := this
  exact int_set h h6 u
def CopyP (xs : List Bg) (n : Nat) (w : World) (e : Ending) (w' : World) : Prop :=
  ∃ B d ys, e = .returned (.slice B n d) ∧ w'.ownsRow w.heap.size 36 1 (.slice B n d) n (ys.map Bg.val) ∧ (∀ b ∈ ys, BgOk w' b) ∧ rowsB ys = rowsB xs ∧ (∀ b ∈ ys, b.n < 100000) ∧ Below w.heap.size w w'
end Go.Proofs.YtajcleobmgjhoaaGreatDoor
