/- Contracts of package mark: copies. -/
import Derived.Test.YtajcleobmgjhoaaDoorMarkC
import Derived.Lib.SmallJoins
namespace Go.Proofs.YtajcleobmgjhoaaDoor
open Go.RowKit Go.Lib
theorem pair_cells_one : ∀ (l : Row), ∀ u ∈ pairCells l, u.oneCell' = true := pair_one
theorem bags_ty : SlTy Tryd.prog 23 29 1 24 := SlTy.mk (z := .slice none 0 0) (by kernel_rfl) (by kernel_rfl) rfl (by decide)
theorem bg_one (bs : List Bg) : ∀ u ∈ bs.map Bg.val, u.oneCell' = true := by
  intro u hu
  obtain ⟨b, _, rfl⟩ := List.mem_map.1 hu
  rfl
set_option maxRecDepth 100000 in
set_option maxHeartbeats 1000000 in
theorem clone_bag (A : Option Addr) (n c : Nat) (l : Row) (w : World) (H : Hid (Sl w (.slice A n c) n 2 (pairCells l))) (hn : n < 1000000) :
    Calls Tryd.prog 34 #[.slice A n c] w fun e w' => ∃ B d, e = .returned (.slice B n d) ∧ w'.ownsRow w.heap.size 54 2 (.slice B n d) n (pairCells l) ∧ Below w.heap.size w w' := by
  have qT : ∀ (w : World) (a : Option Addr) (n c n' c' : Nat), (binOp .eql 29 (.slice a n c) (.slice none n' c')).run Tryd.prog w = .ok (.bool a.isNone) w := fun w a n c n' c' => Lib.run_eql_slice_nil w _ _ a n c n' c' Tryd.underlying29
  have hlen := H.out.len
  rw [pairCells_len] at hlen
  rcases A with _ | a
  · have h0 : n = 0 := by
      rcases Nat.eq_zero_or_pos n with h0 | h0
      · exact h0
      · obtain ⟨b, off, h, _⟩ := H.out.at_ h0
        cases h
    subst h0
    have hx : l = [] := List.eq_nil_of_length_eq_zero (by omega)
    subst hx
    clear hlen
    go_enter Tryd.func34, Tryd.ntmps34
    go_wp2
    go_ret
    exact ⟨none, 0, rfl, World.ownsRow_nil _ _ _ _, Below.refl _ _⟩
  · have hown := Lib.hid (World.ownsRow_made w (base := w.heap.size) (e := 54) (size := 2) #[] 0 (Nat.le_refl _) (by decide) rfl)
    have hsrc := Lib.hid (H.out.below ((Below.refl _ w).alloc (Nat.le_refl _) (.cells #[] 54)))
    have h1 := Lib.hid (pair_cells_one l)
    clear hlen
    go_enter Tryd.func34, Tryd.ntmps34
    go_wp2_with (at_builtin; refine wpList_append_sl pairs_ty rfl (.tmp 5) (.tmp 6) rfl w.heap.size rfl (by exact hown.out) rfl (by exact hsrc.out) h1.out (by omega) (by omega) (by simp) ?_; intro v4 w4 hown4 hg4 hat4; rw [Nat.zero_add, List.nil_append] at hown4; obtain ⟨A4, c4, rfl, _, _⟩ := own_form hown4; have HO := Lib.hid hown4; have HG := Lib.hid hg4; clear hown4 hg4 hat4)
    go_ret
    refine ⟨A4, c4, rfl, HO.out, ?_⟩
    exact below_grown (((Below.refl _ w).alloc (Nat.le_refl _) (.cells #[] 54))) HG.out hown.out (Nat.le_refl _) (by simp)
set_option maxRecDepth 100000 in
set_option maxHeartbeats 1000000 in
theorem clone_marking (A : Option Addr) (n c : Nat) (xs : List Value) (w : World) (H : Hid (Sl w (.slice A n c) n 1 xs)) (h1 : Hid (∀ u ∈ xs, u.oneCell' = true)) (hn : n < 1000000) :
    Calls Tryd.prog 33 #[.slice A n c] w fun e w' => ∃ B d, e = .returned (.slice B n d) ∧ w'.ownsRow w.heap.size 29 1 (.slice B n d) n xs ∧ Below w.heap.size w w' := by
  have qT : ∀ (w : World) (a : Option Addr) (n c n' c' : Nat), (binOp .eql 23 (.slice a n c) (.slice none n' c')).run Tryd.prog w = .ok (.bool a.isNone) w := fun w a n c n' c' => Lib.run_eql_slice_nil w _ _ a n c n' c' Tryd.underlying23
  have hlen := H.out.len
  rcases A with _ | a
  · have h0 : n = 0 := by
      rcases Nat.eq_zero_or_pos n with h0 | h0
      · exact h0
      · obtain ⟨b, off, h, _⟩ := H.out.at_ h0
        cases h
    subst h0
    have hx : xs = [] := List.eq_nil_of_length_eq_zero (by simpa using hlen)
    subst hx
    clear hlen
    go_enter Tryd.func33, Tryd.ntmps33
    go_wp2
    go_ret
    exact ⟨none, 0, rfl, World.ownsRow_nil _ _ _ _, Below.refl _ _⟩
  · have hown := Lib.hid (World.ownsRow_made w (base := w.heap.size) (e := 29) (size := 1) #[] 0 (Nat.le_refl _) (by decide) rfl)
    have hsrc := Lib.hid (H.out.below ((Below.refl _ w).alloc (Nat.le_refl _) (.cells #[] 29)))
    clear hlen
    go_enter Tryd.func33, Tryd.ntmps33
    go_wp2_with (at_builtin; refine wpList_append_sl bags_ty rfl (.tmp 5) (.tmp 6) rfl w.heap.size rfl (by exact hown.out) rfl (by exact hsrc.out) h1.out (by omega) (by omega) (by simp) ?_; intro v4 w4 hown4 hg4 hat4; rw [Nat.zero_add, List.nil_append] at hown4; obtain ⟨A4, c4, rfl, _, _⟩ := own_form hown4; have HO := Lib.hid hown4; have HG := Lib.hid hg4; clear hown4 hg4 hat4)
    go_ret
    refine ⟨A4, c4, rfl, HO.out, ?_⟩
    exact below_grown (((Below.refl _ w).alloc (Nat.le_refl _) (.cells #[] 29))) HG.out hown.out (Nat.le_refl _) (by simp)
/-- A store where a slice lies changes no cell that holds a number. -/
theorem int_set {w : World} {g o : Nat} {A : Option Addr} {n c : Nat} (h : w.cell? ⟨g, o, none⟩ = some (.slice A n c)) {b i : Nat} {k : IntKind} {x : Int} (hc : w.cell? ⟨b, i, none⟩ = some (.int k x)) (u : Value) : (w.setCell ⟨g, o, none⟩ u).cell? ⟨b, i, none⟩ = some (.int k x) := by
  refine (World.cell?_setCell_other _ _ _ _ ?_).trans hc
  intro e
  rw [e, hc] at h
  cases h
theorem BgOk.set {w : World} {b : Bg} (hb : BgOk w b) {g o : Nat} {A : Option Addr} {n c : Nat} (h : w.cell? ⟨g, o, none⟩ = some (.slice A n c)) (u : Value) : BgOk (w.setCell ⟨g, o, none⟩ u) b := by
  obtain ⟨⟨A1, c1, h1, h2, h3, h4, h5⟩, hw⟩ := hb
  refine ⟨⟨A1, c1, h1, h2, h3, h4, fun hn => ?_⟩, hw⟩
  obtain ⟨b, off, e, hc⟩ := h5 hn
  refine ⟨b, off, e, fun j v hj => ?_⟩
  have h6 := hc j v hj
  have : ∃ k x, v = .int k x := by
    have hm := List.mem_of_getElem? hj
    obtain ⟨p, _, hp⟩ := List.mem_flatMap.1 hm
    simp only [List.mem_cons, List.not_mem_nil, or_false] at hp
    rcases hp with rfl | rfl
    · exact ⟨_, _, rfl⟩
    · exact ⟨_, _, rfl⟩
  obtain ⟨k, x, rfl⟩ := this
  exact int_set h h6 u
def CopyP (xs : List Bg) (n : Nat) (w : World) (e : Ending) (w' : World) : Prop :=
  ∃ B d ys, e = .returned (.slice B n d) ∧ w'.ownsRow w.heap.size 29 1 (.slice B n d) n (ys.map Bg.val) ∧ (∀ b ∈ ys, BgOk w' b) ∧ rowsB ys = rowsB xs ∧ (∀ b ∈ ys, b.n < 100000) ∧ Below w.heap.size w w'
set_option maxRecDepth 100000 in
set_option maxHeartbeats 2000000 in
theorem mark_Copy (A : Option Addr) (n c : Nat) (xs : List Bg) (w : World) (hA : Hid (Mk w A n c xs)) (zA : Hid (∀ b ∈ xs, b.n < 100000)) (hn : n < 100000) :
    Calls Tryd.prog 14 #[.slice A n c] w (CopyP xs n w) := by
  have lA := Lib.hid hA.out.len
  go_enter Tryd.func14, Tryd.ntmps14
  go_wp2_with fail
  refine (clone_marking A n c (xs.map Bg.val) w (Lib.hid hA.out.sl) (Lib.hid (bg_one xs)) (by omega)).mono ?_
  rintro e w1 ⟨B, d, rfl, ho, hb⟩
  have HO := Lib.hid ho
  have HB := Lib.hid hb
  clear ho hb
  go_wp2
  go_loopw [4, 5, 10] (fun _ _ v wr => ∃ (k : Nat) (ys : List Bg), k ≤ n ∧ v = .int .i64 (k : Int) ∧ Hid (wr.ownsRow w.heap.size 29 1 (.slice B n d) n ((ys ++ xs.drop k).map Bg.val)) ∧ Hid (∀ b ∈ ys, BgOk wr b ∧ b.n < 100000) ∧ Hid (rowsB ys = rowsB (xs.take k)) ∧ Hid (Below w.heap.size w wr)) (fun _ _ v _ => n - (RowKit.intOf v).toNat)
  case atStart => exact ⟨0, [], by omega, rfl, HO.out, fun b h => (by cases h), rfl, HB.out⟩
  case round =>
    obtain ⟨k, ys, hk, rfl, ho, hy, hr, hB⟩ := hrel
    by_cases hlt : k < n
    · obtain ⟨b1, o1, g, rfl, e1, e2, e3, _, e4⟩ := hA.out.at_ hlt
      have hyl : ys.length = k := by
        have := congrArg List.length hr.out
        unfold rowsB at this
        rw [List.length_map, List.length_map, List.length_take] at this
        have := lA.out
        omega
      obtain ⟨q, cap, e9⟩ := Joins.ownsRow_form ho.out (by omega)
      injection e9 with e9 _ e8
      subst e9 e8
      have hq := (ho.out.lt q rfl).1
      have hcell : wr.cell? ⟨q, k, none⟩ = some (.slice g.A g.n g.c) := by
        rw [ho.out.cellAt k (by omega), e2, List.map_append, List.getElem?_append_right (by rw [List.length_map]; omega), List.length_map, hyl, Nat.sub_self]
        rfl
      have hbg := (hA.out.bag g e3).below hB.out
      have hz := zA.out g e3
      have hgl := (hA.out.bag g e3).len
      have CS := Lib.hid (clone_bag g.A g.n g.c g.l wr (Lib.hid hbg.sl) (by omega))
      have hfin := Lib.hid (show ∀ (w2 : World) B3 d3, w2.ownsRow wr.heap.size 54 2 (.slice B3 g.n d3) g.n (pairCells g.l) → Below wr.heap.size wr w2 →
          w2.cell? ⟨q, k, none⟩ = some (.slice g.A g.n g.c) ∧ w2.frozen? ⟨q, k, none⟩ = false ∧ (w2.setCell ⟨q, k, none⟩ (.slice B3 g.n d3)).ownsRow w.heap.size 29 1 (.slice (some ⟨q, 0, none⟩) n d) n (((ys ++ [(⟨B3, g.n, d3, g.l⟩ : Bg)]) ++ xs.drop (k + 1)).map Bg.val) ∧
          (∀ b ∈ ys ++ [(⟨B3, g.n, d3, g.l⟩ : Bg)], BgOk (w2.setCell ⟨q, k, none⟩ (.slice B3 g.n d3)) b ∧ b.n < 100000) ∧ rowsB (ys ++ [(⟨B3, g.n, d3, g.l⟩ : Bg)]) = rowsB (xs.take (k + 1)) ∧ Below w.heap.size w (w2.setCell ⟨q, k, none⟩ (.slice B3 g.n d3)) from fun w2 B3 d3 h1 h2 => by
        have ho2 := own_below ho.out h2
        have hc2 := cell_kept h2 hcell
        have hst := (ho2.stored k (.slice B3 g.n d3)).1
        refine ⟨hc2, ho2.frozenAt k, ?_, fun b hb => ?_, ?_, (below_then hB.out h2).setCell hq _⟩
        · have e7 : ((ys ++ xs.drop k).map Bg.val).set k (.slice B3 g.n d3) = ((ys ++ [(⟨B3, g.n, d3, g.l⟩ : Bg)]) ++ xs.drop (k + 1)).map Bg.val := by
            rw [e2, List.map_append, List.map_cons, List.set_append_right _ _ (by rw [List.length_map]; omega), List.length_map, hyl, Nat.sub_self, List.set_cons_zero]
            simp
          rw [← e7]; exact hst
        · rcases List.mem_append.1 hb with hb | hb
          · exact ⟨((hy.out b hb).1.below h2).set hc2 _, (hy.out b hb).2⟩
          · rw [List.mem_singleton] at hb
            subst hb
            exact ⟨BgOk.set (b := (⟨B3, g.n, d3, g.l⟩ : Bg)) ⟨Sl.of_own h1, hbg.wf⟩ hc2 _, hz⟩
        · unfold rowsB
          rw [e4, List.map_append, List.map_append]
          have := hr.out
          unfold rowsB at this
          rw [this]
          rfl)
      obtain ⟨gA, gn, gc, gl⟩ := g
      simp only at hcell CS hfin
      have hlt2 : (k : Int) < (n : Int) := by omega
      have hk0 : (0 : Int) ≤ (k : Int) := by omega
      clear e1 e2 e3 e4 hbg hz hgl hyl
      go_wp2_with fail
      refine CS.out.mono ?_
      rintro e w2 ⟨B3, d3, rfl, h1, h2⟩
      obtain ⟨k1, k2, k3, k4, k5, k6⟩ := hfin.out w2 B3 d3 h1 h2
      have K3 := Lib.hid k3
      have K4 := Lib.hid k4
      have K5 := Lib.hid k5
      have K6 := Lib.hid k6
      clear k3 k4 k5 k6 h1 h2 hcell hfin
      go_wp2
      go_roundw
      case rel => exact ⟨k + 1, _, by omega, by go_num, K3.out, K4.out, K5.out, K6.out⟩
      case measure => simp [RowKit.intOf]; omega
    · go_wp2
      go_ret
      have e1 : xs.drop k = [] := List.drop_eq_nil_of_le (by rw [lA.out]; omega)
      have e2 : xs.take k = xs := List.take_of_length_le (by rw [lA.out]; omega)
      have h1 := ho.out
      rw [e1, List.append_nil] at h1
      have h2 := hr.out
      rw [e2] at h2
      exact ⟨_, _, ys, rfl, h1, fun b hb => (hy.out b hb).1, h2, fun b hb => (hy.out b hb).2, hB.out⟩
end Go.Proofs.YtajcleobmgjhoaaDoor
