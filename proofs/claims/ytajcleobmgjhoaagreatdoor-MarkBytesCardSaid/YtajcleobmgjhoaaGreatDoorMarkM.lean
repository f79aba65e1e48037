/- The small net. -/
import Derived.Test.YtajcleobmgjhoaaGreatDoorMarkL
import Derived.Test.YtajcleobmgjhoaaGreatDoorBagQ
namespace Go.Proofs.YtajcleobmgjhoaaGreatDoor
open Go.RowKit Go.Lib
def plCells (fb : Nat) : List Value := [.string ⟨#[97]⟩, .int .i64 0, .slice (some ⟨fb, 0, none⟩) 1 1, .string ⟨#[98]⟩, .int .i64 0, .slice none 0 0]
structure NetOk (w : World) (cb fb pb : Nat) : Prop where
  col : ColS w cb
  pl : Sl w (.slice (some ⟨pb, 0, none⟩) 2 2) 2 3 (plCells fb)
  fs : Sl w (.slice (some ⟨fb, 0, none⟩) 1 1) 1 2 (pairCells [(0, 2)])
theorem NetOk.below {w w' : World} {cb fb pb : Nat} (h : NetOk w cb fb pb) (hb : Below w.heap.size w w') : NetOk w' cb fb pb := ⟨Sl.below h.col hb, h.pl.below hb, h.fs.below hb⟩
abbrev net1 (cb pb : Nat) : Value := netV (some ⟨cb, 0, none⟩) 1 1 (some ⟨pb, 0, none⟩) 2 2 none 0 0 0 1
set_option maxRecDepth 100000 in
set_option maxHeartbeats 2000000 in
theorem law_net (w : World) : Calls Tryz.prog 18 #[] w fun e w' => ∃ cb fb pb, e = .returned (net1 cb pb) ∧ NetOk w' cb fb pb ∧ Below w.heap.size w w' := by
  go_enter Tryz.func18, Tryz.ntmps18
  go_wp2
  go_returns
  have sz : ∀ (u : World) (o : Obj), (u.alloc o).heap.size = u.heap.size + 1 := fun u o => by simp
  have al : ∀ (u : World) (o : Obj), Below u.heap.size u (u.alloc o) := fun u o => (Below.refl _ u).alloc (Nat.le_refl _) o
  refine ⟨_, w.heap.size + 1 + 1, _, rfl, ⟨?_, ?_, ?_⟩, ?_⟩
  · refine Sl.below (Sl.below ?_ (al _ _)) (al _ _)
    have h := Sl.new (w.alloc (.cells #[.slice (some ⟨w.heap.size + 1, 0, none⟩) 1 1, .slice (some ⟨w.heap.size + 1 + 1 + 1, 0, none⟩) 2 2, .slice none 0 0, .int .i64 0, .int .i64 1] 42)) 63 colCells 1 7 rfl (by omega)
    rw [sz] at h
    exact h
  · have h := Sl.new (((w.alloc (.cells #[.slice (some ⟨w.heap.size + 1, 0, none⟩) 1 1, .slice (some ⟨w.heap.size + 1 + 1 + 1, 0, none⟩) 2 2, .slice none 0 0, .int .i64 0, .int .i64 1] 42)).alloc (.cells colCells.toArray 63)).alloc (.cells #[.int .i64 0, .int .i64 2] 45)) 65 (plCells (w.heap.size + 1 + 1)) 2 3 rfl (by omega)
    rw [sz, sz, sz] at h
    exact h
  · refine Sl.below ?_ (al _ _)
    have h := Sl.new ((w.alloc (.cells #[.slice (some ⟨w.heap.size + 1, 0, none⟩) 1 1, .slice (some ⟨w.heap.size + 1 + 1 + 1, 0, none⟩) 2 2, .slice none 0 0, .int .i64 0, .int .i64 1] 42)).alloc (.cells colCells.toArray 63)) 45 (pairCells [(0, 2)]) 1 2 rfl (by omega)
    rw [sz, sz] at h
    exact h
  · have h1 := al w (.cells #[.slice (some ⟨w.heap.size + 1, 0, none⟩) 1 1, .slice (some ⟨w.heap.size + 1 + 1 + 1, 0, none⟩) 2 2, .slice none 0 0, .int .i64 0, .int .i64 1] 42)
    have h2 := h1.alloc h1.size (.cells colCells.toArray 63)
    have h3 := h2.alloc h2.size (.cells #[.int .i64 0, .int .i64 2] 45)
    exact h3.alloc h3.size _
theorem NetOk.cells {w : World} {cb fb pb : Nat} (h : NetOk w cb fb pb) : w.cell? ⟨pb, 0, none⟩ = some (.string ⟨#[97]⟩) ∧ w.cell? ⟨pb, 1, none⟩ = some (.int .i64 0) ∧ w.cell? ⟨pb, 2, none⟩ = some (.slice (some ⟨fb, 0, none⟩) 1 1) ∧ w.cell? ⟨pb, 3, none⟩ = some (.string ⟨#[98]⟩) ∧ w.cell? ⟨pb, 4, none⟩ = some (.int .i64 0) ∧ w.cell? ⟨pb, 5, none⟩ = some (.slice none 0 0) := by
  obtain ⟨b, off, e, hc⟩ := h.pl.at_ (by omega)
  injection e with e
  injection e with e1 e2
  subst e1 e2
  have h := fun j u (hj : (plCells fb)[j]? = some u) => (show w.cell? ⟨pb, j, none⟩ = some u by have := hc j u hj; rwa [Nat.zero_add] at this)
  exact ⟨h 0 _ rfl, h 1 _ rfl, h 2 _ rfl, h 3 _ rfl, h 4 _ rfl, h 5 _ rfl⟩
theorem r_01 : RowG [(0, 1)] (ofG [0]) := RowG.of_keys [0] (by decide +kernel) (by decide) fun k hk => by have := ofG_mem hk; simp at this ⊢; omega
theorem r_03 : RowG [(0, 3)] (sumG [(0, 2)] [(0, 1)]) := RowG.of_keys [0] (by decide +kernel) (by decide) fun k hk => by
  unfold sumG at hk
  by_cases h1 : getM [(0, 2)] k = 0
  · have := getM_pos (a := [(0, 1)]) (k := k) (by omega)
    simpa using this
  · have := getM_pos h1
    simpa using this
theorem i64s_one (a b : Int) (ha : I64 a) (hb : I64 b) : I64s [(a, b)] := fun p hp => by
  rw [List.mem_singleton] at hp
  subst hp
  exact ⟨ha, hb⟩
set_option maxRecDepth 100000 in
set_option maxHeartbeats 4000000 in
theorem mark_First1 (cb fb pb : Nat) (w : World) (hN : Hid (NetOk w cb fb pb)) :
    Calls Tryz.prog 19 #[net1 cb pb] w fun e w' => ∃ A c ys, e = .returned (.slice A 2 c) ∧ Mk w' A 2 c ys ∧ rowsB ys = [[(0, 3)], []] ∧ (∀ b ∈ ys, b.n ≤ 1000) ∧ Below w.heap.size w w' := by
  have HB1 := Lib.hid ((Below.refl w.heap.size w).alloc (Nat.le_refl _) (.cells #[.slice (some ⟨cb, 0, none⟩) 1 1, .slice (some ⟨pb, 0, none⟩) 2 2, .slice none 0 0, .int .i64 0, .int .i64 1] 42))
  have n3 := cell_new w #[.slice (some ⟨cb, 0, none⟩) 1 1, .slice (some ⟨pb, 0, none⟩) 2 2, .slice none 0 0, .int .i64 0, .int .i64 1] 42 3 _ rfl
  have N1 := Lib.hid (hN.out.below HB1.out)
  obtain ⟨W1, hW1⟩ : ∃ W1, W1 = w.alloc (.cells #[.slice (some ⟨cb, 0, none⟩) 1 1, .slice (some ⟨pb, 0, none⟩) 2 2, .slice none 0 0, .int .i64 0, .int .i64 1] 42) := ⟨_, rfl⟩
  rw [← hW1] at HB1 n3 N1
  have HW1 := Lib.hid hW1
  have al := fun (u : World) (o : Obj) => (Below.refl u.heap.size u).alloc (Nat.le_refl _) o
  have AL := Lib.hid al
  have P3 := Lib.hid n3
  obtain ⟨p0, p1, p2, p3, p4, p5⟩ := N1.out.cells
  clear hW1 n3 al
  go_enter Tryz.func19, Tryz.ntmps19
  go_wp2
  rw [← HW1.out]
  refine wp_loop_rounds 3 ?_
  rw [rounds_succ]
  go_wp2_with fail
  have a2 := AL.out W1 (.cells #[.string ⟨#[97]⟩, .int .i64 0, .slice (some ⟨fb, 0, none⟩) 1 1] 65)
  refine (clone_bag _ 1 1 [(0, 2)] _ (Lib.hid (N1.out.fs.below a2)) (by omega)).mono ?_
  rintro e w3 ⟨B3, d3, rfl, ho3, hb3⟩
  have a3 := below_then a2 hb3
  have S3 := Lib.hid (Sl.of_own ho3)
  have q3 := cell_kept a3 P3.out
  have A3 := Lib.hid a3
  clear a2 a3 ho3 hb3
  go_wp2_with fail
  have a4 := AL.out w3 (.cells #[.int .i64 0] 3)
  refine (callOf [(0, 1)] _ 1 1 [0] (Sl.new w3 3 [.int .i64 0] 1 1 rfl (by omega)) (by intro x hx; rw [List.mem_singleton] at hx; subst hx; exact ⟨by omega, by omega⟩) (by omega) r_01).mono ?_
  rintro e w4 ⟨v4, rfl, B4, d4, rfl, s4, hb4⟩
  have a5 := below_then a4 hb4
  have S4 := Lib.hid (S3.out.below a5)
  have T4 := Lib.hid s4
  have A5 := Lib.hid (below_then A3.out a5)
  clear a4 a5 hb4 s4
  go_wp2_with fail
  refine (callSum [(0, 3)] S4.out (i64s_one 0 2 ⟨by omega, by omega⟩ ⟨by omega, by omega⟩) T4.out (i64s_one 0 1 ⟨by omega, by omega⟩ ⟨by omega, by omega⟩) (by omega) (by simp) (by decide +kernel) (by decide +kernel) r_03).mono ?_
  rintro e w5 ⟨v5, rfl, B5, d5, rfl, s5, hb5⟩
  have S5 := Lib.hid s5
  have A6 := Lib.hid (below_then A5.out hb5)
  have hone := Lib.hid (sl_one B5 1 d5)
  clear hb5 s5
  go_wp2_with (at_builtin; refine wpList_append_sl bags_ty rfl (.tmp 34) (.tmp 36) rfl w5.heap.size rfl (by exact World.ownsRow_nil _ _ _ _) rfl (by exact Sl.new _ _ [Value.slice B5 1 d5] 1 1 rfl (by omega)) hone.out (by omega) (by omega) (by simp) ?_; intro v6 w6 hown6 hg6 hat6; obtain ⟨A7, c7, rfl, _, _⟩ := own_form hown6; have HO6 := Lib.hid hown6; have HB6 := Lib.hid (((Below.refl w5.heap.size w5).alloc (Nat.le_refl _) (.cells #[.slice B5 1 d5] 36)).grown hg6 (by simp) (fun q hq => by cases hq)); clear hown6 hg6 hat6)
  have S6 := Lib.hid (S5.out.below HB6.out)
  have A7' := Lib.hid (below_then A6.out HB6.out)
  have N6 := Lib.hid (N1.out.below A7'.out)
  obtain ⟨r0, r1, r2, r3, r4, r5⟩ := N6.out.cells
  have q6 := cell_kept A7'.out P3.out
  clear p0 p1 p2 p3 p4 p5 q3
  rw [rounds_succ]
  go_wp2_with fail
  have a8 := AL.out w6 (.cells #[.string ⟨#[98]⟩, .int .i64 0, .slice none 0 0] 65)
  refine (clone_bag none 0 0 [] _ (Lib.hid (Sl.none_ _ 2)) (by omega)).mono ?_
  rintro e w8 ⟨B8, d8, rfl, ho8, hb8⟩
  have a9 := below_then a8 hb8
  have S8 := Lib.hid (Sl.of_own ho8)
  have O8 := Lib.hid (own_below HO6.out a9)
  have A9 := Lib.hid (below_then HB6.out a9)
  have q8 := cell_kept a9 q6
  have AA := Lib.hid (below_then A7'.out a9)
  have S9 := Lib.hid (S6.out.below a9)
  have hone8 := Lib.hid (sl_one B8 0 d8)
  clear a8 a9 ho8 hb8 q6
  have hsz := A9.out.size
  go_wp2_with (at_builtin; refine wpList_append_sl bags_ty rfl (.tmp 34) (.tmp 36) rfl w5.heap.size rfl (by exact (O8.out.alloc _)) rfl (by exact Sl.new _ _ [Value.slice B8 0 d8] 1 1 rfl (by omega)) hone8.out (by omega) (by omega) (by simp; omega) ?_; intro v10 w10 hown10 hg10 hat10; obtain ⟨A11, c11, rfl, _, _⟩ := own_form hown10; have HO10 := Lib.hid hown10; have HB10 := Lib.hid ((A9.out.alloc hsz (.cells #[.slice B8 0 d8] 36)).grown hg10 (by simp; omega) (fun q hq => (O8.out.lt q hq).1)); clear hown10 hg10 hat10)
  have S10 := Lib.hid (S5.out.below HB10.out)
  have Z10 := Lib.hid (show Sl w10 (.slice B8 0 d8) 0 2 (pairCells []) from by
    obtain ⟨A1, c1, h1, h2, h3, h4, h5⟩ := S8.out
    exact ⟨A1, c1, h1, h2, h3, h4, fun h => absurd h (by omega)⟩)
  have FF := Lib.hid (HB1.out.trans ((below_then A6.out HB10.out).mono HB1.out.size))
  rw [rounds_succ]
  clear q8
  go_wp2
  go_ret
  refine ⟨A11, c11, [⟨B5, 1, d5, [(0, 3)]⟩, ⟨B8, 0, d8, []⟩], rfl, ⟨Sl.of_own HO10.out, fun b hb => ?_⟩, rfl, fun b hb => ?_, FF.out⟩
  · rcases List.mem_cons.1 hb with rfl | hb
    · exact ⟨S10.out, i64s_one 0 3 ⟨by omega, by omega⟩ ⟨by omega, by omega⟩⟩
    · rw [List.mem_singleton] at hb
      subst hb
      exact ⟨Z10.out, fun p hp => by cases hp⟩
  · rcases List.mem_cons.1 hb with rfl | hb
    · show 1 ≤ 1000; omega
    · rw [List.mem_singleton] at hb
      subst hb
      show 0 ≤ 1000; omega
end Go.Proofs.YtajcleobmgjhoaaGreatDoor
