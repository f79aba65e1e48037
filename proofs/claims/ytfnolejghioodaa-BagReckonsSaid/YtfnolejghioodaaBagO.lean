/- The small case of law 03: the walk. -/
import Derived.Test.YtfnolejghioodaaBagN
namespace Go.Proofs.Ytfnolejghioodaa
open Go.RowKit
/-- A new row of ints. -/
theorem newInts (w : World) (l : List Int) (h : l.length ≤ 1000) : Sl (w.alloc (.cells (intCells l).toArray 3)) (.slice (some ⟨w.heap.size, 0, none⟩) l.length l.length) l.length 1 (intCells l) :=
  Sl.new w 3 (intCells l) l.length 1 (by rw [intCells_len]; omega) (by omega)
theorem newPairs (w : World) (l : Row) (h : l.length ≤ 1000) : Sl (w.alloc (.cells (pairCells l).toArray 39)) (.slice (some ⟨w.heap.size, 0, none⟩) l.length l.length) l.length 2 (pairCells l) :=
  Sl.new w 39 (pairCells l) l.length 2 (by rw [pairCells_len]) (by omega)
theorem below_alloc (w : World) (o : Obj) : Below w.heap.size w (w.alloc o) := (Below.refl _ w).alloc (Nat.le_refl _) o
abbrev Bg (w : World) (A : Option Addr) (c : Nat) (M : Row) : Prop := Sl w (.slice A M.length c) M.length 2 (pairCells M)
set_option maxRecDepth 100000 in
set_option maxHeartbeats 2000000 in
theorem law03_small (w : World) : Calls Try.prog 9 #[] w fun e w' => e = .returned (.bool true) ∧ Below w.heap.size w w' := by
  have c1 := Lib.hid (fun W => callOf (w := W.alloc (.cells (intCells [5, 2, 5]).toArray 3)) [(2, 1), (5, 2)] _ _ _ [5, 2, 5] (newInts W [5, 2, 5] (by decide)) (by decide) (by decide) s_b)
  have c2 := Lib.hid (fun W => callOf (w := W.alloc (.cells (intCells [5]).toArray 3)) [(5, 1)] _ _ _ [5] (newInts W [5] (by decide)) (by decide) (by decide) s_5)
  have c3 := Lib.hid (fun W A c B d (hA : Bg W A c [(2, 1), (5, 2)]) (hB : Bg W B d [(5, 1)]) => callLess (w := W) [(2, 1), (5, 1)] hA (by decide) hB (by decide) (by decide) (by decide) (by decide) (by decide) s_l)
  have c4 := Lib.hid (fun W => callOf (w := W.alloc (.cells (intCells [2, 9]).toArray 3)) [(2, 1), (9, 1)] _ _ _ [2, 9] (newInts W [2, 9] (by decide)) (by decide) (by decide) s_29)
  have c5 := Lib.hid (fun W A c B d (hA : Bg W A c [(2, 1), (5, 2)]) (hB : Bg W B d [(2, 1), (9, 1)]) => callSum (w := W) [(2, 2), (5, 2), (9, 1)] hA (by decide) hB (by decide) (by decide) (by decide) (by decide) (by decide) s_s)
  have c6 := Lib.hid (fun W => callOf (w := W.alloc (.cells (intCells [9]).toArray 3)) [(9, 1)] _ _ _ [9] (newInts W [9] (by decide)) (by decide) (by decide) s_9)
  have c7 := Lib.hid (fun W A c B d (hA : Bg W A c [(2, 1), (5, 2)]) (hB : Bg W B d [(9, 1)]) => callLessBad (w := W) hA (by decide) hB (by decide) (by decide) (by decide) (by decide) (by decide))
  have c8 := Lib.hid (fun W A c B d (M : Row) (hA : Bg W A c M) (hB : Bg W B d M) (hn : M.length ≤ 1000) => ref_Rows A B M.length M.length c d M M W (Lib.hid hA) (Lib.hid hB) (by omega) (by omega))
  simp only [decide_true] at c8
  have c9 := Lib.hid (fun W A c (hA : Bg W A c [(2, 2), (5, 2), (9, 1)]) => bag_Total A 3 c _ W (Lib.hid hA) (Lib.hid (by decide)) (by decide))
  rw [show totR [(2, 2), (5, 2), (9, 1)] = 5 from by decide] at c9
  have c10 := Lib.hid (fun W A c (hA : Bg W A c [(2, 2), (5, 2), (9, 1)]) => bag_Count A 3 c _ 2 W (Lib.hid hA) (Lib.hid (by decide)) (by decide) (Lib.hid (by decide)))
  rw [show cntR [(2, 2), (5, 2), (9, 1)] 2 = 2 from by decide] at c10
  have c11 := Lib.hid (fun W A c B d (hA : Bg W A c [(2, 1), (5, 2)]) (hB : Bg W B d [(2, 1), (5, 1)]) => callCompare (w := W) 1 hA (by decide) hB (by decide) (by decide) (by decide) (by decide) s_c)
  have c12 := Lib.hid (fun W A c B d (hA : Bg W A c [(2, 1), (5, 1)]) (hB : Bg W B d [(2, 1), (5, 2)]) => bag_Within A 2 c _ B 2 d _ W (Lib.hid hA) (Lib.hid (by decide)) (by decide) (Lib.hid hB) (Lib.hid (by decide)) (by decide))
  rw [show withR [(2, 1), (5, 1)] [(2, 1), (5, 2)] = true from by decide] at c12
  have c13 := Lib.hid (fun W A c B d (hA : Bg W A c [(2, 1), (5, 2)]) (hB : Bg W B d [(2, 1), (5, 1)]) => bag_Within A 2 c _ B 2 d _ W (Lib.hid hA) (Lib.hid (by decide)) (by decide) (Lib.hid hB) (Lib.hid (by decide)) (by decide))
  rw [show withR [(2, 1), (5, 2)] [(2, 1), (5, 1)] = false from by decide] at c13
  have c14 := Lib.hid (fun W A c (hA : Bg W A c [(2, 1), (5, 2)]) => bag_List A 2 c _ 9 W (Lib.hid hA) (by decide))
  have e14 : listM [(2, 1), (5, 2)] 9 = [2, 5, 5] := by decide
  unfold ListP at c14
  rw [e14] at c14
  have c15 := Lib.hid (fun W A c B d (hA : Sl W (.slice A 3 c) 3 1 (intCells [2, 5, 5])) (hB : Sl W (.slice B 3 d) 3 1 (intCells [2, 5, 5])) => ref_Ints A B 3 3 c d _ _ W (Lib.hid hA) (Lib.hid hB) (by decide) (by decide))
  simp only [decide_true] at c15
  go_enter Try.func9, Try.ntmps9
  go_wp2_with fail
  refine (c1.out w).mono ?_
  rintro e w1 ⟨_, rfl, A1, d1, rfl, sb, hb⟩
  have B1 := Lib.hid ((below_alloc w _).trans (hb.mono (by simp)))
  have Sb := Lib.hid sb
  clear sb hb
  go_wp2_with fail
  refine (c2.out w1).mono ?_
  rintro e w2 ⟨_, rfl, A2, d2, rfl, s2, hb⟩
  have q := (below_alloc w1 (.cells (intCells [5]).toArray 3)).trans (hb.mono (by simp))
  replace B1 := Lib.hid (below_then B1.out q)
  replace Sb := Lib.hid (Sb.out.below q)
  have S2 := Lib.hid s2
  clear s2 hb q
  go_wp2_with fail
  refine (c3.out w2 _ _ _ _ Sb.out S2.out).mono ?_
  rintro e w3 ⟨_, rfl, A3, d3, rfl, s3, hb⟩
  replace B1 := Lib.hid (below_then B1.out hb)
  replace Sb := Lib.hid (Sb.out.below hb)
  have Sl1 := Lib.hid s3
  clear s3 hb S2
  go_wp2_with fail
  refine (c4.out w3).mono ?_
  rintro e w4 ⟨_, rfl, A4, d4, rfl, s4, hb⟩
  have q := (below_alloc w3 (.cells (intCells [2, 9]).toArray 3)).trans (hb.mono (by simp))
  replace B1 := Lib.hid (below_then B1.out q)
  replace Sb := Lib.hid (Sb.out.below q)
  replace Sl1 := Lib.hid (Sl1.out.below q)
  have S4 := Lib.hid s4
  clear s4 hb q
  go_wp2_with fail
  refine (c5.out w4 _ _ _ _ Sb.out S4.out).mono ?_
  rintro e w5 ⟨_, rfl, A5, d5, rfl, s5, hb⟩
  replace B1 := Lib.hid (below_then B1.out hb)
  replace Sb := Lib.hid (Sb.out.below hb)
  replace Sl1 := Lib.hid (Sl1.out.below hb)
  have Ss := Lib.hid s5
  clear s5 hb S4
  go_wp2_with fail
  refine (c6.out w5).mono ?_
  rintro e w6 ⟨_, rfl, A6, d6, rfl, s6, hb⟩
  have q := (below_alloc w5 (.cells (intCells [9]).toArray 3)).trans (hb.mono (by simp))
  replace B1 := Lib.hid (below_then B1.out q)
  replace Sb := Lib.hid (Sb.out.below q)
  replace Sl1 := Lib.hid (Sl1.out.below q)
  replace Ss := Lib.hid (Ss.out.below q)
  have S6 := Lib.hid s6
  clear s6 hb q
  go_wp2_with fail
  refine (c7.out w6 _ _ _ _ Sb.out S6.out).mono ?_
  rintro e w7 ⟨rfl, hb⟩
  replace B1 := Lib.hid (below_then B1.out hb)
  replace Sb := Lib.hid (Sb.out.below hb)
  replace Sl1 := Lib.hid (Sl1.out.below hb)
  replace Ss := Lib.hid (Ss.out.below hb)
  clear hb S6

  go_wp2_with fail
  have q := below_alloc w7 (.cells (pairCells [(2, 1), (5, 2)]).toArray 39)
  replace B1 := Lib.hid (below_then B1.out q)
  replace Sb := Lib.hid (Sb.out.below q)
  replace Sl1 := Lib.hid (Sl1.out.below q)
  replace Ss := Lib.hid (Ss.out.below q)
  clear q
  refine (c8.out _ _ _ _ _ [(2, 1), (5, 2)] Sb.out (newPairs w7 [(2, 1), (5, 2)] (by decide)) (by decide)).mono ?_
  rintro e w8 ⟨rfl, k8, rfl⟩
  replace B1 := Lib.hid (below_drewN' B1.out k8)
  replace Sb := Lib.hid (Sb.out.drewN k8)
  replace Sl1 := Lib.hid (Sl1.out.drewN k8)
  replace Ss := Lib.hid (Ss.out.drewN k8)
  obtain ⟨w8, h8⟩ : ∃ w8, w8 = (w7.alloc (.cells (pairCells [(2, 1), (5, 2)]).toArray 39)).drewN k8 := ⟨_, rfl⟩
  rw [← h8] at B1 Sb Sl1 Ss ⊢
  clear h8
  go_wp2_with fail
  have q := below_alloc w8 (.cells (pairCells [(2, 1), (5, 1)]).toArray 39)
  replace B1 := Lib.hid (below_then B1.out q)
  replace Sb := Lib.hid (Sb.out.below q)
  replace Sl1 := Lib.hid (Sl1.out.below q)
  replace Ss := Lib.hid (Ss.out.below q)
  clear q
  refine (c8.out _ _ _ _ _ [(2, 1), (5, 1)] Sl1.out (newPairs w8 [(2, 1), (5, 1)] (by decide)) (by decide)).mono ?_
  rintro e w9 ⟨rfl, k9, rfl⟩
  replace B1 := Lib.hid (below_drewN' B1.out k9)
  replace Sb := Lib.hid (Sb.out.drewN k9)
  replace Sl1 := Lib.hid (Sl1.out.drewN k9)
  replace Ss := Lib.hid (Ss.out.drewN k9)
  obtain ⟨w9, h9⟩ : ∃ w9, w9 = (w8.alloc (.cells (pairCells [(2, 1), (5, 1)]).toArray 39)).drewN k9 := ⟨_, rfl⟩
  rw [← h9] at B1 Sb Sl1 Ss ⊢
  clear h9
  go_wp2_with fail
  refine (c9.out w9 _ _ Ss.out).mono ?_
  rintro e w10 ⟨rfl, hb⟩
  replace B1 := Lib.hid (below_then B1.out hb)
  replace Sb := Lib.hid (Sb.out.below hb)
  replace Sl1 := Lib.hid (Sl1.out.below hb)
  replace Ss := Lib.hid (Ss.out.below hb)
  clear hb
  go_wp2_with fail
  refine (c10.out w10 _ _ Ss.out).mono ?_
  rintro e w11 ⟨rfl, hb⟩
  replace B1 := Lib.hid (below_then B1.out hb)
  replace Sb := Lib.hid (Sb.out.below hb)
  replace Sl1 := Lib.hid (Sl1.out.below hb)
  replace Ss := Lib.hid (Ss.out.below hb)
  clear hb
  go_wp2_with fail
  refine (c11.out w11 _ _ _ _ Sb.out Sl1.out).mono ?_
  rintro e w12 ⟨rfl, hb⟩
  replace B1 := Lib.hid (below_then B1.out hb)
  replace Sb := Lib.hid (Sb.out.below hb)
  replace Sl1 := Lib.hid (Sl1.out.below hb)
  replace Ss := Lib.hid (Ss.out.below hb)
  clear hb
  go_wp2_with fail
  refine (c12.out w12 _ _ _ _ Sl1.out Sb.out).mono ?_
  rintro e w13 ⟨rfl, hb⟩
  replace B1 := Lib.hid (below_then B1.out hb)
  replace Sb := Lib.hid (Sb.out.below hb)
  replace Sl1 := Lib.hid (Sl1.out.below hb)
  replace Ss := Lib.hid (Ss.out.below hb)
  clear hb
  go_wp2_with fail
  refine (c13.out w13 _ _ _ _ Sb.out Sl1.out).mono ?_
  rintro e w14 ⟨rfl, hb⟩
  replace B1 := Lib.hid (below_then B1.out hb)
  replace Sb := Lib.hid (Sb.out.below hb)
  replace Sl1 := Lib.hid (Sl1.out.below hb)
  replace Ss := Lib.hid (Ss.out.below hb)
  clear hb
  go_wp2_with fail
  refine (c14.out w14 _ _ Sb.out).mono ?_
  rintro e w15 ⟨A15, d15, rfl, ho, hb⟩
  replace B1 := Lib.hid (below_then B1.out hb)
  replace Sb := Lib.hid (Sb.out.below hb)
  replace Sl1 := Lib.hid (Sl1.out.below hb)
  replace Ss := Lib.hid (Ss.out.below hb)
  clear hb
  have SI := Lib.hid (Sl.of_own ho)
  clear ho
  go_wp2_with fail
  have q := below_alloc w15 (.cells (intCells [2, 5, 5]).toArray 3)
  replace B1 := Lib.hid (below_then B1.out q)
  replace SI := Lib.hid (SI.out.below q)
  clear q
  refine (c15.out _ _ _ _ _ SI.out (newInts w15 [2, 5, 5] (by decide))).mono ?_
  rintro e w16 ⟨rfl, k, rfl⟩
  go_wp2
  go_ret
  exact ⟨rfl, below_drewN' B1.out k⟩
end Go.Proofs.Ytfnolejghioodaa
