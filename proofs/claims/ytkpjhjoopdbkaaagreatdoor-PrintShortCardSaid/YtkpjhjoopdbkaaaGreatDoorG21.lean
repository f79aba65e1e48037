/- Joined: Package parse: told of a net. Printed by gen_pbL.py. -/
import Derived.Test.YtkpjhjoopdbkaaaGreatDoorG20
namespace Go.Proofs.YtkpjhjoopdbkaaaGreatDoor
open Go.RowKit
theorem res_told_n {W : World} {b : Nat} {a1 a2 a3 a4 a5 : Value} {p q : Int} {tmps : Array Value} (h : W.heap[b]? = some (.cells #[a1, a2, a3, a4, a5] 39 (0, 0))) (h4 : tmps[4]? = some (.pointer (some ⟨b, 0, none⟩))) (h5 : tmps[5]? = some (.int .i64 p)) (h6 : tmps[6]? = some (.int .i64 q)) :
    (results Tryz.f75 tmps).run Tryz.prog W = .ok (.tuple #[.agg #[a1, a2, a3, a4, a5], .int .i64 p, .int .i64 q]) W := by
  have q0 := row_cell h 0 _ rfl
  have q1 := row_cell h 1 _ rfl
  have q2 := row_cell h 2 _ rfl
  have q3 := row_cell h 3 _ rfl
  have q4 := row_cell h 4 _ rfl
  simp [results, Tryz.results75, go_sem, q0, q1, q2, q3, q4, h4, h5, h6]
theorem res_Net {W : World} {b : Nat} {a1 a2 a3 a4 a5 : Value} {p q : Int} {tmps : Array Value} (h : W.heap[b]? = some (.cells #[a1, a2, a3, a4, a5] 39 (0, 0))) (h4 : tmps[4]? = some (.pointer (some ⟨b, 0, none⟩))) (h5 : tmps[5]? = some (.int .i64 p)) (h6 : tmps[6]? = some (.int .i64 q)) :
    (results Tryz.f31 tmps).run Tryz.prog W = .ok (.tuple #[.agg #[a1, a2, a3, a4, a5], .int .i64 p, .int .i64 q]) W := by
  have q0 := row_cell h 0 _ rfl
  have q1 := row_cell h 1 _ rfl
  have q2 := row_cell h 2 _ rfl
  have q3 := row_cell h 3 _ rfl
  have q4 := row_cell h 4 _ rfl
  simp [results, Tryz.results31, go_sem, q0, q1, q2, q3, q4, h4, h5, h6]
theorem res_Text {W : World} {b : Nat} {a1 a2 a3 a4 a5 : Value} {p q : Int} {tmps : Array Value} (h : W.heap[b]? = some (.cells #[a1, a2, a3, a4, a5] 39 (0, 0))) (h4 : tmps[2]? = some (.pointer (some ⟨b, 0, none⟩))) (h5 : tmps[3]? = some (.int .i64 p)) (h6 : tmps[4]? = some (.int .i64 q)) :
    (results Tryz.f12 tmps).run Tryz.prog W = .ok (.tuple #[.agg #[a1, a2, a3, a4, a5], .int .i64 p, .int .i64 q]) W := by
  have q0 := row_cell h 0 _ rfl
  have q1 := row_cell h 1 _ rfl
  have q2 := row_cell h 2 _ rfl
  have q3 := row_cell h 3 _ rfl
  have q4 := row_cell h 4 _ rfl
  simp [results, Tryz.results12, go_sem, q0, q1, q2, q3, q4, h4, h5, h6]
theorem row_put4' {w : World} {g t : Nat} {a b d e f : Value} {z : Nat × Nat} (h : w.heap[g]? = some (.cells #[a, b, d, e, f] t z)) (x y u v : Value) : ((((w.setCell ⟨g, 0, none⟩ x).setCell ⟨g, 1, none⟩ y).setCell ⟨g, 2, none⟩ u).setCell ⟨g, 3, none⟩ v).heap[g]? = some (.cells #[x, y, u, v, f] t z) :=
  row_put (row_put (row_put (row_put h 0 x) 1 y) 2 u) 3 v
theorem row_put5 {w : World} {g t : Nat} {a b d e f : Value} {z : Nat × Nat} (h : w.heap[g]? = some (.cells #[a, b, d, e, f] t z)) (x y u v k : Value) : (((((w.setCell ⟨g, 0, none⟩ x).setCell ⟨g, 1, none⟩ y).setCell ⟨g, 2, none⟩ u).setCell ⟨g, 3, none⟩ v).setCell ⟨g, 4, none⟩ k).heap[g]? = some (.cells #[x, y, u, v, k] t z) :=
  row_put (row_put4' h x y u v) 4 k
theorem ag_put5 {H : Nat → Prop} {w W : World} {b : Nat} (h : AgH H w W) (hb : H b ∨ w.heap.size ≤ b) (x y z u k : Value) : AgH H w (((((W.setCell ⟨b, 0, none⟩ x).setCell ⟨b, 1, none⟩ y).setCell ⟨b, 2, none⟩ z).setCell ⟨b, 3, none⟩ u).setCell ⟨b, 4, none⟩ k) :=
  (ag_put4 h hb x y z u).setCell (p := ⟨b, 4, none⟩) hb k
section
variable {T : List Tok} {en : Int} {g : Nat} {A : Option Addr} {c : Nat} {h : Hs} {s : Ps}
/-- What told tells of a net: x, where nothing was wrong. -/
def ToldN (T : List Tok) (en : Int) (g : Nat) (A1 : Option Addr) (n1 c1 : Nat) (A2 : Option Addr) (n2 c2 : Nat) (A3 : Option Addr) (n3 c3 : Nat) (fr to_ : Int) (s' : Ps) (w : World) (e : Ending) (w' : World) : Prop :=
  ((s'.err = 0 ∧ e = .returned (.tuple #[.agg #[.slice A1 n1 c1, .slice A2 n2 c2, .slice A3 n3 c3, .int .i64 fr, .int .i64 to_], .int .i64 en, .int .i64 0])) ∨ (s'.err ≠ 0 ∧ e = .returned (.tuple #[.agg #[.slice none 0 0, .slice none 0 0, .slice none 0 0, .int .i64 0, .int .i64 0], .int .i64 (placeT T en s'), .int .i64 s'.err]))) ∧ AgH (only g) w w'
set_option maxRecDepth 100000 in
set_option maxHeartbeats 4000000 in
theorem pa_told_n (A1 : Option Addr) (n1 c1 : Nat) (A2 : Option Addr) (n2 c2 : Nat) (A3 : Option Addr) (n3 c3 : Nat) (fr to_ : Int) (w : World) (hp : Hid (PAt T en g A c h s w)) :
    Calls Tryz.prog 75 #[.pointer (some ⟨g, 0, none⟩), .agg #[.slice A1 n1 c1, .slice A2 n2 c2, .slice A3 n3 c3, .int .i64 fr, .int .i64 to_]] w (ToldN T en g A1 n1 c1 A2 n2 c2 A3 n3 c3 fr to_ (toldS (ktOf T) s) w) := by
  have hgl := hp.out.blk.lt
  obtain ⟨w1, hw1⟩ : ∃ y, y = (w.alloc (.cells #[.slice A1 n1 c1, .slice A2 n2 c2, .slice A3 n3 c3, .int .i64 fr, .int .i64 to_] 39)).alloc (.cells #[.slice none 0 0, .slice none 0 0, .slice none 0 0, .int .i64 0, .int .i64 0] 39) := ⟨_, rfl⟩
  have HB1 := Lib.hid (show Below w.heap.size w w1 by rw [hw1]; exact below_then (alrB w _) (alrB _ _))
  have RX := Lib.hid (show w1.heap[w.heap.size]? = some (.cells #[.slice A1 n1 c1, .slice A2 n2 c2, .slice A3 n3 c3, .int .i64 fr, .int .i64 to_] 39 (0, 0)) by rw [hw1]; exact row_alloc (heap_alloc_new w _) _)
  have R1 := Lib.hid (show w1.heap[w.heap.size + 1]? = some (.cells #[.slice none 0 0, .slice none 0 0, .slice none 0 0, .int .i64 0, .int .i64 0] 39 (0, 0)) by rw [hw1, ← World.size_alloc w (.cells #[.slice A1 n1 c1, .slice A2 n2 c2, .slice A3 n3 c3, .int .i64 fr, .int .i64 to_] 39)]; exact heap_alloc_new _ _)
  have HP1 := Lib.hid (hp.out.below HB1.out)
  have HW := Lib.hid hw1.symm
  obtain ⟨g3, hg3⟩ : ∃ y, y = w.heap.size := ⟨_, rfl⟩
  have HG := Lib.hid hg3.symm
  rw [← hg3] at RX R1
  have HNE := Lib.hid (show g3 ≠ g by omega)
  have HNE1 := Lib.hid (show g3 + 1 ≠ g by omega)
  have HGW := Lib.hid (show w.heap.size ≤ g3 by omega)
  have CW := Lib.hid (fun W (q : Nat) (hW : PAt T en g A c h s W) => pa_wrong 4 (by decide) (W.drewN q) (Lib.hid (hW.drewN q)))
  have b0 := HP1.out.blk.c0
  have b1 := HP1.out.blk.c1
  have HTS := Lib.hid (show toldS (ktOf T) s = if s.at_ < T.length then wrongP 4 s else s by unfold toldS; rw [ktOf_len])
  obtain ⟨s9, hs9⟩ : ∃ y, y = toldS (ktOf T) s := ⟨_, rfl⟩
  rw [← hs9] at HTS ⊢
  clear hw1 hg3 hs9
  by_cases hlt : s.at_ < T.length
  · have hlt2 : (s.at_ : Int) < (T.length : Int) := by omega
    have d1 : decide ((s.at_ : Int) < (T.length : Int)) = true := by simpa using hlt
    have HS9 := Lib.hid (show s9 = wrongP 4 s by rw [HTS.out, if_pos hlt])
    have HER := Lib.hid (show s9.err ≠ 0 by rw [HS9.out]; exact wrong_err (by decide))
    go_enter Tryz.func75, Tryz.ntmps75
    go_upto_region 1 with fail
    rw [HW.out, HG.out]
    go_quiet (fail)
    go_wp2_with fail
    refine (CW.out _ _ HP1.out).mono ?_
    rintro e w2 ⟨rfl, hT⟩
    rw [← HS9.out] at hT
    have HT := Lib.hid hT
    have HA := Lib.hid (show AgH (only g) w1 w2 from ((AgH.refl (only g) w1).drewN _).trans hT.2)
    have b3 := hT.1.blk.c3
    have z1 : (s9.err != 0) = true := by have := HER.out; simpa using this
    clear hT b0 b1
    go_upto_region 4 with fail
    have al := alrB w2 (.cells #[.slice none 0 0, .slice none 0 0, .slice none 0 0, .int .i64 0, .int .i64 0] 39)
    have HAL := Lib.hid al
    have R7 := heap_alloc_new w2 (.cells #[.slice none 0 0, .slice none 0 0, .slice none 0 0, .int .i64 0, .int .i64 0] 39)
    have R4 := row_alloc (row_keep R1.out HA.out HNE1.out) (.cells #[.slice none 0 0, .slice none 0 0, .slice none 0 0, .int .i64 0, .int .i64 0] 39)
    have HP4 := HT.out.1.below al
    obtain ⟨w4, hw4⟩ : ∃ y, y = w2.alloc (.cells #[.slice none 0 0, .slice none 0 0, .slice none 0 0, .int .i64 0, .int .i64 0] 39) := ⟨_, rfl⟩
    rw [← hw4] at R7 R4 HP4 HAL
    have c0 := row_cell R7 0 _ rfl
    have c1' := row_cell R7 1 _ rfl
    have c2' := row_cell R7 2 _ rfl
    have c3' := row_cell R7 3 _ rfl
    have c4' := row_cell R7 4 _ rfl
    have p0 := row_cell R4 0 _ rfl
    have p1 := row_cell R4 1 _ rfl
    have p2 := row_cell R4 2 _ rfl
    have p3 := row_cell R4 3 _ rfl
    have p4 := row_cell R4 4 _ rfl
    have f0 := frozen_row (o := 0) R4
    have f1 := frozen_row (o := 1) R4
    have f2 := frozen_row (o := 2) R4
    have f3 := frozen_row (o := 3) R4
    have f4 := frozen_row (o := 4) R4
    have b3' := HP4.blk.c3
    have b4' := HP4.blk.c4
    have HR4 := Lib.hid R4
    have HW4 := Lib.hid hw4.symm
    clear al R7 R4 HP4 hw4 b3
    have hne1 := HNE1.out
    have hne2 : g ≠ g3 + 1 := fun e => hne1 e.symm
    go_upto_region 5 with fail
    rw [HW4.out]
    go_region
    go_wp2
    refine bodyPost_ret (res_told_n (row_drewN (row_put5 HR4.out _ _ _ _ _) 1) rfl rfl rfl) rfl ⟨.inr ⟨HER.out, rfl⟩, ?_⟩
    exact (ag_put5 (((AgH.of_below HB1.out).trans HA.out).trans (AgH.of_below HAL.out)) (.inr (by have := HGW.out; omega)) _ _ _ _ _).drew
  ·
    have HS9 := Lib.hid (show s9 = s by rw [HTS.out, if_neg hlt])
    have d1 : decide ((s.at_ : Int) < (T.length : Int)) = false := by simp; omega
    have b3 := HP1.out.blk.c3
    have b2 := HP1.out.blk.c2
    have HP9 := Lib.hid (show PAt T en g A c h s9 w1 by rw [HS9.out]; exact HP1.out)
    by_cases he : s.err = 0
    · have z1 : (s.err != 0) = false := by simpa using he
      have HE := Lib.hid (show s9.err = 0 by rw [HS9.out]; exact he)
      have x0 := row_cell RX.out 0 _ rfl
      have x1 := row_cell RX.out 1 _ rfl
      have x2 := row_cell RX.out 2 _ rfl
      have x3 := row_cell RX.out 3 _ rfl
      have x4 := row_cell RX.out 4 _ rfl
      have p0 := row_cell R1.out 0 _ rfl
      have p1 := row_cell R1.out 1 _ rfl
      have p2 := row_cell R1.out 2 _ rfl
      have p3 := row_cell R1.out 3 _ rfl
      have p4 := row_cell R1.out 4 _ rfl
      have f0 := frozen_row (o := 0) R1.out
      have f1 := frozen_row (o := 1) R1.out
      have f2 := frozen_row (o := 2) R1.out
      have f3 := frozen_row (o := 3) R1.out
      have f4 := frozen_row (o := 4) R1.out
      have hne1 := HNE1.out
      have hne2 : g ≠ g3 + 1 := fun e => hne1 e.symm
      clear he
      go_enter Tryz.func75, Tryz.ntmps75
      go_upto_region 1 with fail
      rw [HW.out, HG.out]
      go_quiet (fail)
      go_wp2_with fail
      go_region
      go_wp2
      refine bodyPost_ret (res_told_n (row_drewN (row_put5 (row_drewN R1.out _) _ _ _ _ _) 1) rfl rfl rfl) rfl ⟨.inl ⟨HE.out, rfl⟩, ?_⟩
      exact ag_put5 ((AgH.of_below (H := only g) HB1.out).drewN _) (.inr (by have := HGW.out; omega)) _ _ _ _ _
    · have z1 : (s.err != 0) = true := by simpa using he
      have HER := Lib.hid (show s9.err ≠ 0 by rw [HS9.out]; exact he)
      clear he b2
      go_enter Tryz.func75, Tryz.ntmps75
      go_upto_region 1 with fail
      rw [HW.out, HG.out]
      go_quiet (fail)
      go_upto_region 4 with fail
      obtain ⟨w2, hw2⟩ : ∃ y, y = w1.drewN nq := ⟨_, rfl⟩
      have HA := Lib.hid (show AgH (only g) w1 w2 by rw [hw2]; exact (AgH.refl (only g) w1).drewN _)
      have HT2 : PAt T en g A c h s w2 := by rw [hw2]; exact HP1.out.drewN _
      rw [← hw2]
      have al := alrB w2 (.cells #[.slice none 0 0, .slice none 0 0, .slice none 0 0, .int .i64 0, .int .i64 0] 39)
      have HAL := Lib.hid al
      have R7 := heap_alloc_new w2 (.cells #[.slice none 0 0, .slice none 0 0, .slice none 0 0, .int .i64 0, .int .i64 0] 39)
      have R4 := row_alloc (row_keep R1.out HA.out HNE1.out) (.cells #[.slice none 0 0, .slice none 0 0, .slice none 0 0, .int .i64 0, .int .i64 0] 39)
      have HP4 := HT2.below al
      obtain ⟨w4, hw4⟩ : ∃ y, y = w2.alloc (.cells #[.slice none 0 0, .slice none 0 0, .slice none 0 0, .int .i64 0, .int .i64 0] 39) := ⟨_, rfl⟩
      rw [← hw4] at R7 R4 HP4 HAL
      have c0 := row_cell R7 0 _ rfl
      have c1' := row_cell R7 1 _ rfl
      have c2' := row_cell R7 2 _ rfl
      have c3' := row_cell R7 3 _ rfl
      have c4' := row_cell R7 4 _ rfl
      have p0 := row_cell R4 0 _ rfl
      have p1 := row_cell R4 1 _ rfl
      have p2 := row_cell R4 2 _ rfl
      have p3 := row_cell R4 3 _ rfl
      have p4 := row_cell R4 4 _ rfl
      have f0 := frozen_row (o := 0) R4
      have f1 := frozen_row (o := 1) R4
      have f2 := frozen_row (o := 2) R4
      have f3 := frozen_row (o := 3) R4
      have f4 := frozen_row (o := 4) R4
      have b3' := HP4.blk.c3
      have b4' := HP4.blk.c4
      have HR4 := Lib.hid R4
      have HW4 := Lib.hid hw4.symm
      clear al R7 R4 HP4 hw4 hw2 HT2 b0 b1 b3
      have hne1 := HNE1.out
      have hne2 : g ≠ g3 + 1 := fun e => hne1 e.symm
      go_upto_region 5 with fail
      rw [HW4.out]
      go_region
      go_wp2
      refine bodyPost_ret (res_told_n (row_drewN (row_put5 HR4.out _ _ _ _ _) 1) rfl rfl rfl) rfl ⟨.inr ⟨HER.out, by rw [HS9.out] <;> rfl⟩, ?_⟩
      exact (ag_put5 (((AgH.of_below HB1.out).trans HA.out).trans (AgH.of_below HAL.out)) (.inr (by have := HGW.out; omega)) _ _ _ _ _).drew
end
end Go.Proofs.YtkpjhjoopdbkaaaGreatDoor
