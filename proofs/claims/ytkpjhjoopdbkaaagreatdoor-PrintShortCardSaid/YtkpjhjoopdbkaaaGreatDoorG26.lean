/- Joined: The writer's expr, the program's. Printed by gen_exprM.py. -/
import Derived.Test.YtkpjhjoopdbkaaaGreatDoorG25
import Derived.Lib.AppendIntMem
import Derived.Deep.RegionWith
namespace Go.Proofs.YtkpjhjoopdbkaaaGreatDoor
open Go.RowKit
theorem WrAt.ext {w w' : World} {B b n c : Nat} {p v : Value} {A : Option Addr} {l : List UInt8} (h : WrAt w B b p A n c l v) (hb : Below w.heap.size w w') : WrAt w' B b p A n c l v :=
  ⟨h.ge, (hb.block b h.lt).trans h.hb, h.own.kept (row := none) ⟨hb.os, hb.tape, hb.output, hb.size, fun k hk _ => hb.block k hk⟩ (by cases hv : v.ownBlock <;> simp), h.ne, h.nil_⟩
theorem Wk.ext {B b : Nat} {w w1 w2 : World} (h : Wk B b w w1) (hb : Below w1.heap.size w1 w2) (hB : B ≤ w1.heap.size) : Wk B b w w2 :=
  ⟨h.below.trans (hb.mono hB), fun i hi hne ht => (hb.block i (Nat.lt_of_lt_of_le hi h.below.size)).trans (h.keep i hi hne ht)⟩
set_option maxRecDepth 100000 in
set_option maxHeartbeats 4000000 in
theorem w_expr_minus (names : List ByteArray) (w0 : World) (B b : Nat) (NA : Option Addr) (nn nc : Nat) (N : Nat) (hB0 : w0.heap.size ≤ B) (IH : Hid (WExprAt names w0 B b NA nn nc N)) (t : Tr) (hN : t.sz ≤ N + 1) (A : Option Addr) (m c : Nat) (w : World) (l : List UInt8) (p v : Value)
    (h : Hid (TrAt w0 A m c t)) (hb : Hid (Below w0.heap.size w0 w)) (hW : Hid (WrAt w B b p NA nn nc l v)) (hp : p = .pointer none ∨ p = selfP b) (hlen : l.length + (textT names t).length ≤ 1000000000000) (hk : t.kind = 3) :
    Calls Tryz.prog 38 #[.pointer (some ⟨b, 0, none⟩), t.val A m c] w (WrP B b NA nn nc w (l ++ textT names t)) := by
  have hbw : B ≤ w.heap.size := by have := hW.out.ge; have := hW.out.lt; omega
  obtain ⟨hi1, hi2⟩ := h.out.nums
  have HT := textT_eq names t
  obtain ⟨n, hn⟩ : ∃ n, n = t.num := ⟨_, rfl⟩
  obtain ⟨k, hkk⟩ : ∃ k, k = t.kind := ⟨_, rfl⟩
  have hv : t.val A m c = .agg #[.int .i64 k, .int .i64 n, .slice A m c] := by rw [hn, hkk]
  rw [hv]
  rw [← hn, ← hkk] at HT
  rw [← hkk] at hk
  rw [← hn] at hi2
  have CK := Lib.hid (fun (j : Nat) (s : Int) W l' p' v' (h1 : Hid (Below w0.heap.size w0 W)) (h2 : Hid (WrAt W B b p' NA nn nc l' v')) (hp' : p' = .pointer none ∨ p' = selfP b) (hj : j ≤ 2) (hl' : l'.length + (kidS (textL names t.kids) j s).length ≤ 1000000000000) => w_kid names w0 B b NA nn nc N hB0 IH t hN A m c j s W l' p' v' h h1 h2 hp' hj hl')
  rw [hv] at CK
  have hgb : w.heap.size ≠ b := by have := hW.out.lt; omega
  rw [show textN names k n (textL names t.kids) = [45] ++ kidS (textL names t.kids) 0 9 by unfold textN; rw [hk]; simp] at HT
  obtain ⟨Y0, hY0⟩ : ∃ X, X = kidS (textL names t.kids) 0 9 := ⟨_, rfl⟩
  rw [← hY0] at HT
  rw [HT] at hlen
  simp only [List.length_append, List.length_cons, List.length_nil] at hlen
  have HY0 := Lib.hid hY0
  have HT := Lib.hid HT
  clear hY0
  clear hv hn hkk
  have HK1 := Lib.hid ((Wk.refl B b w).alloc hbw (.cells #[.int .i64 k, .int .i64 n, .slice A m c] 30))
  have hW1 := Lib.hid (hW.out.alloc (.cells #[.int .i64 k, .int .i64 n, .slice A m c] 30))
  have hx1 := heap_alloc_new w (.cells #[.int .i64 k, .int .i64 n, .slice A m c] 30)
  have x0 := cell_new w #[.int .i64 k, .int .i64 n, .slice A m c] 30 0 _ rfl
  have x1 := cell_new w #[.int .i64 k, .int .i64 n, .slice A m c] 30 1 _ rfl
  have x2 := cell_new w #[.int .i64 k, .int .i64 n, .slice A m c] 30 2 _ rfl
  obtain ⟨w1, hw1⟩ : ∃ w1, w1 = w.alloc (.cells #[.int .i64 k, .int .i64 n, .slice A m c] 30) := ⟨_, rfl⟩
  have hs1 : B ≤ w1.heap.size := by rw [hw1, World.size_alloc]; omega
  obtain ⟨g, hg⟩ : ∃ g, g = w.heap.size := ⟨_, rfl⟩
  have HW1 := Lib.hid hw1
  have HG := Lib.hid hg
  rw [← hw1] at HK1 hW1 hx1 x0 x1 x2
  rw [← hg] at hx1 x0 x1 x2 hgb
  have HX1 := Lib.hid hx1
  have HGB := Lib.hid hgb
  have HB1 := Lib.hid (hb.out.trans (HK1.out.below.mono hB0))
  clear hw1 hg hx1 hgb
  subst hk
  go_enter Tryz.func38, Tryz.ntmps38
  go_upto_region 1 with fail
  rw [← HG.out, ← HW1.out]
  go_wp2_with fail
  refine (wr_WriteString B b nn nc (p) v NA l ⟨#[45]⟩ w1 hW1 hp hs1 ?_).mono ?_
  · show _ + 1 ≤ _
    omega
  rintro e w2 ⟨⟨r2, rfl⟩, ⟨v2, hW2⟩, hK2⟩
  have HK2 := Lib.hid (HK1.out.trans hK2.out)
  have HB2 := Lib.hid (hb.out.trans (HK2.out.below.mono hB0))
  have HX2 := Lib.hid (hK2.out.box HX1.out HGB.out (by decide))
  have hs2 : B ≤ w2.heap.size := by have := hK2.out.below.size; omega
  clear x0 x1 x2
  have x0 : w2.cell? ⟨g, 0, none⟩ = some (.int .i64 3) := by rw [cell_of_row _ _ _ _ _ _ HX2.out]; rfl
  have x1 : w2.cell? ⟨g, 1, none⟩ = some (.int .i64 n) := by rw [cell_of_row _ _ _ _ _ _ HX2.out]; rfl
  have x2 : w2.cell? ⟨g, 2, none⟩ = some (.slice A m c) := by rw [cell_of_row _ _ _ _ _ _ HX2.out]; rfl
  go_wp2_with fail
  refine (CK.out 0 9 w2 (l ++ [45]) (selfP b) v2 HB2 hW2 (.inr rfl) (by decide) ?_).mono ?_
  · rw [← HY0.out]
    simp only [List.length_append, List.length_cons, List.length_nil]
    omega
  rw [← HY0.out]
  rintro e w3 ⟨⟨r3, rfl⟩, ⟨v3, hW3⟩, hK3⟩
  have HK3 := Lib.hid (HK2.out.trans hK3.out)
  have HB3 := Lib.hid (hb.out.trans (HK3.out.below.mono hB0))
  have HX3 := Lib.hid (hK3.out.box HX2.out HGB.out (by decide))
  have hs3 : B ≤ w3.heap.size := by have := hK3.out.below.size; omega
  clear x0 x1 x2
  have x0 : w3.cell? ⟨g, 0, none⟩ = some (.int .i64 3) := by rw [cell_of_row _ _ _ _ _ _ HX3.out]; rfl
  have x1 : w3.cell? ⟨g, 1, none⟩ = some (.int .i64 n) := by rw [cell_of_row _ _ _ _ _ _ HX3.out]; rfl
  have x2 : w3.cell? ⟨g, 2, none⟩ = some (.slice A m c) := by rw [cell_of_row _ _ _ _ _ _ HX3.out]; rfl
  go_wp2_with fail
  exact ⟨rfl, _, results_none rfl _ _ _, WrP.mk hW3 (by rw [HT.out]; simp) HK3⟩
set_option maxRecDepth 100000 in
set_option maxHeartbeats 4000000 in
theorem w_expr_not (names : List ByteArray) (w0 : World) (B b : Nat) (NA : Option Addr) (nn nc : Nat) (N : Nat) (hB0 : w0.heap.size ≤ B) (IH : Hid (WExprAt names w0 B b NA nn nc N)) (t : Tr) (hN : t.sz ≤ N + 1) (A : Option Addr) (m c : Nat) (w : World) (l : List UInt8) (p v : Value)
    (h : Hid (TrAt w0 A m c t)) (hb : Hid (Below w0.heap.size w0 w)) (hW : Hid (WrAt w B b p NA nn nc l v)) (hp : p = .pointer none ∨ p = selfP b) (hlen : l.length + (textT names t).length ≤ 1000000000000) (hk : t.kind = 4) :
    Calls Tryz.prog 38 #[.pointer (some ⟨b, 0, none⟩), t.val A m c] w (WrP B b NA nn nc w (l ++ textT names t)) := by
  have hbw : B ≤ w.heap.size := by have := hW.out.ge; have := hW.out.lt; omega
  obtain ⟨hi1, hi2⟩ := h.out.nums
  have HT := textT_eq names t
  obtain ⟨n, hn⟩ : ∃ n, n = t.num := ⟨_, rfl⟩
  obtain ⟨k, hkk⟩ : ∃ k, k = t.kind := ⟨_, rfl⟩
  have hv : t.val A m c = .agg #[.int .i64 k, .int .i64 n, .slice A m c] := by rw [hn, hkk]
  rw [hv]
  rw [← hn, ← hkk] at HT
  rw [← hkk] at hk
  rw [← hn] at hi2
  have CK := Lib.hid (fun (j : Nat) (s : Int) W l' p' v' (h1 : Hid (Below w0.heap.size w0 W)) (h2 : Hid (WrAt W B b p' NA nn nc l' v')) (hp' : p' = .pointer none ∨ p' = selfP b) (hj : j ≤ 2) (hl' : l'.length + (kidS (textL names t.kids) j s).length ≤ 1000000000000) => w_kid names w0 B b NA nn nc N hB0 IH t hN A m c j s W l' p' v' h h1 h2 hp' hj hl')
  rw [hv] at CK
  have hgb : w.heap.size ≠ b := by have := hW.out.lt; omega
  rw [show textN names k n (textL names t.kids) = [33] ++ kidS (textL names t.kids) 0 9 by unfold textN; rw [hk]; simp] at HT
  obtain ⟨Y0, hY0⟩ : ∃ X, X = kidS (textL names t.kids) 0 9 := ⟨_, rfl⟩
  rw [← hY0] at HT
  rw [HT] at hlen
  simp only [List.length_append, List.length_cons, List.length_nil] at hlen
  have HY0 := Lib.hid hY0
  have HT := Lib.hid HT
  clear hY0
  clear hv hn hkk
  have HK1 := Lib.hid ((Wk.refl B b w).alloc hbw (.cells #[.int .i64 k, .int .i64 n, .slice A m c] 30))
  have hW1 := Lib.hid (hW.out.alloc (.cells #[.int .i64 k, .int .i64 n, .slice A m c] 30))
  have hx1 := heap_alloc_new w (.cells #[.int .i64 k, .int .i64 n, .slice A m c] 30)
  have x0 := cell_new w #[.int .i64 k, .int .i64 n, .slice A m c] 30 0 _ rfl
  have x1 := cell_new w #[.int .i64 k, .int .i64 n, .slice A m c] 30 1 _ rfl
  have x2 := cell_new w #[.int .i64 k, .int .i64 n, .slice A m c] 30 2 _ rfl
  obtain ⟨w1, hw1⟩ : ∃ w1, w1 = w.alloc (.cells #[.int .i64 k, .int .i64 n, .slice A m c] 30) := ⟨_, rfl⟩
  have hs1 : B ≤ w1.heap.size := by rw [hw1, World.size_alloc]; omega
  obtain ⟨g, hg⟩ : ∃ g, g = w.heap.size := ⟨_, rfl⟩
  have HW1 := Lib.hid hw1
  have HG := Lib.hid hg
  rw [← hw1] at HK1 hW1 hx1 x0 x1 x2
  rw [← hg] at hx1 x0 x1 x2 hgb
  have HX1 := Lib.hid hx1
  have HGB := Lib.hid hgb
  have HB1 := Lib.hid (hb.out.trans (HK1.out.below.mono hB0))
  clear hw1 hg hx1 hgb
  subst hk
  go_enter Tryz.func38, Tryz.ntmps38
  go_upto_region 1 with fail
  rw [← HG.out, ← HW1.out]
  go_wp2_with fail
  refine (wr_WriteString B b nn nc (p) v NA l ⟨#[33]⟩ w1 hW1 hp hs1 ?_).mono ?_
  · show _ + 1 ≤ _
    omega
  rintro e w2 ⟨⟨r2, rfl⟩, ⟨v2, hW2⟩, hK2⟩
  have HK2 := Lib.hid (HK1.out.trans hK2.out)
  have HB2 := Lib.hid (hb.out.trans (HK2.out.below.mono hB0))
  have HX2 := Lib.hid (hK2.out.box HX1.out HGB.out (by decide))
  have hs2 : B ≤ w2.heap.size := by have := hK2.out.below.size; omega
  clear x0 x1 x2
  have x0 : w2.cell? ⟨g, 0, none⟩ = some (.int .i64 4) := by rw [cell_of_row _ _ _ _ _ _ HX2.out]; rfl
  have x1 : w2.cell? ⟨g, 1, none⟩ = some (.int .i64 n) := by rw [cell_of_row _ _ _ _ _ _ HX2.out]; rfl
  have x2 : w2.cell? ⟨g, 2, none⟩ = some (.slice A m c) := by rw [cell_of_row _ _ _ _ _ _ HX2.out]; rfl
  go_wp2_with fail
  refine (CK.out 0 9 w2 (l ++ [33]) (selfP b) v2 HB2 hW2 (.inr rfl) (by decide) ?_).mono ?_
  · rw [← HY0.out]
    simp only [List.length_append, List.length_cons, List.length_nil]
    omega
  rw [← HY0.out]
  rintro e w3 ⟨⟨r3, rfl⟩, ⟨v3, hW3⟩, hK3⟩
  have HK3 := Lib.hid (HK2.out.trans hK3.out)
  have HB3 := Lib.hid (hb.out.trans (HK3.out.below.mono hB0))
  have HX3 := Lib.hid (hK3.out.box HX2.out HGB.out (by decide))
  have hs3 : B ≤ w3.heap.size := by have := hK3.out.below.size; omega
  clear x0 x1 x2
  have x0 : w3.cell? ⟨g, 0, none⟩ = some (.int .i64 4) := by rw [cell_of_row _ _ _ _ _ _ HX3.out]; rfl
  have x1 : w3.cell? ⟨g, 1, none⟩ = some (.int .i64 n) := by rw [cell_of_row _ _ _ _ _ _ HX3.out]; rfl
  have x2 : w3.cell? ⟨g, 2, none⟩ = some (.slice A m c) := by rw [cell_of_row _ _ _ _ _ _ HX3.out]; rfl
  go_wp2_with fail
  exact ⟨rfl, _, results_none rfl _ _ _, WrP.mk hW3 (by rw [HT.out]; simp) HK3⟩
set_option maxRecDepth 100000 in
set_option maxHeartbeats 4000000 in
theorem w_expr_if (names : List ByteArray) (w0 : World) (B b : Nat) (NA : Option Addr) (nn nc : Nat) (N : Nat) (hB0 : w0.heap.size ≤ B) (IH : Hid (WExprAt names w0 B b NA nn nc N)) (t : Tr) (hN : t.sz ≤ N + 1) (A : Option Addr) (m c : Nat) (w : World) (l : List UInt8) (p v : Value)
    (h : Hid (TrAt w0 A m c t)) (hb : Hid (Below w0.heap.size w0 w)) (hW : Hid (WrAt w B b p NA nn nc l v)) (hp : p = .pointer none ∨ p = selfP b) (hlen : l.length + (textT names t).length ≤ 1000000000000) (hk : t.kind = 6) :
    Calls Tryz.prog 38 #[.pointer (some ⟨b, 0, none⟩), t.val A m c] w (WrP B b NA nn nc w (l ++ textT names t)) := by
  have hbw : B ≤ w.heap.size := by have := hW.out.ge; have := hW.out.lt; omega
  obtain ⟨hi1, hi2⟩ := h.out.nums
  have HT := textT_eq names t
  obtain ⟨n, hn⟩ : ∃ n, n = t.num := ⟨_, rfl⟩
  obtain ⟨k, hkk⟩ : ∃ k, k = t.kind := ⟨_, rfl⟩
  have hv : t.val A m c = .agg #[.int .i64 k, .int .i64 n, .slice A m c] := by rw [hn, hkk]
  rw [hv]
  rw [← hn, ← hkk] at HT
  rw [← hkk] at hk
  rw [← hn] at hi2
  have CK := Lib.hid (fun (j : Nat) (s : Int) W l' p' v' (h1 : Hid (Below w0.heap.size w0 W)) (h2 : Hid (WrAt W B b p' NA nn nc l' v')) (hp' : p' = .pointer none ∨ p' = selfP b) (hj : j ≤ 2) (hl' : l'.length + (kidS (textL names t.kids) j s).length ≤ 1000000000000) => w_kid names w0 B b NA nn nc N hB0 IH t hN A m c j s W l' p' v' h h1 h2 hp' hj hl')
  rw [hv] at CK
  have hgb : w.heap.size ≠ b := by have := hW.out.lt; omega
  rw [show textN names k n (textL names t.kids) = [105, 102, 40] ++ kidS (textL names t.kids) 0 0 ++ [44, 32] ++ kidS (textL names t.kids) 1 0 ++ [44, 32] ++ kidS (textL names t.kids) 2 0 ++ [41] by unfold textN; rw [hk]; simp] at HT
  obtain ⟨Y0, hY0⟩ : ∃ X, X = kidS (textL names t.kids) 0 0 := ⟨_, rfl⟩
  obtain ⟨Y1, hY1⟩ : ∃ X, X = kidS (textL names t.kids) 1 0 := ⟨_, rfl⟩
  obtain ⟨Y2, hY2⟩ : ∃ X, X = kidS (textL names t.kids) 2 0 := ⟨_, rfl⟩
  rw [← hY0, ← hY1, ← hY2] at HT
  rw [HT] at hlen
  simp only [List.length_append, List.length_cons, List.length_nil] at hlen
  have HY0 := Lib.hid hY0
  have HY1 := Lib.hid hY1
  have HY2 := Lib.hid hY2
  have HT := Lib.hid HT
  clear hY0 hY1 hY2
  clear hv hn hkk
  have HK1 := Lib.hid ((Wk.refl B b w).alloc hbw (.cells #[.int .i64 k, .int .i64 n, .slice A m c] 30))
  have hW1 := Lib.hid (hW.out.alloc (.cells #[.int .i64 k, .int .i64 n, .slice A m c] 30))
  have hx1 := heap_alloc_new w (.cells #[.int .i64 k, .int .i64 n, .slice A m c] 30)
  have x0 := cell_new w #[.int .i64 k, .int .i64 n, .slice A m c] 30 0 _ rfl
  have x1 := cell_new w #[.int .i64 k, .int .i64 n, .slice A m c] 30 1 _ rfl
  have x2 := cell_new w #[.int .i64 k, .int .i64 n, .slice A m c] 30 2 _ rfl
  obtain ⟨w1, hw1⟩ : ∃ w1, w1 = w.alloc (.cells #[.int .i64 k, .int .i64 n, .slice A m c] 30) := ⟨_, rfl⟩
  have hs1 : B ≤ w1.heap.size := by rw [hw1, World.size_alloc]; omega
  obtain ⟨g, hg⟩ : ∃ g, g = w.heap.size := ⟨_, rfl⟩
  have HW1 := Lib.hid hw1
  have HG := Lib.hid hg
  rw [← hw1] at HK1 hW1 hx1 x0 x1 x2
  rw [← hg] at hx1 x0 x1 x2 hgb
  have HX1 := Lib.hid hx1
  have HGB := Lib.hid hgb
  have HB1 := Lib.hid (hb.out.trans (HK1.out.below.mono hB0))
  clear hw1 hg hx1 hgb
  subst hk
  go_enter Tryz.func38, Tryz.ntmps38
  go_upto_region 1 with fail
  rw [← HG.out, ← HW1.out]
  go_wp2_with fail
  refine (wr_WriteString B b nn nc (p) v NA l ⟨#[105, 102, 40]⟩ w1 hW1 hp hs1 ?_).mono ?_
  · show _ + 3 ≤ _
    omega
  rintro e w2 ⟨⟨r2, rfl⟩, ⟨v2, hW2⟩, hK2⟩
  have HK2 := Lib.hid (HK1.out.trans hK2.out)
  have HB2 := Lib.hid (hb.out.trans (HK2.out.below.mono hB0))
  have HX2 := Lib.hid (hK2.out.box HX1.out HGB.out (by decide))
  have hs2 : B ≤ w2.heap.size := by have := hK2.out.below.size; omega
  clear x0 x1 x2
  have x0 : w2.cell? ⟨g, 0, none⟩ = some (.int .i64 6) := by rw [cell_of_row _ _ _ _ _ _ HX2.out]; rfl
  have x1 : w2.cell? ⟨g, 1, none⟩ = some (.int .i64 n) := by rw [cell_of_row _ _ _ _ _ _ HX2.out]; rfl
  have x2 : w2.cell? ⟨g, 2, none⟩ = some (.slice A m c) := by rw [cell_of_row _ _ _ _ _ _ HX2.out]; rfl
  go_wp2_with fail
  refine (CK.out 0 0 w2 (l ++ [105, 102, 40]) (selfP b) v2 HB2 hW2 (.inr rfl) (by decide) ?_).mono ?_
  · rw [← HY0.out]
    simp only [List.length_append, List.length_cons, List.length_nil]
    omega
  rw [← HY0.out]
  rintro e w3 ⟨⟨r3, rfl⟩, ⟨v3, hW3⟩, hK3⟩
  have HK3 := Lib.hid (HK2.out.trans hK3.out)
  have HB3 := Lib.hid (hb.out.trans (HK3.out.below.mono hB0))
  have HX3 := Lib.hid (hK3.out.box HX2.out HGB.out (by decide))
  have hs3 : B ≤ w3.heap.size := by have := hK3.out.below.size; omega
  clear x0 x1 x2
  have x0 : w3.cell? ⟨g, 0, none⟩ = some (.int .i64 6) := by rw [cell_of_row _ _ _ _ _ _ HX3.out]; rfl
  have x1 : w3.cell? ⟨g, 1, none⟩ = some (.int .i64 n) := by rw [cell_of_row _ _ _ _ _ _ HX3.out]; rfl
  have x2 : w3.cell? ⟨g, 2, none⟩ = some (.slice A m c) := by rw [cell_of_row _ _ _ _ _ _ HX3.out]; rfl
  go_wp2_with fail
  refine (wr_WriteString B b nn nc (selfP b) v3 NA ((l ++ [105, 102, 40]) ++ Y0) ⟨#[44, 32]⟩ w3 hW3 (.inr rfl) hs3 ?_).mono ?_
  · simp only [List.length_append, List.length_cons, List.length_nil]
    show _ + 2 ≤ _
    omega
  rintro e w4 ⟨⟨r4, rfl⟩, ⟨v4, hW4⟩, hK4⟩
  have HK4 := Lib.hid (HK3.out.trans hK4.out)
  have HB4 := Lib.hid (hb.out.trans (HK4.out.below.mono hB0))
  have HX4 := Lib.hid (hK4.out.box HX3.out HGB.out (by decide))
  have hs4 : B ≤ w4.heap.size := by have := hK4.out.below.size; omega
  clear x0 x1 x2
  have x0 : w4.cell? ⟨g, 0, none⟩ = some (.int .i64 6) := by rw [cell_of_row _ _ _ _ _ _ HX4.out]; rfl
  have x1 : w4.cell? ⟨g, 1, none⟩ = some (.int .i64 n) := by rw [cell_of_row _ _ _ _ _ _ HX4.out]; rfl
  have x2 : w4.cell? ⟨g, 2, none⟩ = some (.slice A m c) := by rw [cell_of_row _ _ _ _ _ _ HX4.out]; rfl
  go_wp2_with fail
  refine (CK.out 1 0 w4 (((l ++ [105, 102, 40]) ++ Y0) ++ [44, 32]) (selfP b) v4 HB4 hW4 (.inr rfl) (by decide) ?_).mono ?_
  · rw [← HY1.out]
    simp only [List.length_append, List.length_cons, List.length_nil]
    omega
  rw [← HY1.out]
  rintro e w5 ⟨⟨r5, rfl⟩, ⟨v5, hW5⟩, hK5⟩
  have HK5 := Lib.hid (HK4.out.trans hK5.out)
  have HB5 := Lib.hid (hb.out.trans (HK5.out.below.mono hB0))
  have HX5 := Lib.hid (hK5.out.box HX4.out HGB.out (by decide))
  have hs5 : B ≤ w5.heap.size := by have := hK5.out.below.size; omega
  clear x0 x1 x2
  have x0 : w5.cell? ⟨g, 0, none⟩ = some (.int .i64 6) := by rw [cell_of_row _ _ _ _ _ _ HX5.out]; rfl
  have x1 : w5.cell? ⟨g, 1, none⟩ = some (.int .i64 n) := by rw [cell_of_row _ _ _ _ _ _ HX5.out]; rfl
  have x2 : w5.cell? ⟨g, 2, none⟩ = some (.slice A m c) := by rw [cell_of_row _ _ _ _ _ _ HX5.out]; rfl
  go_wp2_with fail
  refine (wr_WriteString B b nn nc (selfP b) v5 NA ((((l ++ [105, 102, 40]) ++ Y0) ++ [44, 32]) ++ Y1) ⟨#[44, 32]⟩ w5 hW5 (.inr rfl) hs5 ?_).mono ?_
  · simp only [List.length_append, List.length_cons, List.length_nil]
    show _ + 2 ≤ _
    omega
  rintro e w6 ⟨⟨r6, rfl⟩, ⟨v6, hW6⟩, hK6⟩
  have HK6 := Lib.hid (HK5.out.trans hK6.out)
  have HB6 := Lib.hid (hb.out.trans (HK6.out.below.mono hB0))
  have HX6 := Lib.hid (hK6.out.box HX5.out HGB.out (by decide))
  have hs6 : B ≤ w6.heap.size := by have := hK6.out.below.size; omega
  clear x0 x1 x2
  have x0 : w6.cell? ⟨g, 0, none⟩ = some (.int .i64 6) := by rw [cell_of_row _ _ _ _ _ _ HX6.out]; rfl
  have x1 : w6.cell? ⟨g, 1, none⟩ = some (.int .i64 n) := by rw [cell_of_row _ _ _ _ _ _ HX6.out]; rfl
  have x2 : w6.cell? ⟨g, 2, none⟩ = some (.slice A m c) := by rw [cell_of_row _ _ _ _ _ _ HX6.out]; rfl
  go_wp2_with fail
  refine (CK.out 2 0 w6 (((((l ++ [105, 102, 40]) ++ Y0) ++ [44, 32]) ++ Y1) ++ [44, 32]) (selfP b) v6 HB6 hW6 (.inr rfl) (by decide) ?_).mono ?_
  · rw [← HY2.out]
    simp only [List.length_append, List.length_cons, List.length_nil]
    omega
  rw [← HY2.out]
  rintro e w7 ⟨⟨r7, rfl⟩, ⟨v7, hW7⟩, hK7⟩
  have HK7 := Lib.hid (HK6.out.trans hK7.out)
  have HB7 := Lib.hid (hb.out.trans (HK7.out.below.mono hB0))
  have HX7 := Lib.hid (hK7.out.box HX6.out HGB.out (by decide))
  have hs7 : B ≤ w7.heap.size := by have := hK7.out.below.size; omega
  clear x0 x1 x2
  have x0 : w7.cell? ⟨g, 0, none⟩ = some (.int .i64 6) := by rw [cell_of_row _ _ _ _ _ _ HX7.out]; rfl
  have x1 : w7.cell? ⟨g, 1, none⟩ = some (.int .i64 n) := by rw [cell_of_row _ _ _ _ _ _ HX7.out]; rfl
  have x2 : w7.cell? ⟨g, 2, none⟩ = some (.slice A m c) := by rw [cell_of_row _ _ _ _ _ _ HX7.out]; rfl
  go_wp2_with fail
  refine (wr_WriteString B b nn nc (selfP b) v7 NA ((((((l ++ [105, 102, 40]) ++ Y0) ++ [44, 32]) ++ Y1) ++ [44, 32]) ++ Y2) ⟨#[41]⟩ w7 hW7 (.inr rfl) hs7 ?_).mono ?_
  · simp only [List.length_append, List.length_cons, List.length_nil]
    show _ + 1 ≤ _
    omega
  rintro e w8 ⟨⟨r8, rfl⟩, ⟨v8, hW8⟩, hK8⟩
  have HK8 := Lib.hid (HK7.out.trans hK8.out)
  have HB8 := Lib.hid (hb.out.trans (HK8.out.below.mono hB0))
  have HX8 := Lib.hid (hK8.out.box HX7.out HGB.out (by decide))
  have hs8 : B ≤ w8.heap.size := by have := hK8.out.below.size; omega
  clear x0 x1 x2
  have x0 : w8.cell? ⟨g, 0, none⟩ = some (.int .i64 6) := by rw [cell_of_row _ _ _ _ _ _ HX8.out]; rfl
  have x1 : w8.cell? ⟨g, 1, none⟩ = some (.int .i64 n) := by rw [cell_of_row _ _ _ _ _ _ HX8.out]; rfl
  have x2 : w8.cell? ⟨g, 2, none⟩ = some (.slice A m c) := by rw [cell_of_row _ _ _ _ _ _ HX8.out]; rfl
  go_wp2_with fail
  exact ⟨rfl, _, results_none rfl _ _ _, WrP.mk hW8 (by rw [HT.out]; simp) HK8⟩
set_option maxRecDepth 100000 in
set_option maxHeartbeats 4000000 in
theorem w_expr_other (names : List ByteArray) (w0 : World) (B b : Nat) (NA : Option Addr) (nn nc : Nat) (N : Nat) (hB0 : w0.heap.size ≤ B) (IH : Hid (WExprAt names w0 B b NA nn nc N)) (t : Tr) (hN : t.sz ≤ N + 1) (A : Option Addr) (m c : Nat) (w : World) (l : List UInt8) (p v : Value)
    (h : Hid (TrAt w0 A m c t)) (hb : Hid (Below w0.heap.size w0 w)) (hW : Hid (WrAt w B b p NA nn nc l v)) (hp : p = .pointer none ∨ p = selfP b) (hlen : l.length + (textT names t).length ≤ 1000000000000) (hk : ¬ (1 ≤ t.kind ∧ t.kind ≤ 6)) :
    Calls Tryz.prog 38 #[.pointer (some ⟨b, 0, none⟩), t.val A m c] w (WrP B b NA nn nc w (l ++ textT names t)) := by
  have hbw : B ≤ w.heap.size := by have := hW.out.ge; have := hW.out.lt; omega
  obtain ⟨hi1, hi2⟩ := h.out.nums
  have HT := textT_eq names t
  obtain ⟨n, hn⟩ : ∃ n, n = t.num := ⟨_, rfl⟩
  obtain ⟨k, hkk⟩ : ∃ k, k = t.kind := ⟨_, rfl⟩
  have hv : t.val A m c = .agg #[.int .i64 k, .int .i64 n, .slice A m c] := by rw [hn, hkk]
  rw [hv]
  rw [← hn, ← hkk] at HT
  rw [← hkk] at hk
  rw [← hn] at hi2
  have CK := Lib.hid (fun (j : Nat) (s : Int) W l' p' v' (h1 : Hid (Below w0.heap.size w0 W)) (h2 : Hid (WrAt W B b p' NA nn nc l' v')) (hp' : p' = .pointer none ∨ p' = selfP b) (hj : j ≤ 2) (hl' : l'.length + (kidS (textL names t.kids) j s).length ≤ 1000000000000) => w_kid names w0 B b NA nn nc N hB0 IH t hN A m c j s W l' p' v' h h1 h2 hp' hj hl')
  rw [hv] at CK
  have hgb : w.heap.size ≠ b := by have := hW.out.lt; omega
  rw [show textN names k n (textL names t.kids) = [63] by unfold textN; repeat (rw [if_neg (by omega)])] at HT
  rw [HT] at hlen
  simp only [List.length_cons, List.length_nil] at hlen
  have HT := Lib.hid HT
  have k1 : (k == 1) = false := by simp; omega
  have k2 : (k == 2) = false := by simp; omega
  have k3 : (k == 3) = false := by simp; omega
  have k4 : (k == 4) = false := by simp; omega
  have k5 : (k == 5) = false := by simp; omega
  have k6 : (k == 6) = false := by simp; omega
  clear hv hn hkk
  have HK1 := Lib.hid ((Wk.refl B b w).alloc hbw (.cells #[.int .i64 k, .int .i64 n, .slice A m c] 30))
  have hW1 := Lib.hid (hW.out.alloc (.cells #[.int .i64 k, .int .i64 n, .slice A m c] 30))
  have hx1 := heap_alloc_new w (.cells #[.int .i64 k, .int .i64 n, .slice A m c] 30)
  have x0 := cell_new w #[.int .i64 k, .int .i64 n, .slice A m c] 30 0 _ rfl
  have x1 := cell_new w #[.int .i64 k, .int .i64 n, .slice A m c] 30 1 _ rfl
  have x2 := cell_new w #[.int .i64 k, .int .i64 n, .slice A m c] 30 2 _ rfl
  obtain ⟨w1, hw1⟩ : ∃ w1, w1 = w.alloc (.cells #[.int .i64 k, .int .i64 n, .slice A m c] 30) := ⟨_, rfl⟩
  have hs1 : B ≤ w1.heap.size := by rw [hw1, World.size_alloc]; omega
  obtain ⟨g, hg⟩ : ∃ g, g = w.heap.size := ⟨_, rfl⟩
  have HW1 := Lib.hid hw1
  have HG := Lib.hid hg
  rw [← hw1] at HK1 hW1 hx1 x0 x1 x2
  rw [← hg] at hx1 x0 x1 x2 hgb
  have HX1 := Lib.hid hx1
  have HGB := Lib.hid hgb
  have HB1 := Lib.hid (hb.out.trans (HK1.out.below.mono hB0))
  clear hw1 hg hx1 hgb
  clear hk
  go_enter Tryz.func38, Tryz.ntmps38
  go_upto_region 1 with fail
  rw [← HG.out, ← HW1.out]
  go_wp2_with fail
  refine (wr_WriteString B b nn nc (p) v NA l ⟨#[63]⟩ w1 hW1 hp hs1 ?_).mono ?_
  · show _ + 1 ≤ _
    omega
  rintro e w2 ⟨⟨r2, rfl⟩, ⟨v2, hW2⟩, hK2⟩
  have HK2 := Lib.hid (HK1.out.trans hK2.out)
  have HB2 := Lib.hid (hb.out.trans (HK2.out.below.mono hB0))
  have HX2 := Lib.hid (hK2.out.box HX1.out HGB.out (by decide))
  have hs2 : B ≤ w2.heap.size := by have := hK2.out.below.size; omega
  clear x0 x1 x2
  have x0 : w2.cell? ⟨g, 0, none⟩ = some (.int .i64 k) := by rw [cell_of_row _ _ _ _ _ _ HX2.out]; rfl
  have x1 : w2.cell? ⟨g, 1, none⟩ = some (.int .i64 n) := by rw [cell_of_row _ _ _ _ _ _ HX2.out]; rfl
  have x2 : w2.cell? ⟨g, 2, none⟩ = some (.slice A m c) := by rw [cell_of_row _ _ _ _ _ _ HX2.out]; rfl
  go_wp2_with fail
  exact ⟨rfl, _, results_none rfl _ _ _, WrP.mk hW2 (by rw [HT.out]) HK2⟩
set_option maxRecDepth 100000 in
set_option maxHeartbeats 4000000 in
theorem w_expr_two (names : List ByteArray) (w0 : World) (B b : Nat) (NA : Option Addr) (nn nc : Nat) (N : Nat) (hB0 : w0.heap.size ≤ B) (IH : Hid (WExprAt names w0 B b NA nn nc N)) (t : Tr) (hN : t.sz ≤ N + 1) (A : Option Addr) (m c : Nat) (w : World) (l : List UInt8) (p v : Value)
    (h : Hid (TrAt w0 A m c t)) (hb : Hid (Below w0.heap.size w0 w)) (hW : Hid (WrAt w B b p NA nn nc l v)) (hp : p = .pointer none ∨ p = selfP b) (hlen : l.length + (textT names t).length ≤ 1000000000000) (hk : t.kind = 5) :
    Calls Tryz.prog 38 #[.pointer (some ⟨b, 0, none⟩), t.val A m c] w (WrP B b NA nn nc w (l ++ textT names t)) := by
  have hbw : B ≤ w.heap.size := by have := hW.out.ge; have := hW.out.lt; omega
  obtain ⟨hi1, hi2⟩ := h.out.nums
  have HT := textT_eq names t
  obtain ⟨n, hn⟩ : ∃ n, n = t.num := ⟨_, rfl⟩
  obtain ⟨k, hkk⟩ : ∃ k, k = t.kind := ⟨_, rfl⟩
  have hv : t.val A m c = .agg #[.int .i64 k, .int .i64 n, .slice A m c] := by rw [hn, hkk]
  rw [hv]
  rw [← hn, ← hkk] at HT
  rw [← hkk] at hk
  rw [← hn] at hi2
  have CK := Lib.hid (fun (j : Nat) (s : Int) W l' p' v' (h1 : Hid (Below w0.heap.size w0 W)) (h2 : Hid (WrAt W B b p' NA nn nc l' v')) (hp' : p' = .pointer none ∨ p' = selfP b) (hj : j ≤ 2) (hl' : l'.length + (kidS (textL names t.kids) j s).length ≤ 1000000000000) => w_kid names w0 B b NA nn nc N hB0 IH t hN A m c j s W l' p' v' h h1 h2 hp' hj hl')
  rw [hv] at CK
  have hgb : w.heap.size ≠ b := by have := hW.out.lt; omega
  rw [show textN names k n (textL names t.kids) = kidS (textL names t.kids) 0 (strI n) ++ ([32] ++ (signOf n).data.toList ++ [32]) ++ kidS (textL names t.kids) 1 (strI n + 1) by unfold textN; rw [hk]; simp] at HT
  obtain ⟨y, hy⟩ : ∃ y, y = strI n := ⟨_, rfl⟩
  have hyb := strI_bd n
  have hsg := sign_len n
  have CS := calc_Strength n
  have CG := calc_Sign n
  obtain ⟨sg, hsgn⟩ : ∃ sg, sg = signOf n := ⟨_, rfl⟩
  rw [← hy] at HT hyb CS
  rw [← hsgn] at HT hsg CG
  have hsz : sg.data.toList.length = sg.size := by simp
  obtain ⟨Y0, hY0⟩ : ∃ X, X = kidS (textL names t.kids) 0 y := ⟨_, rfl⟩
  obtain ⟨Y1, hY1⟩ : ∃ X, X = kidS (textL names t.kids) 1 (y + 1) := ⟨_, rfl⟩
  rw [← hY0, ← hY1] at HT
  rw [HT] at hlen
  simp only [List.length_append, List.length_cons, List.length_nil] at hlen
  rw [hsz] at hlen hsg
  have ws := fun b => (rfl : IntKind.i64.wrap b = IntKind.i64.wrap b)
  have HS1 : IntKind.i64.wrap (y + 1) = y + 1 := IntWalk.i64_in _ (by omega)
  have q1 : (9223372036854775807 < 1 + sg.size) = False := eq_false (by omega)
  have q2 : (9223372036854775807 < 1 + sg.size + 1) = False := eq_false (by omega)
  have hs32 : (⟨#[32]⟩ ++ sg ++ ⟨#[32]⟩ : ByteArray).data.toList = [32] ++ sg.data.toList ++ [32] := by simp
  have hz32 : (⟨#[32]⟩ ++ sg ++ ⟨#[32]⟩ : ByteArray).size = 1 + sg.size + 1 := by simp [ByteArray.size_append]; rfl
  have HZ := Lib.hid hsz
  have HS32 := Lib.hid hs32
  have HZ32 := Lib.hid hz32
  have HY0 := Lib.hid hY0
  have HY1 := Lib.hid hY1
  have HT := Lib.hid HT
  have HHS1 := Lib.hid HS1
  clear hY0 hY1 hy hsgn hsz hs32 hz32 ws HS1
  clear hv hn hkk
  have HK1 := Lib.hid ((Wk.refl B b w).alloc hbw (.cells #[.int .i64 k, .int .i64 n, .slice A m c] 30))
  have hW1 := Lib.hid (hW.out.alloc (.cells #[.int .i64 k, .int .i64 n, .slice A m c] 30))
  have hx1 := heap_alloc_new w (.cells #[.int .i64 k, .int .i64 n, .slice A m c] 30)
  have x0 := cell_new w #[.int .i64 k, .int .i64 n, .slice A m c] 30 0 _ rfl
  have x1 := cell_new w #[.int .i64 k, .int .i64 n, .slice A m c] 30 1 _ rfl
  have x2 := cell_new w #[.int .i64 k, .int .i64 n, .slice A m c] 30 2 _ rfl
  obtain ⟨w1, hw1⟩ : ∃ w1, w1 = w.alloc (.cells #[.int .i64 k, .int .i64 n, .slice A m c] 30) := ⟨_, rfl⟩
  have hs1 : B ≤ w1.heap.size := by rw [hw1, World.size_alloc]; omega
  obtain ⟨g, hg⟩ : ∃ g, g = w.heap.size := ⟨_, rfl⟩
  have HW1 := Lib.hid hw1
  have HG := Lib.hid hg
  rw [← hw1] at HK1 hW1 hx1 x0 x1 x2
  rw [← hg] at hx1 x0 x1 x2 hgb
  have HX1 := Lib.hid hx1
  have HGB := Lib.hid hgb
  have HB1 := Lib.hid (hb.out.trans (HK1.out.below.mono hB0))
  clear hw1 hg hx1 hgb
  subst hk
  go_enter Tryz.func38, Tryz.ntmps38
  go_upto_region 1 with fail
  rw [← HG.out, ← HW1.out]
  go_wp2_with fail
  refine (CS _).mono ?_
  rintro e wz ⟨rfl, rfl⟩
  go_wp2_with fail
  refine (CK.out 0 y w1 l (p) v HB1 hW1 hp (by decide) ?_).mono ?_
  · rw [← HY0.out]
    omega
  rw [← HY0.out]
  rintro e w2 ⟨⟨r2, rfl⟩, ⟨v2, hW2⟩, hK2⟩
  have HK2 := Lib.hid (HK1.out.trans hK2.out)
  have HB2 := Lib.hid (hb.out.trans (HK2.out.below.mono hB0))
  have HX2 := Lib.hid (hK2.out.box HX1.out HGB.out (by decide))
  have hs2 : B ≤ w2.heap.size := by have := hK2.out.below.size; omega
  clear x0 x1 x2
  have x0 : w2.cell? ⟨g, 0, none⟩ = some (.int .i64 5) := by rw [cell_of_row _ _ _ _ _ _ HX2.out]; rfl
  have x1 : w2.cell? ⟨g, 1, none⟩ = some (.int .i64 n) := by rw [cell_of_row _ _ _ _ _ _ HX2.out]; rfl
  have x2 : w2.cell? ⟨g, 2, none⟩ = some (.slice A m c) := by rw [cell_of_row _ _ _ _ _ _ HX2.out]; rfl
  go_wp2_with fail
  have hwl : (l ++ Y0).length + (⟨#[32]⟩ ++ sg ++ ⟨#[32]⟩ : ByteArray).size ≤ 140737488355328 := by rw [HZ32.out, List.length_append]; omega
  have CWS := Lib.hid (fun W (h1 : Hid (WrAt W B b (selfP b) NA nn nc (l ++ Y0) v2)) (h2 : B ≤ W.heap.size) => wr_WriteString B b nn nc (selfP b) v2 NA (l ++ Y0) (⟨#[32]⟩ ++ sg ++ ⟨#[32]⟩) W h1 (.inr rfl) h2 hwl)
  rw [HS32.out] at CWS
  clear hwl
  go_region_with (first
    | (go_at_call 86; refine (CG _).mono ?_; rintro e w3 ⟨rfl, hbS⟩; have HBS := Lib.hid (below_then (below_drewN' (Below.refl _ _) 1) hbS); clear hbS; have hW3 := Lib.hid (hW2.out.ext HBS.out); have HK3 := Lib.hid (HK2.out.ext HBS.out hs2); have HB3 := Lib.hid (hb.out.trans (HK3.out.below.mono hB0)); have HX3 := Lib.hid ((HBS.out.block g (Array.getElem?_eq_some_iff.1 HX2.out).1).trans HX2.out); have hs3 := Nat.le_trans hs2 HBS.out.size)
    | (go_at_call 47; refine (CWS.out w3 hW3 hs3).mono ?_; rintro e w4 ⟨⟨r4, rfl⟩, ⟨v4, hW4⟩, hK4⟩))
  all_goals
    have HK4 := Lib.hid (HK3.out.trans hK4.out)
    have HB4 := Lib.hid (hb.out.trans (HK4.out.below.mono hB0))
    have HX4 := Lib.hid (hK4.out.box HX3.out HGB.out (by decide))
    have hs4 : B ≤ w4.heap.size := by have := hK4.out.below.size; omega
    clear x0 x1 x2
    have x0 : w4.cell? ⟨g, 0, none⟩ = some (.int .i64 5) := by rw [cell_of_row _ _ _ _ _ _ HX4.out]; rfl
    have x1 : w4.cell? ⟨g, 1, none⟩ = some (.int .i64 n) := by rw [cell_of_row _ _ _ _ _ _ HX4.out]; rfl
    have x2 : w4.cell? ⟨g, 2, none⟩ = some (.slice A m c) := by rw [cell_of_row _ _ _ _ _ _ HX4.out]; rfl
    go_wp2_with fail
    refine (CK.out 1 (y + 1) w4 ((l ++ Y0) ++ ([32] ++ sg.data.toList ++ [32])) (selfP b) v4 HB4 hW4 (.inr rfl) (by decide) ?_).mono ?_
    · rw [← HY1.out]
      simp only [List.length_append, List.length_cons, List.length_nil]
      rw [HZ.out]
      omega
    rw [← HY1.out]
    rintro e w5 ⟨⟨r5, rfl⟩, ⟨v5, hW5⟩, hK5⟩
    have HK5 := Lib.hid (HK4.out.trans hK5.out)
    have HB5 := Lib.hid (hb.out.trans (HK5.out.below.mono hB0))
    have HX5 := Lib.hid (hK5.out.box HX4.out HGB.out (by decide))
    have hs5 : B ≤ w5.heap.size := by have := hK5.out.below.size; omega
    clear x0 x1 x2
    have x0 : w5.cell? ⟨g, 0, none⟩ = some (.int .i64 5) := by rw [cell_of_row _ _ _ _ _ _ HX5.out]; rfl
    have x1 : w5.cell? ⟨g, 1, none⟩ = some (.int .i64 n) := by rw [cell_of_row _ _ _ _ _ _ HX5.out]; rfl
    have x2 : w5.cell? ⟨g, 2, none⟩ = some (.slice A m c) := by rw [cell_of_row _ _ _ _ _ _ HX5.out]; rfl
    go_wp2_with fail
    exact ⟨rfl, _, results_none rfl _ _ _, WrP.mk hW5 (by rw [HT.out]; simp) HK5⟩
end Go.Proofs.YtkpjhjoopdbkaaaGreatDoor
