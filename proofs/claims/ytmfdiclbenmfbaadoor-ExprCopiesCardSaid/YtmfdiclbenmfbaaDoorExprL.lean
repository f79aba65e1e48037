/- The writer's kid, the program's. -/
import Derived.Test.YtmfdiclbenmfbaaDoorExprW
import Derived.Test.YtmfdiclbenmfbaaDoorExprT
import Derived.Deep.DeepCutAuto
import Derived.RegionTactic
namespace Go.Proofs.YtmfdiclbenmfbaaDoor
open Go.RowKit
/-- What the writer's expr is to do. -/
def WExprAt (names : List ByteArray) (w0 : World) (B b : Nat) (NA : Option Addr) (nn nc : Nat) (N : Nat) : Prop :=
  ∀ (t : Tr), t.sz ≤ N → ∀ (A : Option Addr) (m c : Nat) (w : World) (l : List UInt8) (p v : Value), Hid (TrAt w0 A m c t) → Hid (Below w0.heap.size w0 w) → Hid (WrAt w B b p NA nn nc l v) → (p = .pointer none ∨ p = selfP b) → l.length + (textT names t).length ≤ 1000000000000 →
    Calls Tryd.prog 35 #[.pointer (some ⟨b, 0, none⟩), t.val A m c] w (WrP B b NA nn nc w (l ++ textT names t))
theorem textQ (l : List UInt8) : (l : List UInt8) ++ [] = l := List.append_nil l
set_option maxRecDepth 100000 in
set_option maxHeartbeats 4000000 in
theorem w_kid (names : List ByteArray) (w0 : World) (B b : Nat) (NA : Option Addr) (nn nc : Nat) (N : Nat) (hB0 : w0.heap.size ≤ B) (IH : Hid (WExprAt names w0 B b NA nn nc N)) (t : Tr) (hN : t.sz ≤ N + 1) (A : Option Addr) (m c : Nat) (j : Nat) (s : Int) (w : World) (l : List UInt8) (p v : Value)
    (h : Hid (TrAt w0 A m c t)) (hb : Hid (Below w0.heap.size w0 w)) (hW : Hid (WrAt w B b p NA nn nc l v)) (hp : p = .pointer none ∨ p = selfP b) (hj2 : j ≤ 2) (hlen : l.length + (kidS (textL names t.kids) j s).length ≤ 1000000000000) :
    Calls Tryd.prog 56 #[.pointer (some ⟨b, 0, none⟩), t.val A m c, .int .i64 (j : Int), .int .i64 s] w (WrP B b NA nn nc w (l ++ kidS (textL names t.kids) j s)) := by
  obtain ⟨hl, hc, hc9⟩ := h.out.len
  have hbw : B ≤ w.heap.size := by have := hW.out.ge; have := hW.out.lt; omega
  have hWl := hW.out.lt
  have hK1 := Lib.hid ((Wk.refl B b w).alloc hbw (.cells #[.int .i64 t.kind, .int .i64 t.num, .slice A m c] 24))
  have hW1 := Lib.hid (hW.out.alloc (.cells #[.int .i64 t.kind, .int .i64 t.num, .slice A m c] 24))
  have s2 := cell_new w #[.int .i64 t.kind, .int .i64 t.num, .slice A m c] 24 2 _ rfl
  obtain ⟨w1, hw1⟩ : ∃ w1, w1 = w.alloc (.cells #[.int .i64 t.kind, .int .i64 t.num, .slice A m c] 24) := ⟨_, rfl⟩
  have hs1 : B ≤ w1.heap.size := by rw [hw1, World.size_alloc]; omega
  obtain ⟨g, hg⟩ : ∃ g, g = w.heap.size := ⟨_, rfl⟩
  have HW1 := Lib.hid hw1
  have HG := Lib.hid hg
  rw [← hw1] at hK1 hW1 s2
  rw [← hg] at s2
  by_cases hjm : j < m
  · obtain ⟨b0, off, rfl, A', m', c', hK⟩ := h.out.kid hjm
    have hkd := Tr.kid_lt (t := t) (j := j) (by omega)
    have hks := kidS_at (names := names) (l := t.kids) (j := j) (by omega) s
    obtain ⟨q, hq⟩ : ∃ q, q = t.kids.getD j default := ⟨_, rfl⟩
    rw [← hq] at hK hkd hks
    have hbw1 : Below w0.heap.size w0 w1 := hb.out.trans (hK1.out.below.mono hB0)
    have c0 := cell_kept hbw1 hK.c0
    have c1 := cell_kept hbw1 hK.c1
    have c2 := cell_kept hbw1 hK.c2
    have HTQ := Lib.hid hK.tr
    have hK2 := Lib.hid (hK1.out.alloc hs1 (.cells #[.int .i64 q.kind, .int .i64 q.num, .slice A' m' c'] 24))
    have hW2 := Lib.hid (hW1.out.alloc (.cells #[.int .i64 q.kind, .int .i64 q.num, .slice A' m' c'] 24))
    have hbx := heap_alloc_new w1 (.cells #[.int .i64 q.kind, .int .i64 q.num, .slice A' m' c'] 24)
    have e0 := cell_new w1 #[.int .i64 q.kind, .int .i64 q.num, .slice A' m' c'] 24 0 _ rfl
    have e1 := cell_new w1 #[.int .i64 q.kind, .int .i64 q.num, .slice A' m' c'] 24 1 _ rfl
    have e2 := cell_new w1 #[.int .i64 q.kind, .int .i64 q.num, .slice A' m' c'] 24 2 _ rfl
    have hgb : w1.heap.size ≠ b := by have := hW1.out.lt; omega
    obtain ⟨w2, hw2⟩ : ∃ w2, w2 = w1.alloc (.cells #[.int .i64 q.kind, .int .i64 q.num, .slice A' m' c'] 24) := ⟨_, rfl⟩
    have hs2 : B ≤ w2.heap.size := by rw [hw2, World.size_alloc]; omega
    obtain ⟨g2, hg2⟩ : ∃ g2, g2 = w1.heap.size := ⟨_, rfl⟩
    have HW2 := Lib.hid hw2
    have HG2 := Lib.hid hg2
    rw [← hw2] at hK2 hW2 hbx e0 e1 e2
    rw [← hg2] at hbx e0 e1 e2 hgb
    have HBX := Lib.hid hbx
    have HGB := Lib.hid hgb
    have HB2 := Lib.hid (hb.out.trans (hK2.out.below.mono hB0))
    have hjm2 : (j : Int) < (m : Int) := by omega
    have hj0 : (0 : Int) ≤ (j : Int) := by omega
    clear hw1 hg hw2 hg2 hbw1 hK hbx hgb hq
    by_cases hloose : q.kind = 5 ∧ strI q.num < s
    · rw [if_pos hloose] at hks
      rw [hks] at hlen ⊢
      simp only [List.length_append, List.length_cons, List.length_nil] at hlen
      obtain ⟨k5, hlt⟩ := hloose
      have bk : (q.kind == 5) = true := by simpa using k5
      have hwl : l.length + (⟨#[40]⟩ : ByteArray).size ≤ 140737488355328 := by show l.length + 1 ≤ _; omega
      have CW := Lib.hid (wr_WriteString B b nn nc p v NA l ⟨#[40]⟩ w2 hW2 hp hs2 hwl)
      have CE := Lib.hid (fun W v (h1 : Hid (Below w0.heap.size w0 W)) (h2 : Hid (WrAt W B b (selfP b) NA nn nc (l ++ [40]) v)) => IH.out q (by omega) A' m' c' W (l ++ [40]) (selfP b) v HTQ h1 h2 (.inr rfl) (by simp only [List.length_append, List.length_cons, List.length_nil]; omega))
      clear hks hwl k5
      go_enter_defers Tryd.func56, Tryd.ntmps56
      go_upto_region 1 with fail
      rw [← HG.out, ← HW1.out]
      go_upto_region 4 with fail
      rw [← HG2.out, ← HW2.out]
      go_wp2_with fail
      refine (calc_Strength q.num _).mono ?_
      rintro e w3 ⟨rfl, rfl⟩
      go_wp2_with fail
      refine CW.out.mono ?_
      rintro e w5 ⟨⟨r, rfl⟩, ⟨v5, hW5⟩, hK5⟩
      have HK5 := Lib.hid (hK2.out.trans hK5.out)
      have HB5 := Lib.hid (hb.out.trans (HK5.out.below.mono hB0))
      have hbx := hK5.out.box HBX.out HGB.out (by decide)
      have f0 : w5.cell? ⟨g2, 0, none⟩ = some (.int .i64 q.kind) := by rw [cell_of_row _ _ _ _ _ _ hbx]; rfl
      have f1 : w5.cell? ⟨g2, 1, none⟩ = some (.int .i64 q.num) := by rw [cell_of_row _ _ _ _ _ _ hbx]; rfl
      have f2 : w5.cell? ⟨g2, 2, none⟩ = some (.slice A' m' c') := by rw [cell_of_row _ _ _ _ _ _ hbx]; rfl
      clear hbx e0 e1 e2
      go_wp2_with fail
      refine (CE.out w5 v5 HB5 hW5).mono ?_
      rintro e w6 ⟨⟨r6, rfl⟩, ⟨v6, hW6⟩, hK6⟩
      have HK6 := Lib.hid (HK5.out.trans hK6.out)
      go_wp2_with fail
      refine leaves_cons (f := 55) (args := #[.pointer (some ⟨b, 0, none⟩), .string ⟨#[41]⟩]) (by simp) (by simp [go_sem]) ?_
      refine (wr_WriteString_d B b nn nc (selfP b) v6 NA _ ⟨#[41]⟩ w6 hW6 .returning (.inr rfl) (by have := HK6.out.below.size; have := hs2; omega) ?_).mono ?_
      · simp only [List.length_append, List.length_cons, List.length_nil]
        show _ + 1 ≤ _
        omega
      rintro e u' w7 ⟨rfl, ⟨r7, rfl⟩, ⟨v7, hW7⟩, hK7⟩
      have HK7 := Lib.hid (HK6.out.trans hK7.out)
      exact ⟨_, results_none rfl _ _ _, WrP.mk hW7 (by simp) HK7⟩
    · rw [if_neg hloose] at hks
      rw [hks] at hlen ⊢
      have CE := Lib.hid (IH.out q (by omega) A' m' c' w2 l p v HTQ HB2 hW2 hp hlen)
      clear hks
      by_cases k5 : q.kind = 5
      · have bk : (q.kind == 5) = true := by simpa using k5
        have hge : s ≤ strI q.num := by
          rcases Int.lt_or_le (strI q.num) s with h | h
          · exact absurd ⟨k5, h⟩ hloose
          · exact h
        have hlt : decide (strI q.num < s) = false := decide_eq_false (by omega)
        clear hloose k5
        go_enter_defers Tryd.func56, Tryd.ntmps56
        go_upto_region 1 with fail
        rw [← HG.out, ← HW1.out]
        go_upto_region 4 with fail
        rw [← HG2.out, ← HW2.out]
        go_wp2_with fail
        refine (calc_Strength q.num _).mono ?_
        rintro e w3 ⟨rfl, rfl⟩
        go_wp2_with fail
        refine CE.out.mono ?_
        rintro e w6 ⟨⟨r6, rfl⟩, ⟨v6, hW6⟩, hK6⟩
        have HK6 := Lib.hid (hK2.out.trans hK6.out)
        go_wp2_with fail
        exact ⟨_, results_none rfl _ _ _, WrP.mk hW6 rfl HK6⟩
      · have bk : (q.kind == 5) = false := by simpa using k5
        clear hloose k5
        go_enter_defers Tryd.func56, Tryd.ntmps56
        go_upto_region 1 with fail
        rw [← HG.out, ← HW1.out]
        go_upto_region 4 with fail
        rw [← HG2.out, ← HW2.out]
        go_wp2_with fail
        refine CE.out.mono ?_
        rintro e w6 ⟨⟨r6, rfl⟩, ⟨v6, hW6⟩, hK6⟩
        have HK6 := Lib.hid (hK2.out.trans hK6.out)
        go_wp2_with fail
        exact ⟨_, results_none rfl _ _ _, WrP.mk hW6 rfl HK6⟩
  · have hks := kidS_no (names := names) (l := t.kids) (j := j) (by omega) s
    rw [hks] at hlen ⊢
    have hge : (m : Int) ≤ (j : Int) := by omega
    have hwl : l.length + (⟨#[63]⟩ : ByteArray).size ≤ 140737488355328 := by simp at hlen; show l.length + 1 ≤ _; omega
    have CW := Lib.hid (wr_WriteString B b nn nc p v NA l ⟨#[63]⟩ w1 hW1 hp hs1 hwl)
    clear hks hlen hw1 hg hwl
    go_enter_defers Tryd.func56, Tryd.ntmps56
    go_upto_region 1 with fail
    rw [← HG.out, ← HW1.out]
    go_wp2_with fail
    refine CW.out.mono ?_
    rintro e w5 ⟨⟨r, rfl⟩, ⟨v5, hW5⟩, hK5⟩
    have HK5 := Lib.hid (hK1.out.trans hK5.out)
    go_wp2_with fail
    exact ⟨_, results_none rfl _ _ _, WrP.mk hW5 rfl HK5⟩
end Go.Proofs.YtmfdiclbenmfbaaDoor
