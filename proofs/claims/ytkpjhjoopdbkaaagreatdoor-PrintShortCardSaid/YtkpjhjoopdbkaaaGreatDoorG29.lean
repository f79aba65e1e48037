/- Joined: Same: the program's and the document's. The document's Same: rows of texts, arcs. Printed by gen_pbP.py. -/
import Derived.Test.YtkpjhjoopdbkaaaGreatDoorG28
import Derived.Deep.RegionHeld3
import Derived.Deep.RegionWith
import Derived.Deep.DeepCutAuto
namespace Go.Proofs.YtkpjhjoopdbkaaaGreatDoor
open Go.RowKit
/-- What Same is to tell of expressions of so many parts. -/
def SameAt (f : Nat) (N : Nat) : Prop := ∀ (a b : Tr), a.sz ≤ N → ∀ (A : Option Addr) (m c : Nat) (B : Option Addr) (n d : Nat) (w : World), Hid (TrAt w A m c a) → Hid (TrAt w B n d b) → Calls Tryz.prog f #[a.val A m c, b.val B n d] w fun e w' => e = .returned (.bool (sameT a b)) ∧ Below w.heap.size w w'
set_option maxRecDepth 100000 in
set_option maxHeartbeats 2000000 in
theorem ex_EqualFunc (N : Nat) (IH : Hid (SameAt 11 N)) (a b : Tr) (hN : a.sz ≤ N + 1) (A : Option Addr) (m c : Nat) (B : Option Addr) (n d : Nat) (w : World) (ha : Hid (TrAt w A m c a)) (hb : Hid (TrAt w B n d b)) :
    Calls Tryz.prog 30 #[.slice A m c, .slice B n d, .func (.func 11) #[] #[]] w fun e w' => e = .returned (.bool (sameL a.kids b.kids)) ∧ Below w.heap.size w w' := by
  obtain ⟨hl, hc, hc9⟩ := ha.out.len
  obtain ⟨hl2, hd, hd9⟩ := hb.out.len
  by_cases hmn : m = n
  · subst hmn
    obtain ⟨R, hR⟩ : ∃ R, R = sameL a.kids b.kids := ⟨_, rfl⟩
    rw [← hR]
    have HR := Lib.hid hR
    clear hR
    go_enter Tryz.func30, Tryz.ntmps30
    go_wp2
    go_loopw [17] (fun v17 wr => ∃ (k : Nat), k ≤ m ∧ v17 = .int .i64 (k : Int) ∧ Hid (sameL (a.kids.drop k) (b.kids.drop k) = R) ∧ Hid (Below w.heap.size w wr)) (fun v17 _ => m - (intOf v17).toNat)
    case atStart => exact ⟨0, by omega, rfl, HR.out.symm, Below.refl _ _⟩
    case round =>
      obtain ⟨k, hk, rfl, hP, hB⟩ := hrel
      by_cases hlt : k < m
      · obtain ⟨ba, oa, rfl, A', m', c', hK⟩ := (ha.out.kept hB.out).kid hlt
        obtain ⟨bb, ob, rfl, B', n', d', hL⟩ := (hb.out.kept hB.out).kid hlt
        have hst := hP.out
        rw [drop_tr (by omega), drop_tr (L := b.kids) (by omega), sameL_cons] at hst
        have hkd := Tr.kid_lt (t := a) (j := k) (by omega)
        obtain ⟨q, hq⟩ : ∃ q, q = a.kids.getD k default := ⟨_, rfl⟩
        obtain ⟨r, hr⟩ : ∃ r, r = b.kids.getD k default := ⟨_, rfl⟩
        rw [← hq] at hK hst hkd
        rw [← hr] at hL hst
        have c0 := hK.c0
        have c1 := hK.c1
        have c2 := hK.c2
        have h1 := (Below.refl wr.heap.size wr).alloc (Nat.le_refl _) (.cells #[.int .i64 q.kind, .int .i64 q.num, .slice A' m' c'] 30)
        have e0 := cell_kept h1 hL.c0
        have e1 := cell_kept h1 hL.c1
        have e2 := cell_kept h1 hL.c2
        have h2 := h1.alloc (by simp) (.cells #[.int .i64 r.kind, .int .i64 r.num, .slice B' n' d'] 30)
        have CQ := Lib.hid (IH.out q r (by omega) A' m' c' B' n' d' _ (Lib.hid (hK.tr.kept h2)) (Lib.hid (hL.tr.kept h2)))
        have HB2 := Lib.hid (hB.out.trans (h2.mono hB.out.size))
        obtain ⟨y, hy⟩ : ∃ y, y = sameT q r := ⟨_, rfl⟩
        rw [← hy] at hst CQ
        have hlt2 : (k : Int) < (m : Int) := by omega
        have hk0 : (0 : Int) ≤ (k : Int) := by omega
        have HST := Lib.hid hst
        clear hK hL hq hr hy hst h1 h2
        cases y with
        | false =>
          go_wp2_with (go_at_call 11; refine CQ.out.mono ?_; rintro e w5 ⟨rfl, hb5⟩; have HB5 := Lib.hid (below_then HB2.out hb5); clear hb5)
          go_ret
          exact ⟨ret1b (by have := HST.out; rw [Bool.false_and] at this; exact this), HB5.out⟩
        | true =>
          go_wp2_with (go_at_call 11; refine CQ.out.mono ?_; rintro e w5 ⟨rfl, hb5⟩; have HB5 := Lib.hid (below_then HB2.out hb5); clear hb5)
          go_roundw
          case rel => exact ⟨k + 1, by omega, by go_num, by have := HST.out; rw [Bool.true_and] at this; exact this, HB5⟩
          case measure => simp [intOf]; omega
      · have e1 : a.kids.drop k = [] := List.drop_eq_nil_of_le (by omega)
        have e2 : b.kids.drop k = [] := List.drop_eq_nil_of_le (by omega)
        have hst := hP.out
        rw [e1, e2, sameL_nil] at hst
        have HST := Lib.hid hst
        clear hst e1 e2
        go_wp2
        go_ret
        exact ⟨ret1b HST.out, hB.out⟩
  · have HF := Lib.hid (sameL_len a.kids b.kids (by omega))
    have bm : ((m : Int) != (n : Int)) = true := by simp; omega
    clear hmn
    go_enter Tryz.func30, Tryz.ntmps30
    go_wp2
    go_ret
    exact ⟨ret1b HF.out.symm, Below.refl _ _⟩
set_option maxRecDepth 100000 in
set_option maxHeartbeats 2000000 in
theorem ex_Same_step (N : Nat) (IH : Hid (SameAt 11 N)) : SameAt 11 (N + 1) := by
  intro a b hN A m c B n d w ha hb
  obtain ⟨hl, hc, hc9⟩ := ha.out.len
  obtain ⟨hl2, hd, hd9⟩ := hb.out.len
  have HS := sameT_eq a b
  have hz : (w.alloc (.cells #[.int .i64 a.kind, .int .i64 a.num, .slice A m c] 30)).heap.size = w.heap.size + 1 := World.size_alloc _ _
  have hb1 := (Below.refl w.heap.size w).alloc (Nat.le_refl _) (.cells #[.int .i64 a.kind, .int .i64 a.num, .slice A m c] 30)
  have hb2 := hb1.alloc (by rw [hz]; omega) (.cells #[.int .i64 b.kind, .int .i64 b.num, .slice B n d] 30)
  have hk := (Below.refl _ (w.alloc (.cells #[.int .i64 a.kind, .int .i64 a.num, .slice A m c] 30))).alloc (Nat.le_refl _) (.cells #[.int .i64 b.kind, .int .i64 b.num, .slice B n d] 30)
  have x0 := cell_kept hk (cell_new w #[.int .i64 a.kind, .int .i64 a.num, .slice A m c] 30 0 _ rfl)
  have x1 := cell_kept hk (cell_new w #[.int .i64 a.kind, .int .i64 a.num, .slice A m c] 30 1 _ rfl)
  have x2 := cell_kept hk (cell_new w #[.int .i64 a.kind, .int .i64 a.num, .slice A m c] 30 2 _ rfl)
  have y0 := cell_new (w.alloc (.cells #[.int .i64 a.kind, .int .i64 a.num, .slice A m c] 30)) #[.int .i64 b.kind, .int .i64 b.num, .slice B n d] 30 0 _ rfl
  have y1 := cell_new (w.alloc (.cells #[.int .i64 a.kind, .int .i64 a.num, .slice A m c] 30)) #[.int .i64 b.kind, .int .i64 b.num, .slice B n d] 30 1 _ rfl
  have y2 := cell_new (w.alloc (.cells #[.int .i64 a.kind, .int .i64 a.num, .slice A m c] 30)) #[.int .i64 b.kind, .int .i64 b.num, .slice B n d] 30 2 _ rfl
  rw [hz] at y0 y1 y2
  obtain ⟨w1, hw1⟩ : ∃ w1, w1 = (w.alloc (.cells #[.int .i64 a.kind, .int .i64 a.num, .slice A m c] 30)).alloc (.cells #[.int .i64 b.kind, .int .i64 b.num, .slice B n d] 30) := ⟨_, rfl⟩
  obtain ⟨g, hg⟩ : ∃ g, g = w.heap.size := ⟨_, rfl⟩
  have HW1 := Lib.hid hw1
  have HG := Lib.hid hg
  rw [← hw1] at hb2 x0 x1 x2 y0 y1 y2
  rw [← hg] at x0 x1 x2 y0 y1 y2
  have HB1 := Lib.hid hb2
  have HTA := Lib.hid (ha.out.kept hb2)
  have HTB := Lib.hid (hb.out.kept hb2)
  clear hz hb1 hb2 hk hw1 hg
  have CF := ex_EqualFunc N IH a b hN A m c B n d w1 HTA HTB
  obtain ⟨R, hR⟩ : ∃ R, R = sameL a.kids b.kids := ⟨_, rfl⟩
  rw [← hR] at CF HS
  have CFH := Lib.hid CF
  have HSH := Lib.hid HS
  clear hR CF HS
  by_cases hk : a.kind = b.kind
  · have bk : (a.kind == b.kind) = true := by simpa using hk
    by_cases hn : a.num = b.num
    · have bn : (a.num == b.num) = true := by simpa using hn
      have HR : Hid (R = sameT a b) := Lib.hid (by rw [HSH.out, decide_eq_true hk, decide_eq_true hn]; simp)
      clear hk hn
      go_enter Tryz.func11, Tryz.ntmps11
      go_upto_region 1 with fail
      rw [← HG.out, ← HW1.out]
      go_wp2_with fail
      refine CFH.out.mono ?_
      rintro e w5 ⟨rfl, hb5⟩
      have HB5 := Lib.hid (below_then HB1.out hb5)
      clear hb5
      go_wp2_with fail
      go_ret
      exact ⟨ret1b HR.out, HB5.out⟩
    · have bn : (a.num == b.num) = false := by simpa using hn
      have HR : Hid (sameT a b = false) := Lib.hid (by rw [HSH.out, decide_eq_false hn]; simp)
      clear hk hn
      go_enter Tryz.func11, Tryz.ntmps11
      go_upto_region 1 with fail
      rw [← HG.out, ← HW1.out]
      go_wp2_with fail
      go_ret
      exact ⟨ret1b HR.out.symm, HB1.out⟩
  · have bk : (a.kind == b.kind) = false := by simpa using hk
    have HR : Hid (sameT a b = false) := Lib.hid (by rw [HSH.out, decide_eq_false hk]; simp)
    clear hk
    go_enter Tryz.func11, Tryz.ntmps11
    go_upto_region 1 with fail
    rw [← HG.out, ← HW1.out]
    go_wp2_with fail
    go_ret
    exact ⟨ret1b HR.out.symm, HB1.out⟩
theorem ex_Same : ∀ N, SameAt 11 N
  | 0 => fun a b hN _ _ _ _ _ _ _ _ _ => by have := a.sz_pos; omega
  | N + 1 => ex_Same_step N (Lib.hid (ex_Same N))
end Go.Proofs.YtkpjhjoopdbkaaaGreatDoor
namespace Go.Proofs.YtkpjhjoopdbkaaaGreatDoor
open Go.RowKit
end Go.Proofs.YtkpjhjoopdbkaaaGreatDoor
