/- Package slices: ContainsFunc at the closures of check. Printed by gen_ckA.py. -/
import Derived.Test.YtaeeblceedklnaaGreatDoorCkA
namespace Go.Proofs.YtaeeblceedklnaaGreatDoor
open Go.RowKit
/-- Is one of r, from k on, so? -/
def anyK (p : Nat → Bool) : Nat → Nat → Bool
  | _, 0 => false
  | k, r + 1 => p k || anyK p (k + 1) r
theorem anyK_step {p : Nat → Bool} {k n : Nat} (h : k < n) : anyK p k (n - k) = (p k || anyK p (k + 1) (n - (k + 1))) := by
  rw [show n - k = n - (k + 1) + 1 by omega, anyK]
theorem anyK_list {α : Type} [Inhabited α] (d : α) (q : α → Bool) : ∀ (l m : List α), anyK (fun j => q ((m ++ l).getD j d)) m.length l.length = l.any q
  | [], m => rfl
  | a :: l, m => by
    rw [List.length_cons, anyK, List.any_cons]
    have h1 : (m ++ a :: l).getD m.length d = a := by simp [List.getD]
    have h2 := anyK_list d q l (m ++ [a])
    rw [List.append_assoc, List.length_append] at h2
    rw [h1]
    congr 1
theorem anyK_any {α : Type} [Inhabited α] (d : α) (q : α → Bool) (l : List α) : anyK (fun j => q (l.getD j d)) 0 l.length = l.any q := anyK_list d q l []
set_option maxRecDepth 100000 in
set_option maxHeartbeats 2000000 in
theorem ck_index_str (p : Nat → Bool) (A : Option Addr) (n c : Nat) (L : List ByteArray) (w : World) (hn : n ≤ 9223372036854775807) (hS : Hid (Sl w (.slice A n c) n 1 (strCells L))) (hC : Hid (∀ k, k < n → ∀ W, Below w.heap.size w W → Calls Tryz.prog 95 #[.string (L.getD k ByteArray.empty)] W fun e w' => e = .returned (.bool (p k)) ∧ Below W.heap.size W w')) :
    Calls Tryz.prog 138 #[.slice A n c, .func (.func 95) #[] #[]] w fun e w' => (∃ x : Int, e = .returned (.int .i64 x) ∧ Hid (decide (0 ≤ x) = anyK p 0 n)) ∧ Below w.heap.size w w' := by
  obtain ⟨R, hR⟩ : ∃ R, R = anyK p 0 n := ⟨_, rfl⟩
  have HR := Lib.hid hR
  rw [← hR]
  clear hR
  go_enter Tryz.func138, Tryz.ntmps138
  go_wp2
  go_loopw [8] (fun v8 wr => ∃ (k : Nat), k ≤ n ∧ v8 = .int .i64 (k : Int) ∧ Hid (anyK p k (n - k) = R) ∧ Hid (Below w.heap.size w wr)) (fun v8 _ => n - (intOf v8).toNat)
  case atStart => exact ⟨0, by omega, rfl, HR.out.symm, Below.refl _ _⟩
  case round =>
    obtain ⟨k, hk, rfl, hP, hB⟩ := hrel
    by_cases hlt : k < n
    · obtain ⟨b, off, rfl, hE⟩ := (hS.out.below hB.out).str_at hlt
      have e0 := hE
      have cQ := hC.out k hlt wr hB.out
      have hst := hP.out
      rw [anyK_step hlt] at hst
      obtain ⟨y, hy⟩ : ∃ y, y = p k := ⟨_, rfl⟩
      rw [← hy] at hst cQ
      obtain ⟨q, hq⟩ : ∃ q, q = L.getD k ByteArray.empty := ⟨_, rfl⟩
      rw [← hq] at cQ e0
      have CQ := Lib.hid cQ
      have hlt2 : (k : Int) < (n : Int) := by omega
      have hk0 : (0 : Int) ≤ (k : Int) := by omega
      have HST := Lib.hid hst
      clear hq hy hst cQ hE
      cases y with
      | true =>
        go_wp2_with (go_at_call 95; refine CQ.out.mono ?_; rintro e w5 ⟨rfl, hb5⟩; have HB5 := Lib.hid (hB.out.trans (hb5.mono hB.out.size)); clear hb5)
        go_ret
        refine ⟨⟨_, rfl, ?_⟩, HB5.out⟩
        show decide (0 ≤ (k : Int)) = R
        rw [← HST.out]
        simp
      | false =>
        go_wp2_with (go_at_call 95; refine CQ.out.mono ?_; rintro e w5 ⟨rfl, hb5⟩; have HB5 := Lib.hid (hB.out.trans (hb5.mono hB.out.size)); clear hb5)
        go_roundw
        case rel => exact ⟨k + 1, by omega, by go_num, by have := HST.out; rw [Bool.false_or] at this; exact this, HB5⟩
        case measure => simp [intOf]; omega
    · have hst := hP.out
      rw [show n - k = 0 by omega, anyK] at hst
      have HST := Lib.hid hst
      clear hst
      go_wp2
      go_ret
      refine ⟨⟨_, rfl, ?_⟩, hB.out⟩
      show decide ((0 : Int) ≤ -1) = R
      rw [← HST.out]
      rfl
set_option maxRecDepth 100000 in
set_option maxHeartbeats 1000000 in
theorem ck_contains_str (p : Nat → Bool) (A : Option Addr) (n c : Nat) (L : List ByteArray) (w : World) (hn : n ≤ 9223372036854775807) (hS : Hid (Sl w (.slice A n c) n 1 (strCells L))) (hC : Hid (∀ k, k < n → ∀ W, Below w.heap.size w W → Calls Tryz.prog 95 #[.string (L.getD k ByteArray.empty)] W fun e w' => e = .returned (.bool (p k)) ∧ Below W.heap.size W w')) :
    Calls Tryz.prog 94 #[.slice A n c, .func (.func 95) #[] #[]] w fun e w' => e = .returned (.bool (anyK p 0 n)) ∧ Below w.heap.size w w' := by
  have cI := Lib.hid (ck_index_str p  A n c L w hn hS hC)
  go_enter Tryz.func94, Tryz.ntmps94
  go_wp2_with (go_at_call 138; refine cI.out.mono ?_; rintro e w5 ⟨⟨x, rfl, hx⟩, hb5⟩; have HB5 := Lib.hid hb5; clear hb5)
  go_ret
  exact ⟨ret1b hx.out, HB5.out⟩
set_option maxRecDepth 100000 in
set_option maxHeartbeats 2000000 in
theorem ck_index_pl (p : Nat → Bool) (g : Nat) (A : Option Addr) (n c : Nat) (L : List Pl) (w : World) (hn : n ≤ 9223372036854775807) (hS : Hid (SlOf 3 PlAt w A n c L)) (hC : Hid (∀ k, k < n → ∀ W, Below w.heap.size w W → ∀ (b o : Nat) (A' : Option Addr) (n' c' : Nat), Hid (PlAt' W b o A' n' c' (L.getD k default)) → Calls Tryz.prog 38 #[(L.getD k default).val A' n' c', .pointer (some ⟨g, 0, none⟩)] W fun e w' => e = .returned (.bool (p k)) ∧ Below W.heap.size W w')) :
    Calls Tryz.prog 98 #[.slice A n c, .func (.func 38) #[] #[.pointer (some ⟨g, 0, none⟩)]] w fun e w' => (∃ x : Int, e = .returned (.int .i64 x) ∧ Hid (decide (0 ≤ x) = anyK p 0 n)) ∧ Below w.heap.size w w' := by
  obtain ⟨R, hR⟩ : ∃ R, R = anyK p 0 n := ⟨_, rfl⟩
  have HR := Lib.hid hR
  rw [← hR]
  clear hR
  go_enter Tryz.func98, Tryz.ntmps98
  go_wp2
  go_loopw [8] (fun v8 wr => ∃ (k : Nat), k ≤ n ∧ v8 = .int .i64 (k : Int) ∧ Hid (anyK p k (n - k) = R) ∧ Hid (Below w.heap.size w wr)) (fun v8 _ => n - (intOf v8).toNat)
  case atStart => exact ⟨0, by omega, rfl, HR.out.symm, Below.refl _ _⟩
  case round =>
    obtain ⟨k, hk, rfl, hP, hB⟩ := hrel
    by_cases hlt : k < n
    · obtain ⟨b, off, rfl, A', n', c', hE⟩ := (hS.out.below PlAt.stays hB.out).at_ hlt
      have e0 := hE.c0
      have e1 := hE.c1
      have e2 := hE.c2
      have cQ := hC.out k hlt wr hB.out b _ A' n' c' (Lib.hid hE)
      have hst := hP.out
      rw [anyK_step hlt] at hst
      obtain ⟨y, hy⟩ : ∃ y, y = p k := ⟨_, rfl⟩
      rw [← hy] at hst cQ
      obtain ⟨q, hq⟩ : ∃ q, q = L.getD k default := ⟨_, rfl⟩
      rw [← hq] at cQ e0 e1
      have CQ := Lib.hid cQ
      have hlt2 : (k : Int) < (n : Int) := by omega
      have hk0 : (0 : Int) ≤ (k : Int) := by omega
      have HST := Lib.hid hst
      clear hq hy hst cQ hE
      cases y with
      | true =>
        go_wp2_with (go_at_call 38; refine CQ.out.mono ?_; rintro e w5 ⟨rfl, hb5⟩; have HB5 := Lib.hid (hB.out.trans (hb5.mono hB.out.size)); clear hb5)
        go_ret
        refine ⟨⟨_, rfl, ?_⟩, HB5.out⟩
        show decide (0 ≤ (k : Int)) = R
        rw [← HST.out]
        simp
      | false =>
        go_wp2_with (go_at_call 38; refine CQ.out.mono ?_; rintro e w5 ⟨rfl, hb5⟩; have HB5 := Lib.hid (hB.out.trans (hb5.mono hB.out.size)); clear hb5)
        go_roundw
        case rel => exact ⟨k + 1, by omega, by go_num, by have := HST.out; rw [Bool.false_or] at this; exact this, HB5⟩
        case measure => simp [intOf]; omega
    · have hst := hP.out
      rw [show n - k = 0 by omega, anyK] at hst
      have HST := Lib.hid hst
      clear hst
      go_wp2
      go_ret
      refine ⟨⟨_, rfl, ?_⟩, hB.out⟩
      show decide ((0 : Int) ≤ -1) = R
      rw [← HST.out]
      rfl
set_option maxRecDepth 100000 in
set_option maxHeartbeats 1000000 in
theorem ck_contains_pl (p : Nat → Bool) (g : Nat) (A : Option Addr) (n c : Nat) (L : List Pl) (w : World) (hn : n ≤ 9223372036854775807) (hS : Hid (SlOf 3 PlAt w A n c L)) (hC : Hid (∀ k, k < n → ∀ W, Below w.heap.size w W → ∀ (b o : Nat) (A' : Option Addr) (n' c' : Nat), Hid (PlAt' W b o A' n' c' (L.getD k default)) → Calls Tryz.prog 38 #[(L.getD k default).val A' n' c', .pointer (some ⟨g, 0, none⟩)] W fun e w' => e = .returned (.bool (p k)) ∧ Below W.heap.size W w')) :
    Calls Tryz.prog 42 #[.slice A n c, .func (.func 38) #[] #[.pointer (some ⟨g, 0, none⟩)]] w fun e w' => e = .returned (.bool (anyK p 0 n)) ∧ Below w.heap.size w w' := by
  have cI := Lib.hid (ck_index_pl p g A n c L w hn hS hC)
  go_enter Tryz.func42, Tryz.ntmps42
  go_wp2_with (go_at_call 98; refine cI.out.mono ?_; rintro e w5 ⟨⟨x, rfl, hx⟩, hb5⟩; have HB5 := Lib.hid hb5; clear hb5)
  go_ret
  exact ⟨ret1b hx.out, HB5.out⟩
set_option maxRecDepth 100000 in
set_option maxHeartbeats 2000000 in
theorem ck_index_pair (p : Nat → Bool) (g : Nat) (A : Option Addr) (n c : Nat) (L : List (Int × Int)) (w : World) (hn : n ≤ 9223372036854775807) (hS : Hid (Sl w (.slice A n c) n 2 (pairCells L))) (hC : Hid (∀ k, k < n → ∀ W, Below w.heap.size w W → Calls Tryz.prog 50 #[.agg #[.int .i64 (L.getD k (0, 0)).1, .int .i64 (L.getD k (0, 0)).2], .pointer (some ⟨g, 0, none⟩)] W fun e w' => e = .returned (.bool (p k)) ∧ Below W.heap.size W w')) :
    Calls Tryz.prog 100 #[.slice A n c, .func (.func 50) #[] #[.pointer (some ⟨g, 0, none⟩)]] w fun e w' => (∃ x : Int, e = .returned (.int .i64 x) ∧ Hid (decide (0 ≤ x) = anyK p 0 n)) ∧ Below w.heap.size w w' := by
  obtain ⟨R, hR⟩ : ∃ R, R = anyK p 0 n := ⟨_, rfl⟩
  have HR := Lib.hid hR
  rw [← hR]
  clear hR
  go_enter Tryz.func100, Tryz.ntmps100
  go_wp2
  go_loopw [8] (fun v8 wr => ∃ (k : Nat), k ≤ n ∧ v8 = .int .i64 (k : Int) ∧ Hid (anyK p k (n - k) = R) ∧ Hid (Below w.heap.size w wr)) (fun v8 _ => n - (intOf v8).toNat)
  case atStart => exact ⟨0, by omega, rfl, HR.out.symm, Below.refl _ _⟩
  case round =>
    obtain ⟨k, hk, rfl, hP, hB⟩ := hrel
    by_cases hlt : k < n
    · obtain ⟨b, off, rfl, hE0, hE1⟩ := (hS.out.below hB.out).pair_at hlt
      have e0 := hE0
      have e1 := hE1
      have cQ := hC.out k hlt wr hB.out
      have hst := hP.out
      rw [anyK_step hlt] at hst
      obtain ⟨y, hy⟩ : ∃ y, y = p k := ⟨_, rfl⟩
      rw [← hy] at hst cQ
      obtain ⟨q, hq⟩ : ∃ q, q = L.getD k (0, 0) := ⟨_, rfl⟩
      rw [← hq] at cQ e0 e1
      have CQ := Lib.hid cQ
      have hlt2 : (k : Int) < (n : Int) := by omega
      have hk0 : (0 : Int) ≤ (k : Int) := by omega
      have HST := Lib.hid hst
      clear hq hy hst cQ hE0 hE1
      cases y with
      | true =>
        go_wp2_with (go_at_call 50; refine CQ.out.mono ?_; rintro e w5 ⟨rfl, hb5⟩; have HB5 := Lib.hid (hB.out.trans (hb5.mono hB.out.size)); clear hb5)
        go_ret
        refine ⟨⟨_, rfl, ?_⟩, HB5.out⟩
        show decide (0 ≤ (k : Int)) = R
        rw [← HST.out]
        simp
      | false =>
        go_wp2_with (go_at_call 50; refine CQ.out.mono ?_; rintro e w5 ⟨rfl, hb5⟩; have HB5 := Lib.hid (hB.out.trans (hb5.mono hB.out.size)); clear hb5)
        go_roundw
        case rel => exact ⟨k + 1, by omega, by go_num, by have := HST.out; rw [Bool.false_or] at this; exact this, HB5⟩
        case measure => simp [intOf]; omega
    · have hst := hP.out
      rw [show n - k = 0 by omega, anyK] at hst
      have HST := Lib.hid hst
      clear hst
      go_wp2
      go_ret
      refine ⟨⟨_, rfl, ?_⟩, hB.out⟩
      show decide ((0 : Int) ≤ -1) = R
      rw [← HST.out]
      rfl
set_option maxRecDepth 100000 in
set_option maxHeartbeats 1000000 in
theorem ck_contains_pair (p : Nat → Bool) (g : Nat) (A : Option Addr) (n c : Nat) (L : List (Int × Int)) (w : World) (hn : n ≤ 9223372036854775807) (hS : Hid (Sl w (.slice A n c) n 2 (pairCells L))) (hC : Hid (∀ k, k < n → ∀ W, Below w.heap.size w W → Calls Tryz.prog 50 #[.agg #[.int .i64 (L.getD k (0, 0)).1, .int .i64 (L.getD k (0, 0)).2], .pointer (some ⟨g, 0, none⟩)] W fun e w' => e = .returned (.bool (p k)) ∧ Below W.heap.size W w')) :
    Calls Tryz.prog 49 #[.slice A n c, .func (.func 50) #[] #[.pointer (some ⟨g, 0, none⟩)]] w fun e w' => e = .returned (.bool (anyK p 0 n)) ∧ Below w.heap.size w w' := by
  have cI := Lib.hid (ck_index_pair p g A n c L w hn hS hC)
  go_enter Tryz.func49, Tryz.ntmps49
  go_wp2_with (go_at_call 100; refine cI.out.mono ?_; rintro e w5 ⟨⟨x, rfl, hx⟩, hb5⟩; have HB5 := Lib.hid hb5; clear hb5)
  go_ret
  exact ⟨ret1b hx.out, HB5.out⟩
set_option maxRecDepth 100000 in
set_option maxHeartbeats 2000000 in
theorem ck_index_tk (p : Nat → Bool) (g : Nat) (A : Option Addr) (n c : Nat) (L : List Tk) (w : World) (hn : n ≤ 9223372036854775807) (hS : Hid (SlOf 14 TkAt w A n c L)) (hC : Hid (∀ k, k < n → ∀ W, Below w.heap.size w W → ∀ (b o : Nat) (Av : Option Addr) (nv cv : Nat) (Ag : Option Addr) (mg cg : Nat) (Ai : Option Addr) (ni ci : Nat) (Ao : Option Addr) (no co : Nat) (Ac : Option Addr) (nc cc : Nat), Hid (TkAt' W b o Av nv cv Ag mg cg Ai ni ci Ao no co Ac nc cc (L.getD k default)) → Calls Tryz.prog 56 #[(L.getD k default).val Av nv cv Ag mg cg Ai ni ci Ao no co Ac nc cc, .pointer (some ⟨g, 0, none⟩)] W fun e w' => e = .returned (.bool (p k)) ∧ Below W.heap.size W w')) :
    Calls Tryz.prog 104 #[.slice A n c, .func (.func 56) #[] #[.pointer (some ⟨g, 0, none⟩)]] w fun e w' => (∃ x : Int, e = .returned (.int .i64 x) ∧ Hid (decide (0 ≤ x) = anyK p 0 n)) ∧ Below w.heap.size w w' := by
  obtain ⟨R, hR⟩ : ∃ R, R = anyK p 0 n := ⟨_, rfl⟩
  have HR := Lib.hid hR
  rw [← hR]
  clear hR
  go_enter Tryz.func104, Tryz.ntmps104
  go_wp2
  go_loopw [8] (fun v8 wr => ∃ (k : Nat), k ≤ n ∧ v8 = .int .i64 (k : Int) ∧ Hid (anyK p k (n - k) = R) ∧ Hid (Below w.heap.size w wr)) (fun v8 _ => n - (intOf v8).toNat)
  case atStart => exact ⟨0, by omega, rfl, HR.out.symm, Below.refl _ _⟩
  case round =>
    obtain ⟨k, hk, rfl, hP, hB⟩ := hrel
    by_cases hlt : k < n
    · obtain ⟨b, off, rfl, Av, nv, cv, Ag, mg, cg, Ai, ni, ci, Ao, no, co, Ac, nc, cc, hE⟩ := (hS.out.below TkAt.stays hB.out).at_ hlt
      have e0 := hE.c0
      have e1 := hE.c1
      have e2 := hE.c2
      have e3 := hE.c3
      have e4 := hE.c4
      have e5 := hE.c5
      have e6 := hE.c6
      have e7 := hE.c7
      have e8 := hE.c8
      have e9 := hE.c9
      have e10 := hE.c10
      have e11 := hE.c11
      have e12 := hE.c12
      have e13 := hE.c13
      have cQ := hC.out k hlt wr hB.out b _ Av nv cv Ag mg cg Ai ni ci Ao no co Ac nc cc (Lib.hid hE)
      have hst := hP.out
      rw [anyK_step hlt] at hst
      obtain ⟨y, hy⟩ : ∃ y, y = p k := ⟨_, rfl⟩
      rw [← hy] at hst cQ
      obtain ⟨q, hq⟩ : ∃ q, q = L.getD k default := ⟨_, rfl⟩
      rw [← hq] at cQ e0 e2 e3 e5 e6 e10 e11 e12 e13
      have CQ := Lib.hid cQ
      have hlt2 : (k : Int) < (n : Int) := by omega
      have hk0 : (0 : Int) ≤ (k : Int) := by omega
      have HST := Lib.hid hst
      clear hq hy hst cQ hE
      cases y with
      | true =>
        go_wp2_with (go_at_call 56; refine CQ.out.mono ?_; rintro e w5 ⟨rfl, hb5⟩; have HB5 := Lib.hid (hB.out.trans (hb5.mono hB.out.size)); clear hb5)
        go_ret
        refine ⟨⟨_, rfl, ?_⟩, HB5.out⟩
        show decide (0 ≤ (k : Int)) = R
        rw [← HST.out]
        simp
      | false =>
        go_wp2_with (go_at_call 56; refine CQ.out.mono ?_; rintro e w5 ⟨rfl, hb5⟩; have HB5 := Lib.hid (hB.out.trans (hb5.mono hB.out.size)); clear hb5)
        go_roundw
        case rel => exact ⟨k + 1, by omega, by go_num, by have := HST.out; rw [Bool.false_or] at this; exact this, HB5⟩
        case measure => simp [intOf]; omega
    · have hst := hP.out
      rw [show n - k = 0 by omega, anyK] at hst
      have HST := Lib.hid hst
      clear hst
      go_wp2
      go_ret
      refine ⟨⟨_, rfl, ?_⟩, hB.out⟩
      show decide ((0 : Int) ≤ -1) = R
      rw [← HST.out]
      rfl
set_option maxRecDepth 100000 in
set_option maxHeartbeats 1000000 in
theorem ck_contains_tk (p : Nat → Bool) (g : Nat) (A : Option Addr) (n c : Nat) (L : List Tk) (w : World) (hn : n ≤ 9223372036854775807) (hS : Hid (SlOf 14 TkAt w A n c L)) (hC : Hid (∀ k, k < n → ∀ W, Below w.heap.size w W → ∀ (b o : Nat) (Av : Option Addr) (nv cv : Nat) (Ag : Option Addr) (mg cg : Nat) (Ai : Option Addr) (ni ci : Nat) (Ao : Option Addr) (no co : Nat) (Ac : Option Addr) (nc cc : Nat), Hid (TkAt' W b o Av nv cv Ag mg cg Ai ni ci Ao no co Ac nc cc (L.getD k default)) → Calls Tryz.prog 56 #[(L.getD k default).val Av nv cv Ag mg cg Ai ni ci Ao no co Ac nc cc, .pointer (some ⟨g, 0, none⟩)] W fun e w' => e = .returned (.bool (p k)) ∧ Below W.heap.size W w')) :
    Calls Tryz.prog 59 #[.slice A n c, .func (.func 56) #[] #[.pointer (some ⟨g, 0, none⟩)]] w fun e w' => e = .returned (.bool (anyK p 0 n)) ∧ Below w.heap.size w w' := by
  have cI := Lib.hid (ck_index_tk p g A n c L w hn hS hC)
  go_enter Tryz.func59, Tryz.ntmps59
  go_wp2_with (go_at_call 104; refine cI.out.mono ?_; rintro e w5 ⟨⟨x, rfl, hx⟩, hb5⟩; have HB5 := Lib.hid hb5; clear hb5)
  go_ret
  exact ⟨ret1b hx.out, HB5.out⟩
set_option maxRecDepth 100000 in
set_option maxHeartbeats 2000000 in
theorem ck_index_vr (p : Nat → Bool) (g : Nat) (A : Option Addr) (n c : Nat) (L : List Vr) (w : World) (hn : n ≤ 9223372036854775807) (hS : Hid (SlOf 2 VrAt w A n c L)) (hC : Hid (∀ k, k < n → ∀ W, Below w.heap.size w W → ∀ (b o : Nat), Hid (VrAt W b o (L.getD k default)) → Calls Tryz.prog 108 #[(L.getD k default).val, .pointer (some ⟨g, 0, none⟩)] W fun e w' => e = .returned (.bool (p k)) ∧ Below W.heap.size W w')) :
    Calls Tryz.prog 142 #[.slice A n c, .func (.func 108) #[] #[.pointer (some ⟨g, 0, none⟩)]] w fun e w' => (∃ x : Int, e = .returned (.int .i64 x) ∧ Hid (decide (0 ≤ x) = anyK p 0 n)) ∧ Below w.heap.size w w' := by
  obtain ⟨R, hR⟩ : ∃ R, R = anyK p 0 n := ⟨_, rfl⟩
  have HR := Lib.hid hR
  rw [← hR]
  clear hR
  go_enter Tryz.func142, Tryz.ntmps142
  go_wp2
  go_loopw [8] (fun v8 wr => ∃ (k : Nat), k ≤ n ∧ v8 = .int .i64 (k : Int) ∧ Hid (anyK p k (n - k) = R) ∧ Hid (Below w.heap.size w wr)) (fun v8 _ => n - (intOf v8).toNat)
  case atStart => exact ⟨0, by omega, rfl, HR.out.symm, Below.refl _ _⟩
  case round =>
    obtain ⟨k, hk, rfl, hP, hB⟩ := hrel
    by_cases hlt : k < n
    · obtain ⟨b, off, rfl, hE⟩ := (hS.out.below VrAt.stays hB.out).at_ hlt
      have e0 := hE.c0
      have e1 := hE.c1
      have cQ := hC.out k hlt wr hB.out b _  (Lib.hid hE)
      have hst := hP.out
      rw [anyK_step hlt] at hst
      obtain ⟨y, hy⟩ : ∃ y, y = p k := ⟨_, rfl⟩
      rw [← hy] at hst cQ
      obtain ⟨q, hq⟩ : ∃ q, q = L.getD k default := ⟨_, rfl⟩
      rw [← hq] at cQ e0 e1
      have CQ := Lib.hid cQ
      have hlt2 : (k : Int) < (n : Int) := by omega
      have hk0 : (0 : Int) ≤ (k : Int) := by omega
      have HST := Lib.hid hst
      clear hq hy hst cQ hE
      cases y with
      | true =>
        go_wp2_with (go_at_call 108; refine CQ.out.mono ?_; rintro e w5 ⟨rfl, hb5⟩; have HB5 := Lib.hid (hB.out.trans (hb5.mono hB.out.size)); clear hb5)
        go_ret
        refine ⟨⟨_, rfl, ?_⟩, HB5.out⟩
        show decide (0 ≤ (k : Int)) = R
        rw [← HST.out]
        simp
      | false =>
        go_wp2_with (go_at_call 108; refine CQ.out.mono ?_; rintro e w5 ⟨rfl, hb5⟩; have HB5 := Lib.hid (hB.out.trans (hb5.mono hB.out.size)); clear hb5)
        go_roundw
        case rel => exact ⟨k + 1, by omega, by go_num, by have := HST.out; rw [Bool.false_or] at this; exact this, HB5⟩
        case measure => simp [intOf]; omega
    · have hst := hP.out
      rw [show n - k = 0 by omega, anyK] at hst
      have HST := Lib.hid hst
      clear hst
      go_wp2
      go_ret
      refine ⟨⟨_, rfl, ?_⟩, hB.out⟩
      show decide ((0 : Int) ≤ -1) = R
      rw [← HST.out]
      rfl
set_option maxRecDepth 100000 in
set_option maxHeartbeats 1000000 in
theorem ck_contains_vr (p : Nat → Bool) (g : Nat) (A : Option Addr) (n c : Nat) (L : List Vr) (w : World) (hn : n ≤ 9223372036854775807) (hS : Hid (SlOf 2 VrAt w A n c L)) (hC : Hid (∀ k, k < n → ∀ W, Below w.heap.size w W → ∀ (b o : Nat), Hid (VrAt W b o (L.getD k default)) → Calls Tryz.prog 108 #[(L.getD k default).val, .pointer (some ⟨g, 0, none⟩)] W fun e w' => e = .returned (.bool (p k)) ∧ Below W.heap.size W w')) :
    Calls Tryz.prog 111 #[.slice A n c, .func (.func 108) #[] #[.pointer (some ⟨g, 0, none⟩)]] w fun e w' => e = .returned (.bool (anyK p 0 n)) ∧ Below w.heap.size w w' := by
  have cI := Lib.hid (ck_index_vr p g A n c L w hn hS hC)
  go_enter Tryz.func111, Tryz.ntmps111
  go_wp2_with (go_at_call 142; refine cI.out.mono ?_; rintro e w5 ⟨⟨x, rfl, hx⟩, hb5⟩; have HB5 := Lib.hid hb5; clear hb5)
  go_ret
  exact ⟨ret1b hx.out, HB5.out⟩
set_option maxRecDepth 100000 in
set_option maxHeartbeats 2000000 in
theorem ck_index_ar (p : Nat → Bool) (g : Nat) (A : Option Addr) (n c : Nat) (L : List Ar) (w : World) (hn : n ≤ 9223372036854775807) (hS : Hid (SlOf 4 ArAt w A n c L)) (hC : Hid (∀ k, k < n → ∀ W, Below w.heap.size w W → ∀ (b o : Nat) (A' : Option Addr) (n' c' : Nat), Hid (ArAt' W b o A' n' c' (L.getD k default)) → Calls Tryz.prog 137 #[(L.getD k default).val A' n' c', .pointer (some ⟨g, 0, none⟩)] W fun e w' => e = .returned (.bool (p k)) ∧ Below W.heap.size W w')) :
    Calls Tryz.prog 153 #[.slice A n c, .func (.func 137) #[] #[.pointer (some ⟨g, 0, none⟩)]] w fun e w' => (∃ x : Int, e = .returned (.int .i64 x) ∧ Hid (decide (0 ≤ x) = anyK p 0 n)) ∧ Below w.heap.size w w' := by
  obtain ⟨R, hR⟩ : ∃ R, R = anyK p 0 n := ⟨_, rfl⟩
  have HR := Lib.hid hR
  rw [← hR]
  clear hR
  go_enter Tryz.func153, Tryz.ntmps153
  go_wp2
  go_loopw [8] (fun v8 wr => ∃ (k : Nat), k ≤ n ∧ v8 = .int .i64 (k : Int) ∧ Hid (anyK p k (n - k) = R) ∧ Hid (Below w.heap.size w wr)) (fun v8 _ => n - (intOf v8).toNat)
  case atStart => exact ⟨0, by omega, rfl, HR.out.symm, Below.refl _ _⟩
  case round =>
    obtain ⟨k, hk, rfl, hP, hB⟩ := hrel
    by_cases hlt : k < n
    · obtain ⟨b, off, rfl, A', n', c', hE⟩ := (hS.out.below ArAt.stays hB.out).at_ hlt
      have e0 := hE.c0
      have e1 := hE.c1
      have e2 := hE.c2
      have e3 := hE.c3
      have cQ := hC.out k hlt wr hB.out b _ A' n' c' (Lib.hid hE)
      have hst := hP.out
      rw [anyK_step hlt] at hst
      obtain ⟨y, hy⟩ : ∃ y, y = p k := ⟨_, rfl⟩
      rw [← hy] at hst cQ
      obtain ⟨q, hq⟩ : ∃ q, q = L.getD k default := ⟨_, rfl⟩
      rw [← hq] at cQ e0 e1 e2
      have CQ := Lib.hid cQ
      have hlt2 : (k : Int) < (n : Int) := by omega
      have hk0 : (0 : Int) ≤ (k : Int) := by omega
      have HST := Lib.hid hst
      clear hq hy hst cQ hE
      cases y with
      | true =>
        go_wp2_with (go_at_call 137; refine CQ.out.mono ?_; rintro e w5 ⟨rfl, hb5⟩; have HB5 := Lib.hid (hB.out.trans (hb5.mono hB.out.size)); clear hb5)
        go_ret
        refine ⟨⟨_, rfl, ?_⟩, HB5.out⟩
        show decide (0 ≤ (k : Int)) = R
        rw [← HST.out]
        simp
      | false =>
        go_wp2_with (go_at_call 137; refine CQ.out.mono ?_; rintro e w5 ⟨rfl, hb5⟩; have HB5 := Lib.hid (hB.out.trans (hb5.mono hB.out.size)); clear hb5)
        go_roundw
        case rel => exact ⟨k + 1, by omega, by go_num, by have := HST.out; rw [Bool.false_or] at this; exact this, HB5⟩
        case measure => simp [intOf]; omega
    · have hst := hP.out
      rw [show n - k = 0 by omega, anyK] at hst
      have HST := Lib.hid hst
      clear hst
      go_wp2
      go_ret
      refine ⟨⟨_, rfl, ?_⟩, hB.out⟩
      show decide ((0 : Int) ≤ -1) = R
      rw [← HST.out]
      rfl
set_option maxRecDepth 100000 in
set_option maxHeartbeats 1000000 in
theorem ck_contains_ar (p : Nat → Bool) (g : Nat) (A : Option Addr) (n c : Nat) (L : List Ar) (w : World) (hn : n ≤ 9223372036854775807) (hS : Hid (SlOf 4 ArAt w A n c L)) (hC : Hid (∀ k, k < n → ∀ W, Below w.heap.size w W → ∀ (b o : Nat) (A' : Option Addr) (n' c' : Nat), Hid (ArAt' W b o A' n' c' (L.getD k default)) → Calls Tryz.prog 137 #[(L.getD k default).val A' n' c', .pointer (some ⟨g, 0, none⟩)] W fun e w' => e = .returned (.bool (p k)) ∧ Below W.heap.size W w')) :
    Calls Tryz.prog 136 #[.slice A n c, .func (.func 137) #[] #[.pointer (some ⟨g, 0, none⟩)]] w fun e w' => e = .returned (.bool (anyK p 0 n)) ∧ Below w.heap.size w w' := by
  have cI := Lib.hid (ck_index_ar p g A n c L w hn hS hC)
  go_enter Tryz.func136, Tryz.ntmps136
  go_wp2_with (go_at_call 153; refine cI.out.mono ?_; rintro e w5 ⟨⟨x, rfl, hx⟩, hb5⟩; have HB5 := Lib.hid hb5; clear hb5)
  go_ret
  exact ⟨ret1b hx.out, HB5.out⟩
end Go.Proofs.YtaeeblceedklnaaGreatDoor
