/- Package check: each at its closures. Printed by gen_ckA.py. -/
import Derived.Test.YtaeeblceedklnaaGreatDoorCkI
namespace Go.Proofs.YtaeeblceedklnaaGreatDoor
open Go.RowKit
set_option maxRecDepth 100000 in
set_option maxHeartbeats 2000000 in
theorem ck_each_col (f : Nat → Int) (g : Nat) (A : Option Addr) (n c : Nat) (L : List Col) (w : World) (hn : n ≤ 9223372036854775807) (hS : Hid (Cols w A n c L)) (hC : Hid (∀ k, k < n → ∀ W, Below w.heap.size w W → ∀ (b o : Nat) (A' : Option Addr) (n' c' : Nat), Hid (ColAt W b o A' n' c' (L.getD k default)) → Calls Tryz.prog 92 #[.int .i64 (k : Int), (L.getD k default).val A' n' c', .pointer (some ⟨g, 0, none⟩)] W fun e w' => e = .returned (.int .i64 (f k)) ∧ Below W.heap.size W w')) :
    Calls Tryz.prog 91 #[.slice A n c, .func (.func 92) #[] #[.pointer (some ⟨g, 0, none⟩)]] w fun e w' => e = .returned (.tuple #[.int .i64 (eachE f n).1, .int .i64 (eachE f n).2]) ∧ Below w.heap.size w w' := by
  obtain ⟨R, hR⟩ : ∃ R, R = eachE f n := ⟨_, rfl⟩
  have HR := Lib.hid hR
  rw [← hR]
  clear hR
  obtain ⟨R1, R2⟩ := R
  go_enter Tryz.func91, Tryz.ntmps91
  go_wp2
  go_loopw [11] (fun v11 wr => ∃ (k : Nat), k ≤ n ∧ v11 = .int .i64 (k : Int) ∧ Hid (seekE f k (n - k) = (R1, R2)) ∧ Hid (Below w.heap.size w wr)) (fun v11 _ => n - (intOf v11).toNat)
  case atStart => exact ⟨0, by omega, rfl, HR.out.symm, Below.refl _ _⟩
  case round =>
    obtain ⟨k, hk, rfl, hP, hB⟩ := hrel
    by_cases hlt : k < n
    · obtain ⟨b, off, rfl, A', n', c', hE⟩ := (hS.out.below hB.out).at_ hlt
      have e0 := hE.c0
      have e1 := hE.c1
      have e2 := hE.c2
      have e3 := hE.c3
      have e4 := hE.c4
      have e5 := hE.c5
      have e6 := hE.c6
      have hbx := hB.out.alloc hB.out.size (.cells #[.string (L.getD k default).name, .int .i64 (L.getD k default).kind, .int .i64 (L.getD k default).lo, .int .i64 (L.getD k default).hi, .slice A' n' c', .int .i64 (L.getD k default).first, .int .i64 (L.getD k default).then_] 62)
      have cQ := hC.out k hlt _ hbx b _ A' n' c' (Lib.hid (ColAt.below hE ((Below.refl _ wr).alloc (Nat.le_refl _) (.cells #[.string (L.getD k default).name, .int .i64 (L.getD k default).kind, .int .i64 (L.getD k default).lo, .int .i64 (L.getD k default).hi, .slice A' n' c', .int .i64 (L.getD k default).first, .int .i64 (L.getD k default).then_] 62))))
      have hst := hP.out
      rw [show n - k = n - (k + 1) + 1 by omega, seekE] at hst
      obtain ⟨y, hy⟩ : ∃ y, y = f k := ⟨_, rfl⟩
      rw [← hy] at hst cQ
      obtain ⟨q, hq⟩ : ∃ q, q = L.getD k default := ⟨_, rfl⟩
      rw [← hq] at cQ hbx e0 e1 e2 e3 e5 e6
      have CQ := Lib.hid cQ
      have HBX := Lib.hid hbx
      have hlt2 : (k : Int) < (n : Int) := by omega
      have hk0 : (0 : Int) ≤ (k : Int) := by omega
      clear hq hy cQ hbx hE
      by_cases h0 : y = 0
      · subst h0
        rw [if_pos rfl] at hst
        have HST := Lib.hid hst
        clear hst
        go_wp2_with (go_at_call 92; refine CQ.out.mono ?_; rintro e w5 ⟨rfl, hb5⟩; have HB5 := Lib.hid (HBX.out.trans (hb5.mono HBX.out.size)); clear hb5)
        go_roundw
        case rel => exact ⟨k + 1, by omega, by go_num, HST, HB5⟩
        case measure => simp [intOf]; omega
      · rw [if_neg h0] at hst
        injection hst with h1 h2
        have H1 := Lib.hid h1
        have H2 := Lib.hid h2
        have y0 : (y == 0) = false := by simpa using h0
        have y1 : (y != 0) = true := by simpa using h0
        clear h1 h2 h0
        go_wp2_with (go_at_call 92; refine CQ.out.mono ?_; rintro e w5 ⟨rfl, hb5⟩; have HB5 := Lib.hid (HBX.out.trans (hb5.mono HBX.out.size)); clear hb5)
        go_ret2
        exact ⟨ret2 H1.out H2.out, HB5.out⟩
    · have hst := hP.out
      rw [show n - k = 0 by omega, seekE] at hst
      injection hst with h1 h2
      have H1 := Lib.hid h1
      have H2 := Lib.hid h2
      clear h1 h2
      go_wp2
      go_ret2
      exact ⟨ret2 H1.out H2.out, hB.out⟩
set_option maxRecDepth 100000 in
set_option maxHeartbeats 2000000 in
theorem ck_each_pl (f : Nat → Int) (g : Nat) (A : Option Addr) (n c : Nat) (L : List Pl) (w : World) (hn : n ≤ 9223372036854775807) (hS : Hid (SlOf 3 PlAt w A n c L)) (hC : Hid (∀ k, k < n → ∀ W, Below w.heap.size w W → ∀ (b o : Nat) (A' : Option Addr) (n' c' : Nat), Hid (PlAt' W b o A' n' c' (L.getD k default)) → Calls Tryz.prog 33 #[.int .i64 (k : Int), (L.getD k default).val A' n' c', .pointer (some ⟨g, 0, none⟩)] W fun e w' => e = .returned (.int .i64 (f k)) ∧ Below W.heap.size W w')) :
    Calls Tryz.prog 32 #[.slice A n c, .func (.func 33) #[] #[.pointer (some ⟨g, 0, none⟩)]] w fun e w' => e = .returned (.tuple #[.int .i64 (eachE f n).1, .int .i64 (eachE f n).2]) ∧ Below w.heap.size w w' := by
  obtain ⟨R, hR⟩ : ∃ R, R = eachE f n := ⟨_, rfl⟩
  have HR := Lib.hid hR
  rw [← hR]
  clear hR
  obtain ⟨R1, R2⟩ := R
  go_enter Tryz.func32, Tryz.ntmps32
  go_wp2
  go_loopw [11] (fun v11 wr => ∃ (k : Nat), k ≤ n ∧ v11 = .int .i64 (k : Int) ∧ Hid (seekE f k (n - k) = (R1, R2)) ∧ Hid (Below w.heap.size w wr)) (fun v11 _ => n - (intOf v11).toNat)
  case atStart => exact ⟨0, by omega, rfl, HR.out.symm, Below.refl _ _⟩
  case round =>
    obtain ⟨k, hk, rfl, hP, hB⟩ := hrel
    by_cases hlt : k < n
    · obtain ⟨b, off, rfl, A', n', c', hE⟩ := (hS.out.below PlAt.stays hB.out).at_ hlt
      have e0 := hE.c0
      have e1 := hE.c1
      have e2 := hE.c2
      have hbx := hB.out.alloc hB.out.size (.cells #[.string (L.getD k default).name, .int .i64 (L.getD k default).colour, .slice A' n' c'] 45)
      have cQ := hC.out k hlt _ hbx b _ A' n' c' (Lib.hid (PlAt'.below hE ((Below.refl _ wr).alloc (Nat.le_refl _) (.cells #[.string (L.getD k default).name, .int .i64 (L.getD k default).colour, .slice A' n' c'] 45))))
      have hst := hP.out
      rw [show n - k = n - (k + 1) + 1 by omega, seekE] at hst
      obtain ⟨y, hy⟩ : ∃ y, y = f k := ⟨_, rfl⟩
      rw [← hy] at hst cQ
      obtain ⟨q, hq⟩ : ∃ q, q = L.getD k default := ⟨_, rfl⟩
      rw [← hq] at cQ hbx e0 e1
      have CQ := Lib.hid cQ
      have HBX := Lib.hid hbx
      have hlt2 : (k : Int) < (n : Int) := by omega
      have hk0 : (0 : Int) ≤ (k : Int) := by omega
      clear hq hy cQ hbx hE
      by_cases h0 : y = 0
      · subst h0
        rw [if_pos rfl] at hst
        have HST := Lib.hid hst
        clear hst
        go_wp2_with (go_at_call 33; refine CQ.out.mono ?_; rintro e w5 ⟨rfl, hb5⟩; have HB5 := Lib.hid (HBX.out.trans (hb5.mono HBX.out.size)); clear hb5)
        go_roundw
        case rel => exact ⟨k + 1, by omega, by go_num, HST, HB5⟩
        case measure => simp [intOf]; omega
      · rw [if_neg h0] at hst
        injection hst with h1 h2
        have H1 := Lib.hid h1
        have H2 := Lib.hid h2
        have y0 : (y == 0) = false := by simpa using h0
        have y1 : (y != 0) = true := by simpa using h0
        clear h1 h2 h0
        go_wp2_with (go_at_call 33; refine CQ.out.mono ?_; rintro e w5 ⟨rfl, hb5⟩; have HB5 := Lib.hid (HBX.out.trans (hb5.mono HBX.out.size)); clear hb5)
        go_ret2
        exact ⟨ret2 H1.out H2.out, HB5.out⟩
    · have hst := hP.out
      rw [show n - k = 0 by omega, seekE] at hst
      injection hst with h1 h2
      have H1 := Lib.hid h1
      have H2 := Lib.hid h2
      clear h1 h2
      go_wp2
      go_ret2
      exact ⟨ret2 H1.out H2.out, hB.out⟩
set_option maxRecDepth 100000 in
set_option maxHeartbeats 2000000 in
theorem ck_each_tk (f : Nat → Int) (g : Nat) (A : Option Addr) (n c : Nat) (L : List Tk) (w : World) (hn : n ≤ 9223372036854775807) (hS : Hid (SlOf 14 TkAt w A n c L)) (hC : Hid (∀ k, k < n → ∀ W, Below w.heap.size w W → ∀ (b o : Nat) (Av : Option Addr) (nv cv : Nat) (Ag : Option Addr) (mg cg : Nat) (Ai : Option Addr) (ni ci : Nat) (Ao : Option Addr) (no co : Nat) (Ac : Option Addr) (nc cc : Nat), Hid (TkAt' W b o Av nv cv Ag mg cg Ai ni ci Ao no co Ac nc cc (L.getD k default)) → Calls Tryz.prog 35 #[.int .i64 (k : Int), (L.getD k default).val Av nv cv Ag mg cg Ai ni ci Ao no co Ac nc cc, .pointer (some ⟨g, 0, none⟩)] W fun e w' => e = .returned (.int .i64 (f k)) ∧ Below W.heap.size W w')) :
    Calls Tryz.prog 34 #[.slice A n c, .func (.func 35) #[] #[.pointer (some ⟨g, 0, none⟩)]] w fun e w' => e = .returned (.tuple #[.int .i64 (eachE f n).1, .int .i64 (eachE f n).2]) ∧ Below w.heap.size w w' := by
  obtain ⟨R, hR⟩ : ∃ R, R = eachE f n := ⟨_, rfl⟩
  have HR := Lib.hid hR
  rw [← hR]
  clear hR
  obtain ⟨R1, R2⟩ := R
  go_enter Tryz.func34, Tryz.ntmps34
  go_wp2
  go_loopw [11] (fun v11 wr => ∃ (k : Nat), k ≤ n ∧ v11 = .int .i64 (k : Int) ∧ Hid (seekE f k (n - k) = (R1, R2)) ∧ Hid (Below w.heap.size w wr)) (fun v11 _ => n - (intOf v11).toNat)
  case atStart => exact ⟨0, by omega, rfl, HR.out.symm, Below.refl _ _⟩
  case round =>
    obtain ⟨k, hk, rfl, hP, hB⟩ := hrel
    by_cases hlt : k < n
    · obtain ⟨b, off, rfl, Av, nv, cv, Ag, mg, cg, Ai, ni, ci, Ao, no, co, Ac, nc, cc, hE⟩ := (hS.out.below TkAt.stays hB.out).at_ hlt
      have e0 := hE.c0
      have e1 := hE.c1
      have e2 := hE.c2
      have e3 := hE.c3
      have e4 := hE.c4
      have e5 := hE.c5
      have e6 := hE.c6
      have e7 := hE.c7
      have e8 := hE.c8
      have e9 := hE.c9
      have e10 := hE.c10
      have e11 := hE.c11
      have e12 := hE.c12
      have e13 := hE.c13
      have hbx := hB.out.alloc hB.out.size (.cells #[.string (L.getD k default).name, .slice Av nv cv, .int .i64 (L.getD k default).guard.kind, .int .i64 (L.getD k default).guard.num, .slice Ag mg cg, .int .i64 (L.getD k default).join, .int .i64 (L.getD k default).split, .slice Ai ni ci, .slice Ao no co, .slice Ac nc cc, .int .i64 (L.getD k default).after, .int .i64 (L.getD k default).m0, .int .i64 (L.getD k default).m1, .int .i64 (L.getD k default).m2] 53)
      have cQ := hC.out k hlt _ hbx b _ Av nv cv Ag mg cg Ai ni ci Ao no co Ac nc cc (Lib.hid (TkAt'.below hE ((Below.refl _ wr).alloc (Nat.le_refl _) (.cells #[.string (L.getD k default).name, .slice Av nv cv, .int .i64 (L.getD k default).guard.kind, .int .i64 (L.getD k default).guard.num, .slice Ag mg cg, .int .i64 (L.getD k default).join, .int .i64 (L.getD k default).split, .slice Ai ni ci, .slice Ao no co, .slice Ac nc cc, .int .i64 (L.getD k default).after, .int .i64 (L.getD k default).m0, .int .i64 (L.getD k default).m1, .int .i64 (L.getD k default).m2] 53))))
      have hst := hP.out
      rw [show n - k = n - (k + 1) + 1 by omega, seekE] at hst
      obtain ⟨y, hy⟩ : ∃ y, y = f k := ⟨_, rfl⟩
      rw [← hy] at hst cQ
      obtain ⟨q, hq⟩ : ∃ q, q = L.getD k default := ⟨_, rfl⟩
      rw [← hq] at cQ hbx e0 e2 e3 e5 e6 e10 e11 e12 e13
      have CQ := Lib.hid cQ
      have HBX := Lib.hid hbx
      have hlt2 : (k : Int) < (n : Int) := by omega
      have hk0 : (0 : Int) ≤ (k : Int) := by omega
      clear hq hy cQ hbx hE
      by_cases h0 : y = 0
      · subst h0
        rw [if_pos rfl] at hst
        have HST := Lib.hid hst
        clear hst
        go_wp2_with (go_at_call 35; refine CQ.out.mono ?_; rintro e w5 ⟨rfl, hb5⟩; have HB5 := Lib.hid (HBX.out.trans (hb5.mono HBX.out.size)); clear hb5)
        go_roundw
        case rel => exact ⟨k + 1, by omega, by go_num, HST, HB5⟩
        case measure => simp [intOf]; omega
      · rw [if_neg h0] at hst
        injection hst with h1 h2
        have H1 := Lib.hid h1
        have H2 := Lib.hid h2
        have y0 : (y == 0) = false := by simpa using h0
        have y1 : (y != 0) = true := by simpa using h0
        clear h1 h2 h0
        go_wp2_with (go_at_call 35; refine CQ.out.mono ?_; rintro e w5 ⟨rfl, hb5⟩; have HB5 := Lib.hid (HBX.out.trans (hb5.mono HBX.out.size)); clear hb5)
        go_ret2
        exact ⟨ret2 H1.out H2.out, HB5.out⟩
    · have hst := hP.out
      rw [show n - k = 0 by omega, seekE] at hst
      injection hst with h1 h2
      have H1 := Lib.hid h1
      have H2 := Lib.hid h2
      clear h1 h2
      go_wp2
      go_ret2
      exact ⟨ret2 H1.out H2.out, hB.out⟩
set_option maxRecDepth 100000 in
set_option maxHeartbeats 2000000 in
theorem ck_each_vr (f : Nat → Int) (g g2 : Nat) (A : Option Addr) (n c : Nat) (L : List Vr) (w : World) (hn : n ≤ 9223372036854775807) (hS : Hid (SlOf 2 VrAt w A n c L)) (hC : Hid (∀ k, k < n → ∀ W, Below w.heap.size w W → ∀ (b o : Nat), Hid (VrAt W b o (L.getD k default)) → Calls Tryz.prog 107 #[.int .i64 (k : Int), (L.getD k default).val, .pointer (some ⟨g, 0, none⟩), .pointer (some ⟨g2, 0, none⟩)] W fun e w' => e = .returned (.int .i64 (f k)) ∧ Below W.heap.size W w')) :
    Calls Tryz.prog 106 #[.slice A n c, .func (.func 107) #[] #[.pointer (some ⟨g, 0, none⟩), .pointer (some ⟨g2, 0, none⟩)]] w fun e w' => e = .returned (.tuple #[.int .i64 (eachE f n).1, .int .i64 (eachE f n).2]) ∧ Below w.heap.size w w' := by
  obtain ⟨R, hR⟩ : ∃ R, R = eachE f n := ⟨_, rfl⟩
  have HR := Lib.hid hR
  rw [← hR]
  clear hR
  obtain ⟨R1, R2⟩ := R
  go_enter Tryz.func106, Tryz.ntmps106
  go_wp2
  go_loopw [11] (fun v11 wr => ∃ (k : Nat), k ≤ n ∧ v11 = .int .i64 (k : Int) ∧ Hid (seekE f k (n - k) = (R1, R2)) ∧ Hid (Below w.heap.size w wr)) (fun v11 _ => n - (intOf v11).toNat)
  case atStart => exact ⟨0, by omega, rfl, HR.out.symm, Below.refl _ _⟩
  case round =>
    obtain ⟨k, hk, rfl, hP, hB⟩ := hrel
    by_cases hlt : k < n
    · obtain ⟨b, off, rfl, hE⟩ := (hS.out.below VrAt.stays hB.out).at_ hlt
      have e0 := hE.c0
      have e1 := hE.c1
      have hbx := hB.out.alloc hB.out.size (.cells #[.string (L.getD k default).name, .int .i64 (L.getD k default).colour] 56)
      have cQ := hC.out k hlt _ hbx b _  (Lib.hid (VrAt.below hE ((Below.refl _ wr).alloc (Nat.le_refl _) (.cells #[.string (L.getD k default).name, .int .i64 (L.getD k default).colour] 56))))
      have hst := hP.out
      rw [show n - k = n - (k + 1) + 1 by omega, seekE] at hst
      obtain ⟨y, hy⟩ : ∃ y, y = f k := ⟨_, rfl⟩
      rw [← hy] at hst cQ
      obtain ⟨q, hq⟩ : ∃ q, q = L.getD k default := ⟨_, rfl⟩
      rw [← hq] at cQ hbx e0 e1
      have CQ := Lib.hid cQ
      have HBX := Lib.hid hbx
      have hlt2 : (k : Int) < (n : Int) := by omega
      have hk0 : (0 : Int) ≤ (k : Int) := by omega
      clear hq hy cQ hbx hE
      by_cases h0 : y = 0
      · subst h0
        rw [if_pos rfl] at hst
        have HST := Lib.hid hst
        clear hst
        go_wp2_with (go_at_call 107; refine CQ.out.mono ?_; rintro e w5 ⟨rfl, hb5⟩; have HB5 := Lib.hid (HBX.out.trans (hb5.mono HBX.out.size)); clear hb5)
        go_roundw
        case rel => exact ⟨k + 1, by omega, by go_num, HST, HB5⟩
        case measure => simp [intOf]; omega
      · rw [if_neg h0] at hst
        injection hst with h1 h2
        have H1 := Lib.hid h1
        have H2 := Lib.hid h2
        have y0 : (y == 0) = false := by simpa using h0
        have y1 : (y != 0) = true := by simpa using h0
        clear h1 h2 h0
        go_wp2_with (go_at_call 107; refine CQ.out.mono ?_; rintro e w5 ⟨rfl, hb5⟩; have HB5 := Lib.hid (HBX.out.trans (hb5.mono HBX.out.size)); clear hb5)
        go_ret2
        exact ⟨ret2 H1.out H2.out, HB5.out⟩
    · have hst := hP.out
      rw [show n - k = 0 by omega, seekE] at hst
      injection hst with h1 h2
      have H1 := Lib.hid h1
      have H2 := Lib.hid h2
      clear h1 h2
      go_wp2
      go_ret2
      exact ⟨ret2 H1.out H2.out, hB.out⟩
set_option maxRecDepth 100000 in
set_option maxHeartbeats 2000000 in
theorem ck_each_ar (f : Nat → Int) (g g2 : Nat) (A : Option Addr) (n c : Nat) (L : List Ar) (w : World) (hn : n ≤ 9223372036854775807) (hS : Hid (SlOf 4 ArAt w A n c L)) (hC : Hid (∀ k, k < n → ∀ W, Below w.heap.size w W → ∀ (b o : Nat) (A' : Option Addr) (n' c' : Nat), Hid (ArAt' W b o A' n' c' (L.getD k default)) → Calls Tryz.prog 114 #[.int .i64 (k : Int), (L.getD k default).val A' n' c', .pointer (some ⟨g, 0, none⟩), .pointer (some ⟨g2, 0, none⟩)] W fun e w' => e = .returned (.int .i64 (f k)) ∧ Below W.heap.size W w')) :
    Calls Tryz.prog 113 #[.slice A n c, .func (.func 114) #[] #[.pointer (some ⟨g, 0, none⟩), .pointer (some ⟨g2, 0, none⟩)]] w fun e w' => e = .returned (.tuple #[.int .i64 (eachE f n).1, .int .i64 (eachE f n).2]) ∧ Below w.heap.size w w' := by
  obtain ⟨R, hR⟩ : ∃ R, R = eachE f n := ⟨_, rfl⟩
  have HR := Lib.hid hR
  rw [← hR]
  clear hR
  obtain ⟨R1, R2⟩ := R
  go_enter Tryz.func113, Tryz.ntmps113
  go_wp2
  go_loopw [11] (fun v11 wr => ∃ (k : Nat), k ≤ n ∧ v11 = .int .i64 (k : Int) ∧ Hid (seekE f k (n - k) = (R1, R2)) ∧ Hid (Below w.heap.size w wr)) (fun v11 _ => n - (intOf v11).toNat)
  case atStart => exact ⟨0, by omega, rfl, HR.out.symm, Below.refl _ _⟩
  case round =>
    obtain ⟨k, hk, rfl, hP, hB⟩ := hrel
    by_cases hlt : k < n
    · obtain ⟨b, off, rfl, A', n', c', hE⟩ := (hS.out.below ArAt.stays hB.out).at_ hlt
      have e0 := hE.c0
      have e1 := hE.c1
      have e2 := hE.c2
      have e3 := hE.c3
      have hbx := hB.out.alloc hB.out.size (.cells #[.int .i64 (L.getD k default).place, .int .i64 (L.getD k default).expr.kind, .int .i64 (L.getD k default).expr.num, .slice A' n' c'] 65)
      have cQ := hC.out k hlt _ hbx b _ A' n' c' (Lib.hid (ArAt'.below hE ((Below.refl _ wr).alloc (Nat.le_refl _) (.cells #[.int .i64 (L.getD k default).place, .int .i64 (L.getD k default).expr.kind, .int .i64 (L.getD k default).expr.num, .slice A' n' c'] 65))))
      have hst := hP.out
      rw [show n - k = n - (k + 1) + 1 by omega, seekE] at hst
      obtain ⟨y, hy⟩ : ∃ y, y = f k := ⟨_, rfl⟩
      rw [← hy] at hst cQ
      obtain ⟨q, hq⟩ : ∃ q, q = L.getD k default := ⟨_, rfl⟩
      rw [← hq] at cQ hbx e0 e1 e2
      have CQ := Lib.hid cQ
      have HBX := Lib.hid hbx
      have hlt2 : (k : Int) < (n : Int) := by omega
      have hk0 : (0 : Int) ≤ (k : Int) := by omega
      clear hq hy cQ hbx hE
      by_cases h0 : y = 0
      · subst h0
        rw [if_pos rfl] at hst
        have HST := Lib.hid hst
        clear hst
        go_wp2_with (go_at_call 114; refine CQ.out.mono ?_; rintro e w5 ⟨rfl, hb5⟩; have HB5 := Lib.hid (HBX.out.trans (hb5.mono HBX.out.size)); clear hb5)
        go_roundw
        case rel => exact ⟨k + 1, by omega, by go_num, HST, HB5⟩
        case measure => simp [intOf]; omega
      · rw [if_neg h0] at hst
        injection hst with h1 h2
        have H1 := Lib.hid h1
        have H2 := Lib.hid h2
        have y0 : (y == 0) = false := by simpa using h0
        have y1 : (y != 0) = true := by simpa using h0
        clear h1 h2 h0
        go_wp2_with (go_at_call 114; refine CQ.out.mono ?_; rintro e w5 ⟨rfl, hb5⟩; have HB5 := Lib.hid (HBX.out.trans (hb5.mono HBX.out.size)); clear hb5)
        go_ret2
        exact ⟨ret2 H1.out H2.out, HB5.out⟩
    · have hst := hP.out
      rw [show n - k = 0 by omega, seekE] at hst
      injection hst with h1 h2
      have H1 := Lib.hid h1
      have H2 := Lib.hid h2
      clear h1 h2
      go_wp2
      go_ret2
      exact ⟨ret2 H1.out H2.out, hB.out⟩
set_option maxRecDepth 100000 in
set_option maxHeartbeats 2000000 in
theorem ck_each_int (f : Nat → Int) (g g2 : Nat) (A : Option Addr) (n c : Nat) (L : List Int) (w : World) (hn : n ≤ 9223372036854775807) (hS : Hid (Sl w (.slice A n c) n 1 (intCells L))) (hC : Hid (∀ k, k < n → ∀ W, Below w.heap.size w W → Calls Tryz.prog 118 #[.int .i64 (k : Int), .int .i64 (L.getD k 0), .pointer (some ⟨g, 0, none⟩), .pointer (some ⟨g2, 0, none⟩)] W fun e w' => e = .returned (.int .i64 (f k)) ∧ Below W.heap.size W w')) :
    Calls Tryz.prog 117 #[.slice A n c, .func (.func 118) #[] #[.pointer (some ⟨g, 0, none⟩), .pointer (some ⟨g2, 0, none⟩)]] w fun e w' => e = .returned (.tuple #[.int .i64 (eachE f n).1, .int .i64 (eachE f n).2]) ∧ Below w.heap.size w w' := by
  obtain ⟨R, hR⟩ : ∃ R, R = eachE f n := ⟨_, rfl⟩
  have HR := Lib.hid hR
  rw [← hR]
  clear hR
  obtain ⟨R1, R2⟩ := R
  go_enter Tryz.func117, Tryz.ntmps117
  go_wp2
  go_loopw [11] (fun v11 wr => ∃ (k : Nat), k ≤ n ∧ v11 = .int .i64 (k : Int) ∧ Hid (seekE f k (n - k) = (R1, R2)) ∧ Hid (Below w.heap.size w wr)) (fun v11 _ => n - (intOf v11).toNat)
  case atStart => exact ⟨0, by omega, rfl, HR.out.symm, Below.refl _ _⟩
  case round =>
    obtain ⟨k, hk, rfl, hP, hB⟩ := hrel
    by_cases hlt : k < n
    · obtain ⟨b, off, rfl, hE⟩ := (hS.out.below hB.out).int_at' hlt
      have e0 := hE
      have hbx := hB.out
      have cQ := hC.out k hlt wr hB.out
      have hst := hP.out
      rw [show n - k = n - (k + 1) + 1 by omega, seekE] at hst
      obtain ⟨y, hy⟩ : ∃ y, y = f k := ⟨_, rfl⟩
      rw [← hy] at hst cQ
      obtain ⟨q, hq⟩ : ∃ q, q = L.getD k 0 := ⟨_, rfl⟩
      rw [← hq] at cQ e0
      have CQ := Lib.hid cQ
      have HBX := Lib.hid hbx
      have hlt2 : (k : Int) < (n : Int) := by omega
      have hk0 : (0 : Int) ≤ (k : Int) := by omega
      clear hq hy cQ hbx hE
      by_cases h0 : y = 0
      · subst h0
        rw [if_pos rfl] at hst
        have HST := Lib.hid hst
        clear hst
        go_wp2_with (go_at_call 118; refine CQ.out.mono ?_; rintro e w5 ⟨rfl, hb5⟩; have HB5 := Lib.hid (HBX.out.trans (hb5.mono HBX.out.size)); clear hb5)
        go_roundw
        case rel => exact ⟨k + 1, by omega, by go_num, HST, HB5⟩
        case measure => simp [intOf]; omega
      · rw [if_neg h0] at hst
        injection hst with h1 h2
        have H1 := Lib.hid h1
        have H2 := Lib.hid h2
        have y0 : (y == 0) = false := by simpa using h0
        have y1 : (y != 0) = true := by simpa using h0
        clear h1 h2 h0
        go_wp2_with (go_at_call 118; refine CQ.out.mono ?_; rintro e w5 ⟨rfl, hb5⟩; have HB5 := Lib.hid (HBX.out.trans (hb5.mono HBX.out.size)); clear hb5)
        go_ret2
        exact ⟨ret2 H1.out H2.out, HB5.out⟩
    · have hst := hP.out
      rw [show n - k = 0 by omega, seekE] at hst
      injection hst with h1 h2
      have H1 := Lib.hid h1
      have H2 := Lib.hid h2
      clear h1 h2
      go_wp2
      go_ret2
      exact ⟨ret2 H1.out H2.out, hB.out⟩
end Go.Proofs.YtaeeblceedklnaaGreatDoor
