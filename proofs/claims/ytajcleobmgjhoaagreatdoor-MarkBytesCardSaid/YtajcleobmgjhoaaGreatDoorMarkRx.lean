/- The document's answer of layer 09: Decode, the walk. -/
import Derived.Test.YtajcleobmgjhoaaGreatDoorMarkRw
import Derived.Test.YtajcleobmgjhoaaGreatDoorBagZ
import Derived.Deep.QuietTactic
import Derived.BigQuiet
import Derived.Deep.RegionWith
namespace Go.Proofs.YtajcleobmgjhoaaGreatDoor
open Go.RowKit Go.Lib
set_option maxRecDepth 100000 in
set_option maxHeartbeats 8000000 in
theorem ref09_Decode (A : Option Addr) (n c : Nat) (cs : List Int) (w : World) (hA : Hid (Sl w (.slice A n c) n 1 (u8Cells cs))) (hw : Hid (U8s cs)) (hn : n ≤ 50000) :
    Calls Tryz.prog 16 #[.slice A n c] w (DecP cs w) := by
  have hl := Lib.hid (show cs.length = n by have := hA.out.len; rw [u8_len] at this; omega)
  by_cases hn0 : n = 0
  · have hf := Lib.hid (show decM cs = none by
      have : cs = [] := List.eq_nil_of_length_eq_zero (by rw [hl.out]; exact hn0)
      rw [this]; rfl)
    subst hn0
    go_enter Tryz.func16, Tryz.ntmps16
    go_wp2
    go_ret2
    exact ⟨Below.refl _ _, .inl ⟨hf.out, rfl⟩⟩
  have hnp : (0 : Int) < (n : Int) := by omega
  have hnz : ((n : Int) == 0) = false := by simpa using hn0
  obtain ⟨b, off, rfl, c0⟩ := hA.out.u8_at (k := 0) (by omega)
  obtain ⟨x, L, hxL⟩ : ∃ x L, cs = x :: L := by
    cases cs with
    | nil => have := hl.out; simp at this; omega
    | cons x L => exact ⟨x, L, rfl⟩
  have hx0 : cs.getD 0 0 = x := by rw [hxL]; rfl
  have hLe : cs.drop 1 = L := by rw [hxL]; rfl
  rw [hx0, Nat.add_zero] at c0
  have hxb : 0 ≤ x ∧ x ≤ 255 := hw.out x (by rw [hxL]; simp)
  obtain ⟨m, rfl⟩ : ∃ m : Nat, x = (m : Int) := ⟨x.toNat, by omega⟩
  have HX := Lib.hid hxL
  have HLE := Lib.hid hLe
  have C0 := Lib.hid c0
  have hm9 : m ≤ 255 := by omega
  clear hxL hx0 hLe hxb
  by_cases hm : 64 < m
  · have hm2 : (64 : Int) < (m : Int) := by omega
    have hf := Lib.hid (show decM cs = none by rw [HX.out, decM_cons, if_pos hm2])
    go_enter Tryz.func16, Tryz.ntmps16
    go_wp2
    go_ret2
    exact ⟨Below.refl _ _, .inl ⟨hf.out, rfl⟩⟩
  have hm2 : (m : Int) ≤ 64 := by omega
  have hdm := Lib.hid (show decM cs = match decs m L with | some (M, []) => some M | _ => none by rw [HX.out, decM_cons, if_neg (by omega), Int.toNat_natCast]; rfl)
  go_enter Tryz.func16, Tryz.ntmps16
  go_wp2
  go_loopw [4, 5, 6, 7, 8, 9, 10, 11, 12] (fun a o v _ _ _ _ _ _ wr => ∃ (i a' : Nat) (A' : Option Addr) (c' : Nat) (ys : List Bg), i ≤ m ∧ a = .int .i64 (a' : Int) ∧ v = .int .i64 (i : Int) ∧ o = .slice A' i c' ∧ 1 ≤ a' ∧ a' ≤ n ∧ Hid (wr.ownsRow w.heap.size 36 1 (.slice A' i c') i (ys.map Bg.val)) ∧ Hid (∀ b ∈ ys, BgOwn wr w.heap.size b) ∧ Hid (decs m L = after (rowsB ys) (decs (m - i) (cs.drop a'))) ∧ Hid (Below w.heap.size w wr)) (fun _ _ v _ _ _ _ _ _ _ => m - (RowKit.intOf v).toNat)
  case atStart => exact ⟨0, 1, none, 0, [], by omega, rfl, rfl, rfl, by omega, by omega, World.ownsRow_nil _ _ _ _, (fun b h => by cases h), (by show decs m L = after (rowsB []) (decs (m - 0) (cs.drop 1)); rw [HLE.out]; exact (after_nil _).symm), Below.refl _ _⟩
  case round =>
    obtain ⟨i, a', A', c', ys, hi, rfl, rfl, rfl, ha1, ha2, ho, hY, hd, hB⟩ := hrel
    replace c0 := cell_kept hB.out C0.out
    by_cases him : i < m
    · have him2 : (i : Int) < (m : Int) := by omega
      have hi0 : (0 : Int) ≤ (i : Int) := by omega
      have hst := Lib.hid (show m - i = (m - (i + 1)) + 1 by omega)
      have hnone := Lib.hid (show decBag (cs.drop a') = none → decM cs = none from fun h => by
        rw [hdm.out, hd.out, hst.out, decs_none h]; rfl)
      by_cases h2 : n < a' + 2
      · have hf := Lib.hid (hnone.out (decBag_short (by rw [hl.out]; exact h2)))
        have h2' : (n : Int) < (a' : Int) + 2 := by omega
        go_wp2
        go_ret2
        exact ⟨hB.out, .inl ⟨hf.out, rfl⟩⟩
      have h2' : (a' : Int) + 2 ≤ (n : Int) := by omega
      obtain ⟨b1, o1, e5, c1⟩ := hA.out.u8_at (k := a') (by omega)
      injection e5 with e5; injection e5 with e5 e6; subst e5 e6
      obtain ⟨b1, o1, e5, c2⟩ := hA.out.u8_at (k := a' + 1) (by omega)
      injection e5 with e5; injection e5 with e5 e6; subst e5 e6
      have hx1 := u8_mem hw.out (i := a') (by rw [hl.out]; omega)
      have hx2 := u8_mem hw.out (i := a' + 1) (by rw [hl.out]; omega)
      obtain ⟨x1, hx1e⟩ : ∃ x1, x1 = cs.getD a' 0 := ⟨_, rfl⟩
      obtain ⟨x2, hx2e⟩ : ∃ x2, x2 = cs.getD (a' + 1) 0 := ⟨_, rfl⟩
      rw [← hx1e] at hx1 c1
      rw [← hx2e] at hx2 c2
      obtain ⟨R, hR⟩ : ∃ R : Nat, x1 * 256 + x2 = (R : Int) := ⟨(x1 * 256 + x2).toNat, by omega⟩
      have hR9 : R ≤ 65535 := by omega
      have hbag := Lib.hid (decBag_ok (l := cs) (a := a') (R := R) (by rw [hl.out]; omega) (by rw [← hx1e, ← hx2e]; exact hR))
      replace c1 := cell_kept hB.out c1
      replace c2 := cell_kept hB.out c2
      have ha0 : (0 : Int) ≤ (a' : Int) := by omega
      have ha3 : (a' : Int) < (n : Int) := by omega
      have ha4 : (0 : Int) ≤ (a' : Int) + 1 := by omega
      have ha5 : (a' : Int) + 1 < (n : Int) := by omega
      have ha6 : ((a' : Int) + 1).toNat = a' + 1 := by omega
      have w1 : IntKind.i64.wrap ((a' : Int) + 1) = (a' : Int) + 1 := IntWalk.i64_in _ (by omega)
      have w2 : IntKind.i64.wrap (x1 * 256) = x1 * 256 := IntWalk.i64_in _ (by omega)
      have w3 : IntKind.i64.wrap (x1 * 256 + x2) = (R : Int) := by rw [hR]; exact IntWalk.i64_in _ (by omega)
      have w4 : IntKind.i64.wrap x1 = x1 := IntWalk.i64_in _ (by omega)
      have w5 : IntKind.i64.wrap x2 = x2 := IntWalk.i64_in _ (by omega)
      clear hx1e hx2e hR
      go_wp2
      go_quiet (fail)
      generalize hW1 : wr.drewN _ = W1
      have HB1 := Lib.hid (show Below w.heap.size w W1 by rw [← hW1]; exact below_drewN' hB.out _)
      have HO1 := Lib.hid (show W1.ownsRow w.heap.size 36 1 (.slice A' i c') i (ys.map Bg.val) by rw [← hW1]; exact own_drewN ho.out _)
      have HY1 := Lib.hid (show ∀ b ∈ ys, BgOwn W1 w.heap.size b from fun q hq => by rw [← hW1]; exact (hY.out q hq).below (below_drewN' (Below.refl _ _) _))
      clear w1 w2 w3 w4 w5 c1 c2 hW1 ho hB hY ha4 ha5 ha6
      replace c0 := cell_kept HB1.out C0.out
      by_cases h8 : n < a' + 2 + 8 * R
      · have hf := Lib.hid (hnone.out (by rw [hbag.out, if_pos (by rw [hl.out]; exact h8)]))
        have h8' : (n : Int) < (a' : Int) + 2 + 8 * (R : Int) := by omega
        go_wp2
        go_ret2
        exact ⟨HB1.out, .inl ⟨hf.out, rfl⟩⟩
      have h8' : (a' : Int) + 2 + 8 * (R : Int) ≤ (n : Int) := by omega
      go_wp2
      go_loopw [4, 8, 9, 10, 11] (fun a o v _ _ wx => ∃ (k p : Nat) (A4 : Option Addr) (c4 : Nat), k ≤ R ∧ a = .int .i64 (p : Int) ∧ p = a' + 2 + 8 * k ∧ v = .int .i64 (k : Int) ∧ o = .slice A4 k c4 ∧ Hid (wx.ownsRow W1.heap.size 45 2 (.slice A4 k c4) k (pairCells (decRows k (cs.drop (a' + 2))))) ∧ Hid (Below W1.heap.size W1 wx)) (fun _ _ v _ _ _ => R - (RowKit.intOf v).toNat)
      case atStart => exact ⟨0, a' + 2, none, 0, by omega, by go_num, rfl, rfl, rfl, World.ownsRow_nil _ _ _ _, Below.refl _ _⟩
      case round =>
        obtain ⟨k, p, A4, c4, hk, rfl, hp, rfl, rfl, ho4, hB4⟩ := hrel
        have HB5 := Lib.hid (below_then HB1.out hB4.out)
        by_cases hkR : k < R
        · have hkR2 : (k : Int) < (R : Int) := by omega
          have hk0 : (0 : Int) ≤ (k : Int) := by omega
          have hp8 : p + 8 ≤ n := by omega
          have hdr := Lib.hid (show decRows (k + 1) (cs.drop (a' + 2)) = decRows k (cs.drop (a' + 2)) ++ [rowJ cs p 8] by rw [decRows_rowJ, hp])
          obtain ⟨V, hV⟩ : ∃ V, V = wr := ⟨_, rfl⟩
          rw [← hV] at ho4 hB4 HB5 ⊢
          clear hV
          obtain ⟨r, hr⟩ : ∃ r, r = V.heap.size := ⟨_, rfl⟩
          have HR := Lib.hid hr
          have hrb := Lib.hid (show b < r by
            have h := World.block_lt_of_cell? w _ C0.out
            have := HB5.out.size
            simp only at h
            omega)
          have HP := Lib.hid hp
          have r0 := Lib.hid (show (V.alloc (.cells #[.int .i64 0, .int .i64 0] 45)).cell? ⟨r, 0, none⟩ = some (.int .i64 (rowJ cs p 0).1) by rw [rowJ_zero, hr]; exact cell_new V _ _ 0 _ rfl)
          have r1 := Lib.hid (show (V.alloc (.cells #[.int .i64 0, .int .i64 0] 45)).cell? ⟨r, 1, none⟩ = some (.int .i64 (rowJ cs p 0).2) by rw [rowJ_zero, hr]; exact cell_new V _ _ 1 _ rfl)
          have rf := Lib.hid (show ∀ q, (V.alloc (.cells #[.int .i64 0, .int .i64 0] 45)).frozen? ⟨r, q, none⟩ = false from fun q => by rw [hr]; exact frozen_of_row _ _ q _ 45 (heap_alloc_new V _))
          have rB := Lib.hid (show Below r V (V.alloc (.cells #[.int .i64 0, .int .i64 0] 45)) by rw [hr]; exact (Below.refl _ V).alloc (Nat.le_refl _) _)
          clear hr hp c0
          go_wp2
          rw [← HR.out]
          go_loopw [11] (fun v wx => ∃ (j : Nat), j ≤ 8 ∧ v = .int .i64 (j : Int) ∧ Hid (wx.cell? ⟨r, 0, none⟩ = some (.int .i64 (rowJ cs p j).1)) ∧ Hid (wx.cell? ⟨r, 1, none⟩ = some (.int .i64 (rowJ cs p j).2)) ∧ Hid (∀ q, wx.frozen? ⟨r, q, none⟩ = false) ∧ Hid (Below r V wx)) (fun v _ => 8 - (RowKit.intOf v).toNat)
          case atStart => exact ⟨0, by omega, rfl, r0.out, r1.out, rf.out, rB.out⟩
          case round =>
            clear r0 r1 rf rB
            obtain ⟨j, hj, rfl, r0, r1, rf, rB⟩ := hrel
            by_cases hj8 : j < 8
            · have hj82 : (j : Int) < 8 := by omega
              have hj0 : (0 : Int) ≤ (j : Int) := by omega
              obtain ⟨b1, o1, e5, c1⟩ := hA.out.u8_at (k := p + j) (by omega)
              injection e5 with e5; injection e5 with e5 e6; subst e5 e6
              have hx1 := u8_mem hw.out (i := p + j) (by rw [hl.out]; omega)
              have hbd := rowJ_bd hw.out p j (by omega)
              have hne : ∀ (q : Nat) (u : Value) (x : Value), V.cell? ⟨b, off + (p + j), none⟩ = some x → (wr.setCell ⟨r, q, none⟩ u).cell? ⟨b, off + (p + j), none⟩ = some x := fun q u x h => by
                have hbr := hrb.out
                rw [World.cell?_setCell_other _ _ _ _ (by intro e; injection e with e _ _; omega)]
                rw [rB.out.cell (by show b < r; exact hbr)]; exact h
              have c1v := cell_kept HB5.out c1
              have c1r : wr.cell? ⟨b, off + (p + j), none⟩ = some (.int .u8 (cs.getD (p + j) 0)) := by
                rw [rB.out.cell (by show b < r; exact hrb.out)]; exact c1v
              have hlo := fun (h : j < 4) => Lib.hid (rowJ_lo (l := cs) (a := p) (j := j) h (by rw [hl.out]; omega))
              have hhi := fun (h : 4 ≤ j) => Lib.hid (rowJ_hi (l := cs) (a := p) (j := j) h (by rw [hl.out]; omega))
              obtain ⟨x, hx⟩ : ∃ x, x = cs.getD (p + j) 0 := ⟨_, rfl⟩
              rw [← hx] at c1v c1r hx1 hlo hhi
              have KS := Lib.hid (show ∀ (q : Nat) (u : Value), (wr.setCell ⟨r, q, none⟩ u).cell? ⟨b, off + (p + j), none⟩ = some (.int .u8 x) from fun q u => hne q u _ c1v)
              obtain ⟨z1, hz1⟩ : ∃ z, z = (rowJ cs p j).1 := ⟨_, rfl⟩
              obtain ⟨z2, hz2⟩ : ∃ z, z = (rowJ cs p j).2 := ⟨_, rfl⟩
              rw [← hz1] at r0 hbd hlo hhi
              rw [← hz2] at r1 hbd hlo hhi
              have R0 := r0.out
              have R1 := r1.out
              have hp0 : (0 : Int) ≤ (p : Int) := by omega
              have hpj0 : (0 : Int) ≤ (p : Int) + (j : Int) := by omega
              have hpj1 : (p : Int) + (j : Int) < (n : Int) := by omega
              have hpj2 : ((p : Int) + (j : Int)).toNat = p + j := by omega
              have hz1b : 0 ≤ z1 ∧ z1 ≤ 4294967295 := hbd.1
              have hz2b : 0 ≤ z2 ∧ z2 ≤ 4294967295 := hbd.2
              have f0 := rf.out 0
              have f1 := rf.out 1
              have w1 : IntKind.i64.wrap ((p : Int) + (j : Int)) = (p : Int) + (j : Int) := IntWalk.i64_in _ (by omega)
              have w4 : IntKind.i64.wrap x = x := IntWalk.i64_in _ (by omega)
              clear hx hne c1 hbd hz1 hz2
              by_cases hj4 : j < 4
              · have hq : (j : Int).tdiv 4 = 0 := by rw [tdiv_nn hj0]; omega
                have w2 : IntKind.i64.wrap (256 * z1) = 256 * z1 := IntWalk.i64_in _ (by omega)
                have w3 : IntKind.i64.wrap (256 * z1 + x) = 256 * z1 + x := IntWalk.i64_in _ (by omega)
                have hnx := hlo hj4
                have G0 := Lib.hid (show (wr.setCell ⟨r, 0, none⟩ (.int .i64 (256 * z1 + x))).drew.cell? ⟨r, 0, none⟩ = some (.int .i64 (rowJ cs p (j + 1)).1) by rw [hnx.out]; exact World.cell?_setCell_same _ _ _ R0)
                have G1 := Lib.hid (show (wr.setCell ⟨r, 0, none⟩ (.int .i64 (256 * z1 + x))).drew.cell? ⟨r, 1, none⟩ = some (.int .i64 (rowJ cs p (j + 1)).2) by rw [hnx.out]; exact (World.cell?_setCell_other _ _ _ _ (by intro e; injection e with _ e _; cases e)).trans R1)
                have GF := Lib.hid (show ∀ q, (wr.setCell ⟨r, 0, none⟩ (.int .i64 (256 * z1 + x))).drew.frozen? ⟨r, q, none⟩ = false from fun q => by show (wr.setCell ⟨r, 0, none⟩ (.int .i64 (256 * z1 + x))).frozen? _ = false; rw [World.frozen?_setCell]; exact rf.out q)
                have GB := Lib.hid (show Below r V (wr.setCell ⟨r, 0, none⟩ (.int .i64 (256 * z1 + x))).drew from (rB.out.setCell (Nat.le_refl _) _).drew)
                clear hlo hhi hz1b hz2b hx1
                go_wp2
                go_region_with (fail)
                all_goals
                  go_wp2
                  go_roundw
                  case rel => exact ⟨j + 1, by omega, by go_num, G0.out, G1.out, GF.out, GB.out⟩
                  case measure => simp [RowKit.intOf]; omega
              · have hq : (j : Int).tdiv 4 = 1 := by rw [tdiv_nn hj0]; omega
                have w2 : IntKind.i64.wrap (256 * z2) = 256 * z2 := IntWalk.i64_in _ (by omega)
                have w3 : IntKind.i64.wrap (256 * z2 + x) = 256 * z2 + x := IntWalk.i64_in _ (by omega)
                have hnx := hhi (by omega)
                have G0 := Lib.hid (show (wr.setCell ⟨r, 1, none⟩ (.int .i64 (256 * z2 + x))).drew.cell? ⟨r, 0, none⟩ = some (.int .i64 (rowJ cs p (j + 1)).1) by rw [hnx.out]; exact (World.cell?_setCell_other _ _ _ _ (by intro e; injection e with _ e _; cases e)).trans R0)
                have G1 := Lib.hid (show (wr.setCell ⟨r, 1, none⟩ (.int .i64 (256 * z2 + x))).drew.cell? ⟨r, 1, none⟩ = some (.int .i64 (rowJ cs p (j + 1)).2) by rw [hnx.out]; exact World.cell?_setCell_same _ _ _ R1)
                have GF := Lib.hid (show ∀ q, (wr.setCell ⟨r, 1, none⟩ (.int .i64 (256 * z2 + x))).drew.frozen? ⟨r, q, none⟩ = false from fun q => by show (wr.setCell ⟨r, 1, none⟩ (.int .i64 (256 * z2 + x))).frozen? _ = false; rw [World.frozen?_setCell]; exact rf.out q)
                have GB := Lib.hid (show Below r V (wr.setCell ⟨r, 1, none⟩ (.int .i64 (256 * z2 + x))).drew from (rB.out.setCell (Nat.le_refl _) _).drew)
                clear hlo hhi hz1b hz2b hx1
                go_wp2
                go_region_with (fail)
                all_goals
                  go_wp2
                  go_roundw
                  case rel => exact ⟨j + 1, by omega, by go_num, G0.out, G1.out, GF.out, GB.out⟩
                  case measure => simp [RowKit.intOf]; omega
            · have hj8e : j = 8 := by omega
              subst hj8e
              obtain ⟨y, hy⟩ : ∃ y, y = rowJ cs p 8 := ⟨_, rfl⟩
              rw [← hy] at r0 r1 hdr
              have hyb := rowJ_bd hw.out p 8 (by omega)
              rw [← hy] at hyb
              clear hy
              obtain ⟨y1, y2⟩ := y
              simp only at r0 r1 hyb
              have R0 := r0.out
              have R1 := r1.out
              have HB6 := Lib.hid (show Below V.heap.size V wr by rw [← HR.out]; exact rB.out)
              have HO6 := Lib.hid (own_below ho4.out HB6.out)
              have HB7 := Lib.hid (below_then hB4.out HB6.out)
              have hone := Lib.hid (pair_one2 y1 y2)
              have hp9 := Lib.hid (show p + 8 = a' + 2 + 8 * (k + 1) by have := HP.out; omega)
              have hsz7 := HB7.out.size
              clear r0 r1 rf rB ho4
              go_wp2_with (at_builtin; refine wpList_append_sl pairs_ty rfl (.tmp 84) (.tmp 86) rfl W1.heap.size rfl (by exact (World.ownsRow.alloc HO6.out _)) rfl (by exact Sl.new _ _ [Value.int .i64 y1, .int .i64 y2] 1 2 rfl (by omega)) hone.out (by omega) (by omega) (by simp; omega) ?_; intro v4 w4 hown4 hg4 hat4; obtain ⟨A5, c5, rfl, _, _⟩ := own_form hown4; have HO4 := Lib.hid hown4; have HB8 := Lib.hid ((HB7.out.alloc HB7.out.size (.cells #[.int .i64 y1, .int .i64 y2] 45)).grown hg4 (by simp; omega) (fun q hq => (HO6.out.lt q hq).1)); clear hown4 hg4 hat4)
              go_roundw
              case rel => exact ⟨k + 1, p + 8, A5, c5, by omega, by go_num, hp9.out, by go_num, rfl, (by show World.ownsRow _ _ _ _ _ _ _; rw [hdr.out, pairCells_one]; exact HO4.out), HB8.out⟩
              case measure => simp [RowKit.intOf]; omega
        · have hke : k = R := by omega
          subst hke
          obtain ⟨Q, hQ⟩ : ∃ Q, Q = decRows k (cs.drop (a' + 2)) := ⟨_, rfl⟩
          rw [← hQ] at ho4 hbag
          have hQl : Q.length = k := by rw [hQ]; exact decRows_len _ _
          have hQw := Lib.hid (show I64s Q by rw [hQ]; exact decRows_wf2 hw.out _ _)
          have hbag2 := Lib.hid (hbag.out.trans (if_neg (by rw [hl.out]; exact h8)))
          have CR := Lib.hid (ref_Right A4 k c4 Q wr (Lib.hid (Sl.of_own ho4.out)))
          have HQL := Lib.hid hQl
          clear hQ hQl
          obtain ⟨rt, hrt⟩ : ∃ rt, rt = rightB Q := ⟨_, rfl⟩
          have CR2 := CR.out
          rw [← hrt] at CR2
          have CR3 := Lib.hid CR2
          have HRT := Lib.hid hrt
          clear CR CR2 hrt
          have HP := Lib.hid hp
          have hpn : p ≤ n := by omega
          have hp1 : 1 ≤ p := by omega
          clear hp
          go_wp2_with fail
          refine CR3.out.mono ?_
          rintro e w2 ⟨rfl, hq⟩
          have hb : Below wr.heap.size wr w2 := by
            obtain ⟨q, h⟩ := hq
            rw [h]
            exact below_drewN' (Below.refl _ _) q
          have HB6 := Lib.hid (below_then hB4.out hb)
          have HB7 := Lib.hid (below_then HB1.out HB6.out)
          have HO6 := Lib.hid (own_below HO1.out HB6.out)
          have HX6 := Lib.hid (own_below ho4.out hb)
          have HY6 := Lib.hid (show ∀ b ∈ ys, BgOwn w2 w.heap.size b from fun q hq => (HY1.out q hq).below HB6.out)
          clear hb hq CR3 ho4
          cases rt with
          | false =>
            have hf := Lib.hid (hnone.out (by rw [hbag2.out, ← HRT.out]; rfl))
            go_wp2
            go_ret2
            exact ⟨HB7.out, .inl ⟨hf.out, rfl⟩⟩
          | true =>
            have hst2 := Lib.hid (show decs m L = after (rowsB ys ++ [Q]) (decs (m - (i + 1)) (cs.drop p)) by
              rw [hd.out, hst.out, decs_some (b := Q) (r := cs.drop p) (by rw [hbag2.out, ← HRT.out, HP.out]; rfl)])
            have hone := Lib.hid (sl_one A4 k c4)
            have hsz1 := HB1.out.size
            have hsz7 := HB7.out.size
            go_wp2_with (at_builtin; refine wpList_append_sl bags_ty rfl (.tmp 92) (.tmp 94) rfl w.heap.size rfl (by exact (World.ownsRow.alloc HO6.out _)) rfl (by exact Sl.new _ _ [Value.slice A4 k c4] 1 1 rfl (by omega)) hone.out (by omega) (by omega) (by simp; omega) ?_; intro v4 w4 hown4 hg4 hat4; obtain ⟨A5, c5, rfl, _, _⟩ := own_form hown4; have HO4 := Lib.hid hown4; have HG4 := Lib.hid hg4; have HB8 := Lib.hid ((HB7.out.alloc HB7.out.size (.cells #[.slice A4 k c4] 36)).grown hg4 (by simp; omega) (fun q hq => (HO6.out.lt q hq).1)); clear hown4 hg4 hat4)
            have HY4 := Lib.hid (show ∀ b ∈ ys ++ [(⟨A4, k, c4, Q⟩ : Bg)], BgOwn w4 w.heap.size b from fun q hq => by
              rcases List.mem_append.1 hq with hq | hq
              · exact (HY6.out q hq).app _ HG4.out HO6.out
              · rw [List.mem_singleton] at hq
                subst hq
                exact BgOwn.app (b := (⟨A4, k, c4, Q⟩ : Bg)) ⟨own_base HX6.out hsz1, hQw.out, HQL.out.symm, by show k < 100000; omega⟩ _ HG4.out HO6.out)
            go_roundw
            case rel => exact ⟨i + 1, p, A5, c5, ys ++ [(⟨A4, k, c4, Q⟩ : Bg)], by omega, rfl, by go_num, rfl, hp1, hpn, (by show World.ownsRow _ _ _ _ _ _ _; rw [List.map_append]; exact HO4.out), HY4.out, (by show decs m L = _; rw [hst2.out]; unfold rowsB; rw [List.map_append]; rfl), HB8.out⟩
            case measure => simp [RowKit.intOf]; omega
    · have hie : i = m := by omega
      subst hie
      have h4 : decs i L = some (rowsB ys, cs.drop a') := by
        have := hd.out
        rw [Nat.sub_self] at this
        rw [this]; simp [decs, after]
      by_cases han : a' = n
      · have hf := Lib.hid (show decM cs = some (rowsB ys) by
          rw [hdm.out, h4, List.drop_eq_nil_of_le (by rw [hl.out]; omega)])
        subst han
        clear h4
        go_wp2
        go_ret2
        refine ⟨hB.out, .inr ⟨A', i, c', ys, hf.out, rfl, by omega, ⟨?_, fun b hb => (hY.out b hb).ok⟩, fun b hb => (hY.out b hb).small⟩⟩
        exact Sl.of_own ho.out
      · have hne : ((a' : Int) != (n : Int)) = true := by simp; omega
        have hf := Lib.hid (show decM cs = none by
          rw [hdm.out, h4]
          cases hdr : cs.drop a' with
          | nil =>
            have h9 := congrArg List.length hdr
            rw [List.length_drop, hl.out] at h9
            simp at h9
            omega
          | cons y z => rfl)
        clear h4
        go_wp2
        go_ret2
        exact ⟨hB.out, .inl ⟨hf.out, rfl⟩⟩
end Go.Proofs.YtajcleobmgjhoaaGreatDoor
