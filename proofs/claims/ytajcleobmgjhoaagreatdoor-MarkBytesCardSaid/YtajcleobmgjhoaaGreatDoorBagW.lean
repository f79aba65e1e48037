/- The document's answer of layer 03: Right, Count, Total. -/
import Derived.Test.YtajcleobmgjhoaaGreatDoorBagQ
namespace Go.Proofs.YtajcleobmgjhoaaGreatDoor
open Go.RowKit
theorem riseB_step {l : Row} {k : Nat} {z : Int} (hk : k < l.length) : riseB z (l.drop k) = if (l.getD k (0, 0)).1 ≤ z ∨ (l.getD k (0, 0)).2 < 1 ∨ 1048576 < (l.getD k (0, 0)).2 then false else riseB (l.getD k (0, 0)).1 (l.drop (k + 1)) := by
  rw [List.drop_eq_getElem_cons hk, List.getD, List.getElem?_eq_getElem hk]
  rfl
set_option maxRecDepth 100000 in
set_option maxHeartbeats 2000000 in
theorem ref_Right (A : Option Addr) (n c : Nat) (l : Row) (w : World) (hA : Hid (Sl w (.slice A n c) n 2 (pairCells l))) :
    Calls Tryz.prog 36 #[.slice A n c] w fun e w' => e = .returned (.bool (rightB l)) ∧ ∃ q, w' = w.drewN q := by
  have hn := hA.out.bound
  have hl := Lib.hid (show l.length = n by have := hA.out.len; rw [pairCells_len] at this; omega)
  obtain ⟨R, hR⟩ : ∃ R, R = rightB l := ⟨_, rfl⟩
  rw [← hR]
  have HR := Lib.hid hR
  clear hR
  go_enter Tryz.func36, Tryz.ntmps36
  go_wp2
  go_loopw [3] (fun v wr => ∃ (k q : Nat) (z : Int), k ≤ n ∧ v = .int .i64 (k : Int) ∧ wr = w.drewN q ∧ Hid (riseB z (l.drop k) = R) ∧ -1 ≤ z ∧ Hid (k = 0 → z = -1) ∧ Hid (0 < k → z = (l.getD (k - 1) (0, 0)).1 ∧ 0 ≤ z)) (fun v _ => n - (RowKit.intOf v).toNat)
  case atStart => exact ⟨0, 0, -1, by omega, rfl, rfl, by show riseB (-1) l = R; exact HR.out.symm, by omega, fun _ => rfl, fun h => absurd h (by omega)⟩
  case round =>
    obtain ⟨k, q, z, hk, rfl, rfl, hr, hz, hz0, hz1⟩ := hrel
    by_cases hlt : k < n
    · have hst := Lib.hid (riseB_step (l := l) (k := k) (z := z) (by rw [hl.out]; exact hlt))
      have hpr : 0 < k → ∃ b1 o1, A = some ⟨b1, o1, none⟩ ∧ w.cell? ⟨b1, o1 + (k - 1) * 2, none⟩ = some (.int .i64 z) := by
        intro h0
        obtain ⟨b1, o1, e1, c1, _⟩ := hA.out.pair_at (k := k - 1) (by omega)
        rw [← (hz1.out h0).1] at c1
        exact ⟨b1, o1, e1, c1⟩
      have HPR := Lib.hid hpr
      obtain ⟨b1, o1, rfl, c1, c2⟩ := hA.out.pair_at hlt
      obtain ⟨x, hx⟩ : ∃ x, x = l.getD k (0, 0) := ⟨_, rfl⟩
      rw [← hx] at c1 c2 hst
      have HX := Lib.hid hx
      clear hx hpr
      obtain ⟨x1, x2⟩ := x
      simp only at c1 c2 hst
      have hlt2 : (k : Int) < (n : Int) := by omega
      have hk0 : (0 : Int) ≤ (k : Int) := by omega
      have bad : x1 ≤ z ∨ x2 < 1 ∨ 1048576 < x2 → Hid (R = false) := fun h => by
        show R = false
        rw [← hr.out, hst.out, if_pos h]
      have BAD := Lib.hid bad
      clear bad
      by_cases h1 : x1 < 0
      · have hf := BAD.out (.inl (by omega))
        have d1 : decide (x1 < 0) = true := by simpa using h1
        go_wp2
        go_quiet (fail)
        go_wp2
        go_ret
        exact ⟨ret_b hf.out.symm, _, drew2 _ _ _⟩
      have d1 : decide (x1 < 0) = false := by simpa using h1
      by_cases h2 : x2 < 1
      · have hf := BAD.out (.inr (.inl h2))
        have d2 : decide (x2 < 1) = true := by simpa using h2
        go_wp2
        go_quiet (fail)
        go_wp2
        go_ret
        exact ⟨ret_b hf.out.symm, _, drew2 _ _ _⟩
      have d2 : decide (x2 < 1) = false := by simpa using h2
      by_cases h3 : 1048576 < x2
      · have hf := BAD.out (.inr (.inr h3))
        have d3 : decide (1048576 < x2) = true := by simpa using h3
        go_wp2
        go_quiet (fail)
        go_wp2
        go_ret
        exact ⟨ret_b hf.out.symm, _, drew2 _ _ _⟩
      have d3 : decide (1048576 < x2) = false := by simpa using h3
      by_cases h0 : k = 0
      · have hz2 := hz0.out h0
        have hg : Hid (riseB x1 (l.drop (k + 1)) = R) := by
          show riseB x1 (l.drop (k + 1)) = R
          rw [← hr.out, hst.out, if_neg (by omega)]
        have d4 : decide (0 < k) = false := by simp; omega
        have H0 := Lib.hid h0
        clear h0 hz2
        go_wp2
        go_quiet (fail)
        go_wp2
        go_roundw
        case rel => exact ⟨k + 1, _, x1, by omega, by go_num, rfl, hg.out, by omega, fun h => absurd h (by omega), fun _ => ⟨by rw [Nat.add_sub_cancel, ← HX.out], by omega⟩⟩
        case measure => simp [RowKit.intOf]; omega
      · obtain ⟨b1', o1', e1, c3⟩ := HPR.out (by omega)
        injection e1 with e1; injection e1 with e1 e2
        subst e1; subst e2
        have d4 : decide (0 < k) = true := by simp; omega
        have hkk : IntKind.i64.wrap ((k : Int) - 1) = ((k - 1 : Nat) : Int) := by rw [IntKind.wrap_i64]; omega
        have hk9 : ((k - 1 : Nat) : Int) < (n : Int) := by omega
        have hk8 : (0 : Int) ≤ ((k - 1 : Nat) : Int) := by omega
        by_cases h4 : x1 ≤ z
        · have hf := BAD.out (.inl h4)
          have d5 : decide (x1 ≤ z) = true := by simpa using h4
          go_wp2
          go_quiet (fail)
          go_wp2
          go_ret
          exact ⟨ret_b hf.out.symm, _, drew2 _ _ _⟩
        · have hg : Hid (riseB x1 (l.drop (k + 1)) = R) := by
            show riseB x1 (l.drop (k + 1)) = R
            rw [← hr.out, hst.out, if_neg (by omega)]
          have d5 : decide (x1 ≤ z) = false := by simpa using h4
          go_wp2
          go_quiet (fail)
          go_wp2
          go_roundw
          case rel => exact ⟨k + 1, _, x1, by omega, by go_num, rfl, hg.out, by omega, fun h => absurd h (by omega), fun _ => ⟨by rw [Nat.add_sub_cancel, ← HX.out], by omega⟩⟩
          case measure => simp [RowKit.intOf]; omega
    · go_wp2
      go_ret
      have e1 : l.drop k = [] := List.drop_eq_nil_of_le (by rw [hl.out]; omega)
      have := hr.out
      rw [e1] at this
      exact ⟨ret_b this, _, rfl⟩
end Go.Proofs.YtajcleobmgjhoaaGreatDoor
