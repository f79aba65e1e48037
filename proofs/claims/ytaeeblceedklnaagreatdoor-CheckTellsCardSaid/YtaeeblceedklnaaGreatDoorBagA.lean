/- Contracts of package bag: Right. -/
import Derived.Test.YtaeeblceedklnaaGreatDoorBagP
import Derived.Test.YtaeeblceedklnaaGreatDoorOpenR
import Derived.Test.YtaeeblceedklnaaGreatDoorChecked
import Derived.BigQuiet
import Derived.Deep.QuietTactic
import Derived.Deep.RegionWith
import Derived.BigRegion
import Derived.Deep.DeepCutAuto
namespace Go.Proofs.YtaeeblceedklnaaGreatDoor
open Go.RowKit
theorem ret_b {a b : Bool} (h : a = b) : Ending.returned (.bool a) = .returned (.bool b) := by rw [h]
set_option maxHeartbeats 1000000 in
theorem bag_Right (A : Option Addr) (n c : Nat) (l : Row) (w : World) (hA : Hid (Sl w (.slice A n c) n 2 (pairCells l))) :
    Calls Tryz.prog 46 #[.slice A n c] w fun e w' => e = .returned (.bool (rightB l)) ∧ Below w.heap.size w w' := by
  have hn := hA.out.bound
  have hl := Lib.hid (show l.length = n by have := hA.out.len; rw [pairCells_len] at this; omega)
  obtain ⟨R, hR⟩ : ∃ R, R = rightB l := ⟨_, rfl⟩
  rw [← hR]
  have HR := Lib.hid hR
  clear hR
  go_enter Tryz.func46, Tryz.ntmps46
  go_wp2
  go_loopw [3, 8] (fun a v wr => ∃ (k : Nat) (z : Int), k ≤ n ∧ a = .int .i64 z ∧ v = .int .i64 (k : Int) ∧ Hid (riseB z (l.drop k) = R) ∧ Hid (Below w.heap.size w wr)) (fun _ v _ => n - (intOf v).toNat)
  case atStart => exact ⟨0, -1, by omega, rfl, rfl, by show riseB (-1) l = R; exact HR.out.symm, Below.refl _ _⟩
  case round =>
    obtain ⟨k, z, hk, rfl, rfl, hr, hB⟩ := hrel
    by_cases hlt : k < n
    · obtain ⟨b1, o1, rfl, c1, c2⟩ := hA.out.pair_at hlt
      replace c1 := cell_kept hB.out c1
      replace c2 := cell_kept hB.out c2
      obtain ⟨x, hx⟩ : ∃ x, x = l.getD k (0, 0) := ⟨_, rfl⟩
      rw [← hx] at c1 c2
      have hd : Hid (riseB z (l.drop k) = if x.1 ≤ z ∨ x.2 < 1 ∨ 1048576 < x.2 then false else riseB x.1 (l.drop (k + 1))) := by
        show riseB z (l.drop k) = _
        rw [List.drop_eq_getElem_cons (by rw [hl.out]; exact hlt), hx, List.getD, List.getElem?_eq_getElem (by rw [hl.out]; exact hlt)]
        rfl
      clear hx
      obtain ⟨x1, x2⟩ := x
      simp only at c1 c2 hd
      have hlt2 : (k : Int) < (n : Int) := by omega
      have hk0 : (0 : Int) ≤ (k : Int) := by omega
      have hbx := Lib.hid (hB.out.alloc hB.out.size (.cells #[.int .i64 x1, .int .i64 x2] 83))
      by_cases h : x1 ≤ z ∨ x2 < 1 ∨ 1048576 < x2
      · have hf : Hid (R = false) := by
          show R = false
          rw [← hr.out, hd.out, if_pos h]
        clear hd
        by_cases h1 : x1 ≤ z
        · clear h
          go_wp2
          go_ret
          exact ⟨ret_b hf.out.symm, hbx.out⟩
        · by_cases h2 : x2 < 1
          · clear h
            go_wp2
            go_ret
            exact ⟨ret_b hf.out.symm, hbx.out⟩
          · have h3 : 1048576 < x2 := by omega
            clear h
            go_wp2
            go_ret
            exact ⟨ret_b hf.out.symm, hbx.out⟩
      · have hf : Hid (riseB x1 (l.drop (k + 1)) = R) := by
          show riseB x1 (l.drop (k + 1)) = R
          rw [← hr.out, hd.out, if_neg h]
        have h1 : ¬ x1 ≤ z := by omega
        have h2 : ¬ x2 < 1 := by omega
        have h3 : ¬ 1048576 < x2 := by omega
        clear h hd
        go_wp2
        go_roundw
        case rel => exact ⟨k + 1, x1, by omega, rfl, by go_num, hf, hbx⟩
        case measure => simp [intOf]; omega
    · go_wp2
      go_ret
      have e1 : l.drop k = [] := List.drop_eq_nil_of_le (by rw [hl.out]; omega)
      have := hr.out
      rw [e1] at this
      exact ⟨ret_b this, hB.out⟩
end Go.Proofs.YtaeeblceedklnaaGreatDoor
