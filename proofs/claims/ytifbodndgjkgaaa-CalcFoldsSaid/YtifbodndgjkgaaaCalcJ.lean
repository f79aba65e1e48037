/- The law CalcFolds, walked. -/
import Derived.Test.YtifbodndgjkgaaaCalcE
import Derived.Test.YtifbodndgjkgaaaSl
import Derived.Deep.DeepMust
namespace Go.Proofs.Ytifbodndgjkgaaa
open Go.RowKit
theorem ints_ty : SlTy Try.prog 34 3 1 8 := SlTy.mk (z := .int .i64 0) Try.underlying34 (by kernel_rfl) rfl (by omega)
theorem calc_Fold_sl (op : Int) {A : Option Addr} {n c : Nat} {l : List Int} {w : World} (hl : Sl w (.slice A n c) n 1 (intCells l)) (hin : ∀ x ∈ l, I64 x) :
    Calls Try.prog 21 #[.int .i64 op, .slice A n c] w fun e w' => e = .returned (.tuple #[.int .i64 (foldLV op l), .int .i64 (foldLE op l)]) ∧ ∃ n, w' = w.drewN n := by
  have hlen := hl.len
  rw [intCells_len, Nat.mul_one] at hlen
  by_cases h0 : 0 < n
  · obtain ⟨b, off, rfl, hc⟩ := hl.at_ h0
    obtain ⟨_, _, h1, h2, h3, _⟩ := hl
    injection h1 with h1 _ h4
    subst h4
    exact calc_Fold op b off n c l w hlen h2 h3 hin fun j hj => hc j _ (intCells_at hj)
  · have : n = 0 := by omega
    subst this
    have : l = [] := List.eq_nil_of_length_eq_zero hlen
    subst this
    rw [(foldL_none op).1, (foldL_none op).2]
    exact (calc_Fold_none op A c w).mono fun _ _ ⟨he, hw⟩ => ⟨he, 0, hw.symm⟩
theorem ref01_Fold_sl (op : Int) {A : Option Addr} {n c : Nat} {l : List Int} {w : World} (hl : Sl w (.slice A n c) n 1 (intCells l)) (hin : ∀ x ∈ l, I64 x) :
    Calls Try.prog 22 #[.int .i64 op, .slice A n c] w fun e w' => e = .returned (.tuple #[.int .i64 (foldLV op l), .int .i64 (foldLE op l)]) ∧ w = w' := by
  have hlen := hl.len
  rw [intCells_len, Nat.mul_one] at hlen
  by_cases h0 : 0 < n
  · obtain ⟨b, off, rfl, hc⟩ := hl.at_ h0
    obtain ⟨_, _, h1, h2, h3, _⟩ := hl
    injection h1 with h1 _ h4
    subst h4
    exact ref01_Fold op b off n c l w hlen h2 h3 hin fun j hj => hc j _ (intCells_at hj)
  · have : n = 0 := by omega
    subst this
    have : l = [] := List.eq_nil_of_length_eq_zero hlen
    subst this
    rw [(foldL_none op).1, (foldL_none op).2]
    exact ref01_Fold_none op A c w
set_option maxHeartbeats 1000000 in
theorem law_CalcFolds (op : Int) {A : Option Addr} {n c : Nat} {l : List Int} (w : World) (hl : Sl w (.slice A n c) n 1 (intCells l)) (hin : ∀ x ∈ l, I64 x) (hn : (n : Int) ≤ 9223372036854775807) :
    Calls Try.prog 5 #[.int .i64 op, .slice A n c] w fun e w' => e = .returned (.bool true) ∧ Below w.heap.size w w' := by
  have HL := Lib.hid hl
  have HI := Lib.hid hin
  have HN := Lib.hid hl.len
  clear hl hin
  by_cases h200 : (200 : Int) < n
  · go_enter Try.func5, Try.ntmps5
    go_wp2_with (first
      | (go_at_call 9; refine (law01_small _).mono ?_; rintro e w' ⟨rfl, hw1⟩))
    go_ret
    exact ⟨rfl, hw1⟩
  · go_enter Try.func5, Try.ntmps5
    go_wp2_with fail
    refine (law01_small _).mono ?_
    rintro e w1 ⟨rfl, hw1⟩
    have hl1 := Lib.hid (HL.out.below hw1)
    have hown0 := Lib.hid (World.ownsRow_made w1 #[] 0 (base := w1.heap.size) (e := 3) (size := 1) (Nat.le_refl _) (by simp) rfl)
    go_wp2_with (at_builtin; go_must (refine wpList_append_sl (v := .slice (some ⟨w1.heap.size, 0, none⟩) 0 0) ints_ty rfl (.tmp 17) (.tmp 18) rfl w1.heap.size rfl hown0.out rfl (hl1.out.below ((Below.refl _ _).alloc (Nat.le_refl _) _)) (int_one l) (by omega) (by omega) (by simp) ?_); intro v2 w2 hown2 hg2 hat2)
    have hb2 : Below w.heap.size w w2 := by
      have h1 := hw1.alloc hw1.size (.cells #[] 3)
      exact below_grown h1 hg2 hown0.out hw1.size h1.size
    have hl2 := Lib.hid (HL.out.below hb2)
    have hi2 := Sl.of_own hown2
    rw [Nat.zero_add, List.nil_append] at hi2
    obtain ⟨A2, c2, rfl, hc2, _, hi3⟩ := hi2.form
    have HI2 := Lib.hid hi3
    clear hown2 hg2 hat2 hi2 hi3 hown0 hl1
    go_wp2_with (first
      | (go_at_call 21; refine (calc_Fold_sl op HI2.out HI.out).mono ?_; rintro e w' ⟨rfl, m, rfl⟩)
      | (go_at_call 22; refine (ref01_Fold_sl op (hl2.out.drewN _) HI.out).mono ?_; rintro e w' ⟨rfl, rfl⟩))
    go_loopw [11] (fun i wr => ∃ (k q : Nat), k ≤ n ∧ i = .int .i64 k ∧ wr = w2.drewN q) (fun i _ => n - (intOf i).toNat)
    case atStart => exact ⟨0, _, by omega, rfl, rfl⟩
    case round =>
      obtain ⟨k, q, hk, rfl, rfl⟩ := hrel
      by_cases hlt : k < n
      · obtain ⟨b, off, rfl, hc⟩ := hl2.out.at_ (by omega)
        obtain ⟨b2, off2, rfl, hcc⟩ := HI2.out.at_ (by omega)
        have hkl : k < l.length := by have := HN.out; rw [intCells_len] at this; omega
        have f1 := hc k _ (intCells_at hkl)
        have f2 := hcc k _ (intCells_at hkl)
        clear hc hcc hkl
        go_wp2
        go_quiet (fail)
        go_wp2
        go_roundw
        case rel => exact ⟨k + 1, _, by omega, by go_num, rfl⟩
        case measure => simp [intOf]; omega
      · go_wp2
        go_ret
        exact ⟨rfl, below_drewN hb2 _⟩
end Go.Proofs.Ytifbodndgjkgaaa
