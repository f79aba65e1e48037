/- The law CalcSigns, walked. -/
import Derived.Test.YtifbodndgjkgaaaCalcE
namespace Go.Proofs.Ytifbodndgjkgaaa
open Go.RowKit
theorem isOp_sign (op : Int) : isOp (signOf op) = knownB op ∧ (knownB op = true → opN (signOf op) = op) := by
  by_cases h : 1 ≤ op ∧ op ≤ 11
  · obtain ⟨h1, h2⟩ := h
    have : op = 1 ∨ op = 2 ∨ op = 3 ∨ op = 4 ∨ op = 5 ∨ op = 6 ∨ op = 7 ∨ op = 8 ∨ op = 9 ∨ op = 10 ∨ op = 11 := by omega
    rcases this with h | h | h | h | h | h | h | h | h | h | h <;> subst h <;> decide
  · have hk : knownB op = false := by simp [knownB]; omega
    have hs : signOf op = ⟨#[63]⟩ := by simp [signOf, h]
    rw [hk, hs]
    exact ⟨by decide, fun h => by cases h⟩
set_option maxHeartbeats 1000000 in
theorem law_CalcSigns (op : Int) (s : ByteArray) (w : World) :
    Calls Try.prog 4 #[.int .i64 op, .string s] w fun e w' => e = .returned (.bool true) ∧ Below w.heap.size w w' := by
  obtain ⟨h1, h2⟩ := isOp_sign op
  rcases hk : knownB op with _ | _
  all_goals
    rw [hk] at h1
    try have h3 := h2 hk
    clear h2
    go_enter Try.func4, Try.ntmps4
    go_wp2_with fail
    refine (law01_small _).mono ?_
    rintro e w1 ⟨rfl, hw1⟩
    go_wp2_with fail
    refine (calc_Op _ _).mono ?_
    rintro e w2 ⟨rfl, hw2⟩
    go_wp2_with fail
    refine (ref01_Op _ _).mono ?_
    rintro e w3 ⟨rfl, hw3⟩
    go_wp2_with fail
    refine (calc_Sign _ _).mono ?_
    rintro e w4 ⟨rfl, hw4⟩
    go_wp2_with fail
    refine (calc_Op _ _).mono ?_
    rintro e w5 ⟨rfl, hw5⟩
    go_wp2_with fail
    refine (calc_Sign _ _).mono ?_
    rintro e w6 ⟨rfl, hw6⟩
    go_wp2_with fail
    refine (ref01_Sign _ _).mono ?_
    rintro e w7 ⟨rfl, hw7⟩
    go_wp2_with fail
    refine (calc_Strength _ _).mono ?_
    rintro e w8 ⟨rfl, rfl⟩
    go_wp2_with fail
    refine (ref01_Strength _ _).mono ?_
    rintro e w9 ⟨rfl, hw9⟩
    go_wp2_with fail
    refine (calc_Known _ _).mono ?_
    rintro e w10 ⟨rfl, rfl⟩
    go_wp2
    go_ret
    have b12 := hw1.trans (hw2.mono hw1.size)
    have b13 := b12.trans (hw3.mono b12.size)
    have b14 := b13.trans (hw4.mono b13.size)
    have b15 := b14.trans (hw5.mono b14.size)
    have b16 := b15.trans (hw6.mono b15.size)
    have b17 := b16.trans (hw7.mono b16.size)
    have b18 := b17.trans (hw9.mono b17.size)
    exact ⟨rfl, b18⟩
end Go.Proofs.Ytifbodndgjkgaaa
