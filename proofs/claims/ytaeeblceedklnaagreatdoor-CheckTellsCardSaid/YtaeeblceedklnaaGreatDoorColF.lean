/- Package colour: Right, Size, Parts, Number. -/
import Derived.Test.YtaeeblceedklnaaGreatDoorColE
import Derived.Deep.DeepCutAuto
namespace Go.Proofs.YtaeeblceedklnaaGreatDoor
open Go.RowKit
def sizeAt (L : List Col) (k : Int) : Int := match sizesF L with
  | none => 0
  | some ss => if 0 ≤ k ∧ k < (L.length : Int) then ss.getD k.toNat 0 else 0
theorem sizeAt_bad {L : List Col} {k : Int} {n : Nat} (hl : L.length = n) (h : sizesF L = none ∨ k < 0 ∨ (n : Int) ≤ k) : sizeAt L k = 0 := by
  unfold sizeAt
  rcases hs : sizesF L with _ | ss
  · rfl
  · rcases h with h | h
    · rw [hs] at h; cases h
    · simp only
      rw [if_neg (by omega)]
theorem sizeAt_ok {L : List Col} {p : Nat} {ss : List Int} (h : sizesF L = some ss) (hp : p < L.length) : sizeAt L (p : Int) = ss.getD p 0 := by
  unfold sizeAt
  rw [h]
  simp only
  rw [if_pos (by omega), Int.toNat_natCast]
set_option maxRecDepth 100000 in
set_option maxHeartbeats 1000000 in
theorem col_Right (A : Option Addr) (n c : Nat) (L : List Col) (w : World) (hC : Hid (Cols w A n c L)) :
    Calls Tryz.prog 17 #[.slice A n c] w fun e w' => e = .returned (.bool (sizesF L).isSome) ∧ Below w.heap.size w w' := by
  go_enter Tryz.func17, Tryz.ntmps17
  go_wp2_with fail
  refine (col_sizes A n c L w hC).mono ?_
  rintro e w2 ⟨hb, ⟨hz, rfl⟩ | ⟨ss, B, d, hz, _, _, rfl, _⟩⟩
  all_goals
    have HZ := Lib.hid hz
    have HB := Lib.hid hb
    clear hz hb
    go_wp2
    go_ret
    exact ⟨by rw [HZ.out]; rfl, HB.out⟩
set_option maxRecDepth 100000 in
set_option maxHeartbeats 2000000 in
theorem col_Size (A : Option Addr) (n c : Nat) (L : List Col) (k : Int) (w : World) (hC : Hid (Cols w A n c L)) :
    Calls Tryz.prog 48 #[.slice A n c, .int .i64 k] w fun e w' => e = .returned (.int .i64 (sizeAt L k)) ∧ Below w.heap.size w w' := by
  have hl := Lib.hid hC.out.2.2.1
  go_enter Tryz.func48, Tryz.ntmps48
  go_wp2_with fail
  refine (col_of A n c L k w hC).mono ?_
  rintro e w2 ⟨hb, ⟨hbad, rfl⟩ | ⟨ss, B, d, hS, k0, k1, rfl⟩⟩
  · have HZ := Lib.hid (sizeAt_bad hl.out hbad)
    have HB := Lib.hid (hb.alloc hb.size (.cells #[.slice none 0 0, .slice none 0 0, .int .i64 0] 114))
    clear hb hbad
    go_wp2
    go_ret
    exact ⟨by rw [HZ.out]; rfl, HB.out⟩
  · obtain ⟨p, rfl⟩ : ∃ p : Nat, k = (p : Int) := ⟨k.toNat, by omega⟩
    have HZ := Lib.hid (sizeAt_ok hS.sz (p := p) (by rw [hl.out]; omega))
    have HB := Lib.hid (hb.alloc hb.size (.cells #[.slice A n c, .slice B n d, .int .i64 (p : Int)] 114))
    have hS2 := hS.below ((Below.refl _ w2).alloc (Nat.le_refl _) (.cells #[.slice A n c, .slice B n d, .int .i64 (p : Int)] 114))
    obtain ⟨b, o, rfl, c1⟩ := hS2.sl.int_at' (k := p) (by omega)
    rw [← HZ.out] at c1
    clear hS hS2 hb
    go_wp2
    go_ret
    exact ⟨rfl, HB.out⟩
def partsP (L : List Col) (k m : Int) : Option (Int × Int) := match sizesF L with
  | none => none
  | some ss => if 0 ≤ k ∧ k < (L.length : Int) ∧ 0 ≤ m ∧ m < ss.getD k.toNat 0 ∧ (L.getD k.toNat default).kind = 3 then some (m / ss.getD (L.getD k.toNat default).then_.toNat 0, m % ss.getD (L.getD k.toNat default).then_.toNat 0) else none
def partsV (L : List Col) (k m : Int) : Value := match partsP L k m with
  | none => .tuple #[.int .i64 0, .int .i64 0, .bool false]
  | some (a, b) => .tuple #[.int .i64 a, .int .i64 b, .bool true]
theorem partsP_bad {L : List Col} {k m : Int} {n : Nat} (hl : L.length = n) (h : sizesF L = none ∨ k < 0 ∨ (n : Int) ≤ k) : partsP L k m = none := by
  unfold partsP
  rcases hs : sizesF L with _ | ss
  · rfl
  · rcases h with h | h
    · rw [hs] at h; cases h
    · simp only
      rw [if_neg (by omega)]
theorem partsP_no {L : List Col} {p : Nat} {m : Int} {ss : List Int} (h : sizesF L = some ss) (hm : ¬ (0 ≤ m ∧ m < ss.getD p 0) ∨ (L.getD p default).kind ≠ 3) : partsP L (p : Int) m = none := by
  unfold partsP
  rw [h]
  simp only [Int.toNat_natCast]
  rw [if_neg]
  rintro ⟨_, _, h1, h2, h3⟩
  rcases hm with hm | hm
  · exact hm ⟨h1, h2⟩
  · exact hm h3
theorem partsP_ok {L : List Col} {p q : Nat} {m : Int} {ss : List Int} (h : sizesF L = some ss) (hp : p < L.length) (h0 : 0 ≤ m) (h1 : m < ss.getD p 0) (h3 : (L.getD p default).kind = 3) (hq : (L.getD p default).then_ = (q : Int)) : partsP L (p : Int) m = some (m / ss.getD q 0, m % ss.getD q 0) := by
  unfold partsP
  rw [h]
  simp only [Int.toNat_natCast]
  rw [if_pos ⟨by omega, by omega, h0, h1, h3⟩, hq, Int.toNat_natCast]
end Go.Proofs.YtaeeblceedklnaaGreatDoor
