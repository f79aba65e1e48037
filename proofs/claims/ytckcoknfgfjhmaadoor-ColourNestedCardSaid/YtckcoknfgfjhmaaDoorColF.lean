/- Package colour: Right, Size, Parts, Number. -/
import Derived.Test.YtckcoknfgfjhmaaDoorColE
import Derived.Deep.DeepCutAuto
namespace Go.Proofs.YtckcoknfgfjhmaaDoor
open Go.RowKit
def sizeAt (L : List Col) (k : Int) : Int := match sizesF L with
  | none => 0
  | some ss => if 0 ≤ k ∧ k < (L.length : Int) then ss.getD k.toNat 0 else 0
theorem sizeAt_bad {L : List Col} {k : Int} {n : Nat} (hl : L.length = n) (h : sizesF L = none ∨ k < 0 ∨ (n : Int) ≤ k) : sizeAt L k = 0 := by
  unfold sizeAt
  rcases hs : sizesF L with _ | ss
  · rfl
  · rcases h with h | h
    · rw [hs] at h; cases h
    · simp only
      rw [if_neg (by omega)]
theorem sizeAt_ok {L : List Col} {p : Nat} {ss : List Int} (h : sizesF L = some ss) (hp : p < L.length) : sizeAt L (p : Int) = ss.getD p 0 := by
  unfold sizeAt
  rw [h]
  simp only
  rw [if_pos (by omega), Int.toNat_natCast]
set_option maxRecDepth 100000 in
set_option maxHeartbeats 1000000 in
theorem col_Right (A : Option Addr) (n c : Nat) (L : List Col) (w : World) (hC : Hid (Cols w A n c L)) :
    Calls Tryd.prog 6 #[.slice A n c] w fun e w' => e = .returned (.bool (sizesF L).isSome) ∧ Below w.heap.size w w' := by
  go_enter Tryd.func6, Tryd.ntmps6
  go_wp2_with fail
  refine (col_sizes A n c L w hC).mono ?_
  rintro e w2 ⟨hb, ⟨hz, rfl⟩ | ⟨ss, B, d, hz, _, _, rfl, _⟩⟩
  all_goals
    have HZ := Lib.hid hz
    have HB := Lib.hid hb
    clear hz hb
    go_wp2
    go_ret
    exact ⟨by rw [HZ.out]; rfl, HB.out⟩
set_option maxRecDepth 100000 in
set_option maxHeartbeats 2000000 in
theorem col_Size (A : Option Addr) (n c : Nat) (L : List Col) (k : Int) (w : World) (hC : Hid (Cols w A n c L)) :
    Calls Tryd.prog 7 #[.slice A n c, .int .i64 k] w fun e w' => e = .returned (.int .i64 (sizeAt L k)) ∧ Below w.heap.size w w' := by
  have hl := Lib.hid hC.out.2.2.1
  go_enter Tryd.func7, Tryd.ntmps7
  go_wp2_with fail
  refine (col_of A n c L k w hC).mono ?_
  rintro e w2 ⟨hb, ⟨hbad, rfl⟩ | ⟨ss, B, d, hS, k0, k1, rfl⟩⟩
  · have HZ := Lib.hid (sizeAt_bad hl.out hbad)
    have HB := Lib.hid (hb.alloc hb.size (.cells #[.slice none 0 0, .slice none 0 0, .int .i64 0] 42))
    clear hb hbad
    go_wp2
    go_ret
    exact ⟨by rw [HZ.out]; rfl, HB.out⟩
  · obtain ⟨p, rfl⟩ : ∃ p : Nat, k = (p : Int) := ⟨k.toNat, by omega⟩
    have HZ := Lib.hid (sizeAt_ok hS.sz (p := p) (by rw [hl.out]; omega))
    have HB := Lib.hid (hb.alloc hb.size (.cells #[.slice A n c, .slice B n d, .int .i64 (p : Int)] 42))
    have hS2 := hS.below ((Below.refl _ w2).alloc (Nat.le_refl _) (.cells #[.slice A n c, .slice B n d, .int .i64 (p : Int)] 42))
    obtain ⟨b, o, rfl, c1⟩ := hS2.sl.int_at' (k := p) (by omega)
    rw [← HZ.out] at c1
    clear hS hS2 hb
    go_wp2
    go_ret
    exact ⟨rfl, HB.out⟩
def partsP (L : List Col) (k m : Int) : Option (Int × Int) := match sizesF L with
  | none => none
  | some ss => if 0 ≤ k ∧ k < (L.length : Int) ∧ 0 ≤ m ∧ m < ss.getD k.toNat 0 ∧ (L.getD k.toNat default).kind = 3 then some (m / ss.getD (L.getD k.toNat default).then_.toNat 0, m % ss.getD (L.getD k.toNat default).then_.toNat 0) else none
def partsV (L : List Col) (k m : Int) : Value := match partsP L k m with
  | none => .tuple #[.int .i64 0, .int .i64 0, .bool false]
  | some (a, b) => .tuple #[.int .i64 a, .int .i64 b, .bool true]
theorem partsP_bad {L : List Col} {k m : Int} {n : Nat} (hl : L.length = n) (h : sizesF L = none ∨ k < 0 ∨ (n : Int) ≤ k) : partsP L k m = none := by
  unfold partsP
  rcases hs : sizesF L with _ | ss
  · rfl
  · rcases h with h | h
    · rw [hs] at h; cases h
    · simp only
      rw [if_neg (by omega)]
theorem partsP_no {L : List Col} {p : Nat} {m : Int} {ss : List Int} (h : sizesF L = some ss) (hm : ¬ (0 ≤ m ∧ m < ss.getD p 0) ∨ (L.getD p default).kind ≠ 3) : partsP L (p : Int) m = none := by
  unfold partsP
  rw [h]
  simp only [Int.toNat_natCast]
  rw [if_neg]
  rintro ⟨_, _, h1, h2, h3⟩
  rcases hm with hm | hm
  · exact hm ⟨h1, h2⟩
  · exact hm h3
theorem partsP_ok {L : List Col} {p q : Nat} {m : Int} {ss : List Int} (h : sizesF L = some ss) (hp : p < L.length) (h0 : 0 ≤ m) (h1 : m < ss.getD p 0) (h3 : (L.getD p default).kind = 3) (hq : (L.getD p default).then_ = (q : Int)) : partsP L (p : Int) m = some (m / ss.getD q 0, m % ss.getD q 0) := by
  unfold partsP
  rw [h]
  simp only [Int.toNat_natCast]
  rw [if_pos ⟨by omega, by omega, h0, h1, h3⟩, hq, Int.toNat_natCast]
theorem col_colour' {A : Option Addr} {n c : Nat} {L : List Col} {B : Option Addr} {d : Nat} {ss : List Int} (k : Nat) (w : World) (hS : Hid (SetOk w A n c L B d ss)) (hk : k < n) (kd lo th : Int) (h1 : Hid ((L.getD k default).kind = kd)) (h2 : Hid ((L.getD k default).lo = lo)) (h3 : Hid ((L.getD k default).then_ = th)) :
    Calls Tryd.prog 17 #[setV A n c B d k] w fun e w' => (∃ nm hi N m e1 fi, e = .returned (.agg #[.string nm, .int .i64 kd, .int .i64 lo, .int .i64 hi, .slice N m e1, .int .i64 fi, .int .i64 th])) ∧ Below w.heap.size w w' := by
  refine (col_colour k w hS hk).mono ?_
  rintro e w5 ⟨⟨N, nm, e1, rfl, _⟩, hb5⟩
  exact ⟨⟨_, _, _, _, _, _, by rw [← h1.out, ← h2.out, ← h3.out]⟩, hb5.out⟩
set_option maxRecDepth 100000 in
set_option maxHeartbeats 4000000 in
theorem col_Parts (A : Option Addr) (n c : Nat) (L : List Col) (k m : Int) (w : World) (hC : Hid (Cols w A n c L)) (hm9 : m ≤ 9223372036854775807) :
    Calls Tryd.prog 8 #[.slice A n c, .int .i64 k, .int .i64 m] w fun e w' => e = .returned (partsV L k m) ∧ Below w.heap.size w w' := by
  have hl := Lib.hid hC.out.2.2.1
  go_enter Tryd.func8, Tryd.ntmps8
  go_wp2_with fail
  refine (col_of A n c L k w hC).mono ?_
  rintro e w2 ⟨hb, ⟨hbad, rfl⟩ | ⟨ss, B, d, hS, k0, k1, rfl⟩⟩
  · have HZ := Lib.hid (partsP_bad (m := m) hl.out hbad)
    have HB := Lib.hid (hb.alloc hb.size (.cells #[.slice none 0 0, .slice none 0 0, .int .i64 0] 42))
    clear hb hbad
    go_wp2
    go_ret3
    exact ⟨by unfold partsV; rw [HZ.out]; rfl, HB.out⟩
  · obtain ⟨p, rfl⟩ : ∃ p : Nat, k = (p : Int) := ⟨k.toNat, by omega⟩
    have HSZ := Lib.hid hS.sz
    have HB := Lib.hid (hb.alloc hb.size (.cells #[.slice A n c, .slice B n d, .int .i64 (p : Int)] 42))
    have hS2 := Lib.hid (hS.below ((Below.refl _ w2).alloc (Nat.le_refl _) (.cells #[.slice A n c, .slice B n d, .int .i64 (p : Int)] 42)))
    have s0 := cell_new w2 #[.slice A n c, .slice B n d, .int .i64 (p : Int)] 42 0 _ rfl
    have s1 := cell_new w2 #[.slice A n c, .slice B n d, .int .i64 (p : Int)] 42 1 _ rfl
    have s2 := cell_new w2 #[.slice A n c, .slice B n d, .int .i64 (p : Int)] 42 2 _ rfl
    have hpn : p < n := by omega
    clear hS hb
    go_upto_region 2 with fail
    generalize hW : w2.alloc _ = w3 at HB hS2 s0 s1 s2 ⊢
    generalize hG : w2.heap.size = g at s0 s1 s2 ⊢
    clear hW hG
    have cH := col_has p m w3 hS2 hpn
    have hat := (sizesF_at HSZ.out).2 p (by rw [hl.out]; exact hpn)
    rcases hh : (decide (0 ≤ m) && decide (m < ss.getD p 0)) with _ | _
    · have HZ := Lib.hid (partsP_no HSZ.out (p := p) (m := m) (.inl (by rintro ⟨a1, a2⟩; rw [decide_eq_true a1, decide_eq_true a2] at hh; cases hh)))
      rw [hh] at cH
      have CH := Lib.hid cH
      clear hh cH hat
      go_wp2_with (go_at_call 16; refine CH.out.mono ?_; rintro e w5 ⟨rfl, hb5⟩; have HB5 := Lib.hid (below_then HB.out hb5); clear hb5)
      go_ret3
      exact ⟨by unfold partsV; rw [HZ.out]; rfl, HB5.out⟩
    · rw [hh] at cH
      have CH := Lib.hid cH
      simp only [Bool.and_eq_true, decide_eq_true_eq] at hh
      obtain ⟨m0, m1⟩ := hh
      obtain ⟨kd, hkd⟩ : ∃ kd, (L.getD p default).kind = kd := ⟨_, rfl⟩
      obtain ⟨lo, hlo⟩ : ∃ lo, (L.getD p default).lo = lo := ⟨_, rfl⟩
      obtain ⟨th, hth⟩ : ∃ th, (L.getD p default).then_ = th := ⟨_, rfl⟩
      have HKD := Lib.hid hkd
      have HLO := Lib.hid hlo
      have HTH := Lib.hid hth
      have hf1 := field_kind
      have M1 := Lib.hid m1
      clear cH hat hlo m1
      by_cases k3 : kd = 3
      · subst k3
        obtain ⟨r, q, hr, hq, hrp, hqp, hprod⟩ := pair_at_ HSZ.out (k := p) (by rw [hl.out]; exact hpn) hkd
        have HZ := Lib.hid (partsP_ok HSZ.out (by rw [hl.out]; exact hpn) m0 M1.out hkd hq)
        have hq1 := ((sizesF_at HSZ.out).2 q (by rw [hl.out]; omega)).2
        have HQ := Lib.hid hq
        clear hkd hth hr hprod hq
        go_wp2_with (first
          | (go_at_call 16; refine CH.out.mono ?_; rintro e w5 ⟨rfl, hb5⟩; have HB5 := Lib.hid (below_then HB.out hb5); have hS5 := Lib.hid (hS2.out.below hb5); have t0 := cell_kept hb5 s0; have t1 := cell_kept hb5 s1; have t2 := cell_kept hb5 s2; clear hb5)
          | (go_at_call 17; refine (col_colour' p _ hS5 hpn _ _ _ HKD HLO HTH).mono ?_; rintro e w6 ⟨⟨nm, hi, N, m', e1, fi, rfl⟩, hb6⟩; have HB6 := Lib.hid (below_then HB5.out hb6); have hS6 := Lib.hid (hS5.out.below hb6); have r0 := cell_kept hb6 t0; have r1 := cell_kept hb6 t1; have r2 := cell_kept hb6 t2; clear hb6)
          | (go_at_call 18; refine (col_parts p q m _ hS6 hpn (by omega) HQ hq1 m0 hm9).mono ?_; rintro e w7 ⟨rfl, hb7⟩; have HB7 := Lib.hid (below_then HB6.out hb7); clear hb7))
        go_ret3
        exact ⟨by unfold partsV; rw [HZ.out]; rfl, HB7.out⟩
      · have b3 : (kd == 3) = false := by simpa using k3
        have b4 : (kd != 3) = true := by simpa using k3
        have HZ := Lib.hid (partsP_no HSZ.out (p := p) (m := m) (.inr (by rw [hkd]; exact k3)))
        clear hkd hth k3
        go_wp2_with (first
          | (go_at_call 16; refine CH.out.mono ?_; rintro e w5 ⟨rfl, hb5⟩; have HB5 := Lib.hid (below_then HB.out hb5); have hS5 := Lib.hid (hS2.out.below hb5); have t0 := cell_kept hb5 s0; have t1 := cell_kept hb5 s1; have t2 := cell_kept hb5 s2; clear hb5)
          | (go_at_call 17; refine (col_colour' p _ hS5 hpn _ _ _ HKD HLO HTH).mono ?_; rintro e w6 ⟨⟨nm, hi, N, m', e1, fi, rfl⟩, hb6⟩; have HB6 := Lib.hid (below_then HB5.out hb6); clear hb6))
        go_ret3
        exact ⟨by unfold partsV; rw [HZ.out]; rfl, HB6.out⟩
end Go.Proofs.YtckcoknfgfjhmaaDoor
