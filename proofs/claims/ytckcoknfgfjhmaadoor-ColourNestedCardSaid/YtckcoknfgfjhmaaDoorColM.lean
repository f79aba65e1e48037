/- Law 02: the small case. -/
import Derived.Test.YtckcoknfgfjhmaaDoorColL
namespace Go.Proofs.YtckcoknfgfjhmaaDoor
open Go.RowKit
section
variable {A : Option Addr} {n c : Nat} {L : List Col} {ss : List Int}
set_option maxRecDepth 100000 in
set_option maxHeartbeats 4000000 in
theorem col_Text_ok (p : Nat) (m : Int) (tx : ByteArray) (w : World) (hC : Hid (Cols w A n c L)) (hsz : Hid (sizesF L = some ss)) (hp : p < n) (h0 : 0 ≤ m) (h1 : m < ss.getD p 0)
    (T : ∀ B d W, Hid (SetOk W A n c L B d ss) → Hid (Calls Tryd.prog 20 #[setV A n c B d p, .int .i64 m] W fun e w' => e = .returned (.string tx) ∧ Below W.heap.size W w')) :
    Calls Tryd.prog 12 #[.slice A n c, .int .i64 (p : Int), .int .i64 m] w fun e w' => e = .returned (.string tx) ∧ Below w.heap.size w w' := by
  have hl := Lib.hid hC.out.2.2.1
  have HT := Lib.hid T
  clear T
  go_enter Tryd.func12, Tryd.ntmps12
  go_wp2_with fail
  refine (col_of A n c L (p : Int) w hC).mono ?_
  rintro e w2 ⟨hb, ⟨hbad, rfl⟩ | ⟨ss', B, d, hS, k0, k1, rfl⟩⟩
  · exfalso
    rcases hbad with h | h | h
    · rw [hsz.out] at h; cases h
    · omega
    · omega
  · have hss : ss' = ss := by
      have := hS.sz
      rw [hsz.out] at this
      injection this with this
      exact this.symm
    subst hss
    have HB := Lib.hid (hb.alloc hb.size (.cells #[.slice A n c, .slice B n d, .int .i64 (p : Int)] 42))
    have hS2 := Lib.hid (hS.below ((Below.refl _ w2).alloc (Nat.le_refl _) (.cells #[.slice A n c, .slice B n d, .int .i64 (p : Int)] 42)))
    have s0 := cell_new w2 #[.slice A n c, .slice B n d, .int .i64 (p : Int)] 42 0 _ rfl
    have s1 := cell_new w2 #[.slice A n c, .slice B n d, .int .i64 (p : Int)] 42 1 _ rfl
    have s2 := cell_new w2 #[.slice A n c, .slice B n d, .int .i64 (p : Int)] 42 2 _ rfl
    have cH := col_has p m _ hS2 hp
    rw [decide_eq_true h0, decide_eq_true h1] at cH
    have CH := Lib.hid cH
    clear hS hb cH
    go_wp2_with (first
      | (go_at_call 16; refine CH.out.mono ?_; rintro e w5 ⟨rfl, hb5⟩; have HB5 := Lib.hid (below_then HB.out hb5); have hS5 := Lib.hid (hS2.out.below hb5); have t0 := cell_kept hb5 s0; have t1 := cell_kept hb5 s1; have t2 := cell_kept hb5 s2; clear hb5)
      | (go_at_call 20; refine (HT.out B d _ hS5).out.mono ?_; rintro e w6 ⟨rfl, hb6⟩; have HB6 := Lib.hid (below_then HB5.out hb6); clear hb6))
    go_ret
    exact ⟨rfl, HB6.out⟩
set_option maxRecDepth 100000 in
set_option maxHeartbeats 4000000 in
theorem col_Text_no (p : Nat) (m : Int) (w : World) (hC : Hid (Cols w A n c L)) (hsz : Hid (sizesF L = some ss)) (hp : p < n) (h0 : 0 ≤ m) (h1 : ss.getD p 0 ≤ m) :
    Calls Tryd.prog 12 #[.slice A n c, .int .i64 (p : Int), .int .i64 m] w fun e w' => e = .returned (.string ⟨#[63]⟩) ∧ Below w.heap.size w w' := by
  go_enter Tryd.func12, Tryd.ntmps12
  go_wp2_with fail
  refine (col_of A n c L (p : Int) w hC).mono ?_
  rintro e w2 ⟨hb, ⟨hbad, rfl⟩ | ⟨ss', B, d, hS, k0, k1, rfl⟩⟩
  · exfalso
    rcases hbad with h | h | h
    · rw [hsz.out] at h; cases h
    · omega
    · omega
  · have hss : ss' = ss := by
      have := hS.sz
      rw [hsz.out] at this
      injection this with this
      exact this.symm
    subst hss
    have HB := Lib.hid (hb.alloc hb.size (.cells #[.slice A n c, .slice B n d, .int .i64 (p : Int)] 42))
    have hS2 := Lib.hid (hS.below ((Below.refl _ w2).alloc (Nat.le_refl _) (.cells #[.slice A n c, .slice B n d, .int .i64 (p : Int)] 42)))
    have s0 := cell_new w2 #[.slice A n c, .slice B n d, .int .i64 (p : Int)] 42 0 _ rfl
    have s1 := cell_new w2 #[.slice A n c, .slice B n d, .int .i64 (p : Int)] 42 1 _ rfl
    have s2 := cell_new w2 #[.slice A n c, .slice B n d, .int .i64 (p : Int)] 42 2 _ rfl
    have cH := col_has p m _ hS2 hp
    rw [decide_eq_true h0, decide_eq_false (by omega)] at cH
    have CH := Lib.hid cH
    clear hS hb cH
    go_wp2_with (go_at_call 16; refine CH.out.mono ?_; rintro e w5 ⟨rfl, hb5⟩; have HB5 := Lib.hid (below_then HB.out hb5); clear hb5)
    go_ret
    exact ⟨rfl, HB5.out⟩
set_option maxRecDepth 100000 in
set_option maxHeartbeats 4000000 in
theorem col_Read_ok (p : Nat) (t : ByteArray) (v : Int) (w : World) (hC : Hid (Cols w A n c L)) (hsz : Hid (sizesF L = some ss)) (hp : p < n)
    (T : ∀ B d W, Hid (SetOk W A n c L B d ss) → Hid (Calls Tryd.prog 19 #[setV A n c B d p, .string t] W fun e w' => e = .returned (.tuple #[.int .i64 v, .bool true]) ∧ Below W.heap.size W w')) :
    Calls Tryd.prog 10 #[.slice A n c, .int .i64 (p : Int), .string t] w fun e w' => e = .returned (.tuple #[.int .i64 v, .bool true]) ∧ Below w.heap.size w w' := by
  have HT := Lib.hid T
  clear T
  go_enter Tryd.func10, Tryd.ntmps10
  go_wp2_with fail
  refine (col_of A n c L (p : Int) w hC).mono ?_
  rintro e w2 ⟨hb, ⟨hbad, rfl⟩ | ⟨ss', B, d, hS, k0, k1, rfl⟩⟩
  · exfalso
    rcases hbad with h | h | h
    · rw [hsz.out] at h; cases h
    · omega
    · omega
  · have hss : ss' = ss := by
      have := hS.sz
      rw [hsz.out] at this
      injection this with this
      exact this.symm
    subst hss
    have HB := Lib.hid (hb.alloc hb.size (.cells #[.slice A n c, .slice B n d, .int .i64 (p : Int)] 42))
    have hS2 := Lib.hid (hS.below ((Below.refl _ w2).alloc (Nat.le_refl _) (.cells #[.slice A n c, .slice B n d, .int .i64 (p : Int)] 42)))
    have s0 := cell_new w2 #[.slice A n c, .slice B n d, .int .i64 (p : Int)] 42 0 _ rfl
    have s1 := cell_new w2 #[.slice A n c, .slice B n d, .int .i64 (p : Int)] 42 1 _ rfl
    have s2 := cell_new w2 #[.slice A n c, .slice B n d, .int .i64 (p : Int)] 42 2 _ rfl
    clear hS hb
    go_wp2_with (go_at_call 19; refine (HT.out B d _ hS2).out.mono ?_; rintro e w6 ⟨rfl, hb6⟩; have HB6 := Lib.hid (below_then HB.out hb6); clear hb6)
    go_ret2
    exact ⟨rfl, HB6.out⟩
set_option maxRecDepth 100000 in
set_option maxHeartbeats 4000000 in
theorem col_Number_int (p : Nat) (m : Int) (w : World) (hC : Hid (Cols w A n c L)) (hsz : Hid (sizesF L = some ss)) (hp : p < n) (h0 : 0 ≤ m) (h1 : m < ss.getD p 0) (hk : Hid ((L.getD p default).kind = 1)) (hr : I64 ((L.getD p default).lo + m)) :
    Calls Tryd.prog 11 #[.slice A n c, .int .i64 (p : Int), .int .i64 m] w fun e w' => e = .returned (.tuple #[.int .i64 ((L.getD p default).lo + m), .bool true]) ∧ Below w.heap.size w w' := by
  obtain ⟨lo, hlo⟩ : ∃ lo, (L.getD p default).lo = lo := ⟨_, rfl⟩
  obtain ⟨th, hth⟩ : ∃ th, (L.getD p default).then_ = th := ⟨_, rfl⟩
  have HLO := Lib.hid hlo
  have HTH := Lib.hid hth
  rw [hlo] at hr ⊢
  have d1 : IntKind.i64.wrap (lo + m) = lo + m := IntWalk.i64_in _ hr
  have hf1 := field_kind
  have hf2 := field_lo
  clear hlo hth
  go_enter Tryd.func11, Tryd.ntmps11
  go_wp2_with fail
  refine (col_of A n c L (p : Int) w hC).mono ?_
  rintro e w2 ⟨hb, ⟨hbad, rfl⟩ | ⟨ss', B, d, hS, k0, k1, rfl⟩⟩
  · exfalso
    rcases hbad with h | h | h
    · rw [hsz.out] at h; cases h
    · omega
    · omega
  · have hss : ss' = ss := by
      have := hS.sz
      rw [hsz.out] at this
      injection this with this
      exact this.symm
    subst hss
    have HB := Lib.hid (hb.alloc hb.size (.cells #[.slice A n c, .slice B n d, .int .i64 (p : Int)] 42))
    have hS2 := Lib.hid (hS.below ((Below.refl _ w2).alloc (Nat.le_refl _) (.cells #[.slice A n c, .slice B n d, .int .i64 (p : Int)] 42)))
    have s0 := cell_new w2 #[.slice A n c, .slice B n d, .int .i64 (p : Int)] 42 0 _ rfl
    have s1 := cell_new w2 #[.slice A n c, .slice B n d, .int .i64 (p : Int)] 42 1 _ rfl
    have s2 := cell_new w2 #[.slice A n c, .slice B n d, .int .i64 (p : Int)] 42 2 _ rfl
    have cH := col_has p m _ hS2 hp
    rw [decide_eq_true h0, decide_eq_true h1] at cH
    have CH := Lib.hid cH
    have CC := Lib.hid (fun W h => col_colour' p W h hp 1 lo th hk HLO HTH (A := A) (c := c) (L := L) (B := B) (d := d) (ss := ss'))
    clear hS hb cH
    go_wp2_with (first
      | (go_at_call 16; refine CH.out.mono ?_; rintro e w5 ⟨rfl, hb5⟩; have HB5 := Lib.hid (below_then HB.out hb5); have hS5 := Lib.hid (hS2.out.below hb5); have t0 := cell_kept hb5 s0; have t1 := cell_kept hb5 s1; have t2 := cell_kept hb5 s2; clear hb5 s0 s1 s2)
      | (go_at_call 17; refine (CC.out _ hS5).mono ?_; rintro e w6 ⟨⟨nm, hi, N, m', e1, fi, rfl⟩, hb6⟩; have HB6 := Lib.hid (below_then HB5.out hb6); have hS6 := Lib.hid (hS5.out.below hb6); have r0 := cell_kept hb6 t0; have r1 := cell_kept hb6 t1; have r2 := cell_kept hb6 t2; clear hb6 t0 t1 t2 hS5)
      | (go_at_call 17; refine (CC.out _ hS6).mono ?_; rintro e w7 ⟨⟨nm7, hi7, N7, m7, e7, fi7, rfl⟩, hb7⟩; have HB7 := Lib.hid (below_then HB6.out hb7); clear hb7))
    go_ret2
    exact ⟨rfl, HB7.out⟩
end
end Go.Proofs.YtckcoknfgfjhmaaDoor
