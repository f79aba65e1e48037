/- Package colour: text of a pair; Text, Read, Number. -/
import Derived.Test.YtckcoknfgfjhmaaDoorColK
import Derived.Test.YtckcoknfgfjhmaaDoorColJ
namespace Go.Proofs.YtckcoknfgfjhmaaDoor
open Go.RowKit
section
variable {A : Option Addr} {n c : Nat} {L : List Col} {B : Option Addr} {d : Nat} {ss : List Int}
set_option maxRecDepth 100000 in
set_option maxHeartbeats 8000000 in
theorem col_text_pair (k p q : Nat) (m : Int) (ta tb : ByteArray) (w : World) (hS : Hid (SetOk w A n c L B d ss)) (hk : k < n) (hkd : Hid ((L.getD k default).kind = 3)) (hp : Hid ((L.getD k default).first = (p : Int))) (hq : Hid ((L.getD k default).then_ = (q : Int))) (hqn : q < n) (h1 : 1 ≤ ss.getD q 0) (hm0 : 0 ≤ m) (hm1 : m ≤ 9223372036854775807) (hta : ta.size ≤ 1000) (htb : tb.size ≤ 1000)
    (TA : ∀ W, Below w.heap.size w W → Hid (Calls Tryd.prog 20 #[setV A n c B d p, .int .i64 (m / ss.getD q 0)] W fun e w' => e = .returned (.string ta) ∧ Below W.heap.size W w'))
    (TB : ∀ W, Below w.heap.size w W → Hid (Calls Tryd.prog 20 #[setV A n c B d q, .int .i64 (m % ss.getD q 0)] W fun e w' => e = .returned (.string tb) ∧ Below W.heap.size W w')) :
    Calls Tryd.prog 20 #[setV A n c B d k, .int .i64 m] w fun e w' => e = .returned (.string (⟨#[40]⟩ ++ ta ++ ⟨#[44]⟩ ++ tb ++ ⟨#[41]⟩)) ∧ Below w.heap.size w w' := by
  have HB1 := Lib.hid ((Below.refl w.heap.size w).alloc (Nat.le_refl _) (.cells #[.slice A n c, .slice B n d, .int .i64 (k : Int)] 42))
  have hS1 := Lib.hid (hS.out.below HB1.out)
  have s0 := cell_new w #[.slice A n c, .slice B n d, .int .i64 (k : Int)] 42 0 _ rfl
  have s1 := cell_new w #[.slice A n c, .slice B n d, .int .i64 (k : Int)] 42 1 _ rfl
  have s2 := cell_new w #[.slice A n c, .slice B n d, .int .i64 (k : Int)] 42 2 _ rfl
  have hcc := col_colour k _ hS1 hk
  have HQ := Lib.hid hq.out
  obtain ⟨col, hcol⟩ : ∃ col, col = L.getD k default := ⟨_, rfl⟩
  rw [← hcol] at hkd hp hq hcc
  obtain ⟨nm, kd, lo, hi, ns, fi, th⟩ := col
  have hkd2 : kd = 3 := hkd.out
  have hp2 : fi = (p : Int) := hp.out
  have hq2 : th = (q : Int) := hq.out
  subst hkd2; subst hp2; subst hq2
  simp only at hcc
  have HCC := Lib.hid hcc
  have CP := fun W (h : Below w.heap.size w W) => Lib.hid (col_parts (A := A) (c := c) (L := L) (B := B) (d := d) k q m W (Lib.hid (hS.out.below h)) hk hqn HQ h1 hm0 hm1)
  obtain ⟨x, hx⟩ : ∃ x, x = m / ss.getD q 0 := ⟨_, rfl⟩
  obtain ⟨y, hy⟩ : ∃ y, y = m % ss.getD q 0 := ⟨_, rfl⟩
  rw [← hx] at CP TA
  rw [← hy] at CP TB
  have HTA := Lib.hid TA
  have HTB := Lib.hid TB
  have HCP := Lib.hid CP
  have k1 : (9223372036854775807 < 1 + ta.size) = False := eq_false (by omega)
  have k2 : (9223372036854775807 < 1 + ta.size + 1) = False := eq_false (by omega)
  have k3 : (9223372036854775807 < 1 + ta.size + 1 + tb.size) = False := eq_false (by omega)
  have k4 : (9223372036854775807 < 1 + ta.size + 1 + tb.size + 1) = False := eq_false (by omega)
  clear hcc hcol TA TB CP hkd hp hq hx hy
  obtain ⟨w1, hw1⟩ : ∃ w1, w1 = w.alloc (.cells #[.slice A n c, .slice B n d, .int .i64 (k : Int)] 42) := ⟨_, rfl⟩
  obtain ⟨g, hg⟩ : ∃ g, g = w.heap.size := ⟨_, rfl⟩
  have HW1 := Lib.hid hw1
  have HG := Lib.hid hg
  rw [← hw1] at s0 s1 s2 hS1 HB1 HCC
  rw [← hg] at s0 s1 s2
  clear hw1 hg
  go_enter Tryd.func20, Tryd.ntmps20
  go_upto_region 1 with fail
  rw [← HW1.out, ← HG.out]
  go_wp2_with (first
    | (go_at_call 17; refine HCC.out.mono ?_; rintro e w5 ⟨⟨N, m2, e1, rfl, _⟩, hb5⟩
       have h6 := hb5.out.alloc hb5.out.size (.cells #[.string nm, .int .i64 3, .int .i64 lo, .int .i64 hi, .slice N m2 e1, .int .i64 (p : Int), .int .i64 (q : Int)] 27)
       have HB6 := Lib.hid (below_then HB1.out h6)
       have t0 := cell_kept h6 s0; have t1 := cell_kept h6 s1; have t2 := cell_kept h6 s2
       have q5 := cell_new w5 #[.string nm, .int .i64 3, .int .i64 lo, .int .i64 hi, .slice N m2 e1, .int .i64 (p : Int), .int .i64 (q : Int)] 27 5 _ rfl
       have q6 := cell_new w5 #[.string nm, .int .i64 3, .int .i64 lo, .int .i64 hi, .slice N m2 e1, .int .i64 (p : Int), .int .i64 (q : Int)] 27 6 _ rfl
       clear hb5 h6 s0 s1 s2)
    | (go_at_call 18; refine (HCP.out _ HB6.out).out.mono ?_; rintro e w7 ⟨rfl, hb7⟩
       have HB7 := Lib.hid (below_then HB6.out hb7)
       have u0 := cell_kept hb7 t0; have u1 := cell_kept hb7 t1; have u2 := cell_kept hb7 t2; have u5 := cell_kept hb7 q5; have u6 := cell_kept hb7 q6
       clear hb7 t0 t1 t2 q5 q6))
  obtain ⟨g5, hg5⟩ : ∃ g5, g5 = w5.heap.size := ⟨_, rfl⟩
  rw [← hg5] at u5 u6 ⊢
  clear hg5
  have HC := Lib.hid (show ∀ W, Below w7.heap.size w7 W → W.cell? ⟨g, 0, none⟩ = some (.slice A n c) ∧ W.cell? ⟨g, 1, none⟩ = some (.slice B n d) ∧ W.cell? ⟨g, 2, none⟩ = some (.int .i64 (k : Int)) ∧ W.cell? ⟨g5, 5, none⟩ = some (.int .i64 (p : Int)) ∧ W.cell? ⟨g5, 6, none⟩ = some (.int .i64 (q : Int)) from fun W h => ⟨cell_kept h u0, cell_kept h u1, cell_kept h u2, cell_kept h u5, cell_kept h u6⟩)
  have BD := Lib.hid (below_drewN' (Below.refl w7.heap.size w7) 1)
  go_region_held3 (fun W => W.cell? ⟨g, 0, none⟩ = some (.slice A n c) ∧ W.cell? ⟨g, 1, none⟩ = some (.slice B n d) ∧ W.cell? ⟨g, 2, none⟩ = some (.int .i64 (k : Int)) ∧ W.cell? ⟨g5, 5, none⟩ = some (.int .i64 (p : Int)) ∧ W.cell? ⟨g5, 6, none⟩ = some (.int .i64 (q : Int)))
    (first | exact HC.out _ BD4.out | exact HC.out _ BD3.out | exact HC.out _ BD2.out | exact HC.out _ BD1.out | exact HC.out _ BD.out)
    (first
      | (go_at_call_of 27 (Value.int .i64 (p : Int)); refine (col_at (k : Int) (p : Int) _).mono ?_; rintro e wa ⟨rfl, hba⟩; have BD1 := Lib.hid (below_then (show Below w7.heap.size w7 w7.drew from BD.out) hba); clear hba)
      | (go_at_call_of 20 (Value.int .i64 x); refine (HTA.out _ (below_then HB7.out BD1.out)).out.mono ?_; rintro e wb ⟨rfl, hbb⟩; have BD2 := Lib.hid (below_then BD1.out hbb); clear hbb)
      | (go_at_call_of 27 (Value.int .i64 (q : Int)); refine (col_at (k : Int) (q : Int) _).mono ?_; rintro e wc ⟨rfl, hbc⟩; have BD3 := Lib.hid (below_then BD2.out hbc); clear hbc)
      | (go_at_call_of 20 (Value.int .i64 y); refine (HTB.out _ (below_then HB7.out BD3.out)).out.mono ?_; rintro e wd ⟨rfl, hbd⟩; have BD4 := Lib.hid (below_then BD3.out hbd); clear hbd))
  all_goals
    have HB8 := Lib.hid (below_then HB7.out BD4.out)
    go_wp2
    go_ret
    exact ⟨rfl, HB8.out⟩
end
end Go.Proofs.YtckcoknfgfjhmaaDoor
