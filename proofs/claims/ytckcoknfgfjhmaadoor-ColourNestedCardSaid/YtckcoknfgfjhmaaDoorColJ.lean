/- Package colour: read of a pair, text. -/
import Derived.Test.YtckcoknfgfjhmaaDoorColI
namespace Go.Proofs.YtckcoknfgfjhmaaDoor
open Go.RowKit
section
variable {A : Option Addr} {n c : Nat} {L : List Col} {B : Option Addr} {d : Nat} {ss : List Int}
set_option maxRecDepth 100000 in
set_option maxHeartbeats 8000000 in
theorem col_read_pair (k p q : Nat) (t a b : ByteArray) (x y : Int) (w : World) (hS : Hid (SetOk w A n c L B d ss)) (hk : k < n) (hkd : Hid ((L.getD k default).kind = 3)) (hp : Hid ((L.getD k default).first = (p : Int))) (hq : Hid ((L.getD k default).then_ = (q : Int))) (hqn : q < n) (hc : Hid (CutTo t a b))
    (RA : ∀ W, Below w.heap.size w W → Hid (Calls Tryd.prog 19 #[setV A n c B d p, .string a] W fun e w' => e = .returned (.tuple #[.int .i64 x, .bool true]) ∧ Below W.heap.size W w'))
    (RB : ∀ W, Below w.heap.size w W → Hid (Calls Tryd.prog 19 #[setV A n c B d q, .string b] W fun e w' => e = .returned (.tuple #[.int .i64 y, .bool true]) ∧ Below W.heap.size W w'))
    (i1 : I64 (x * ss.getD q 0)) (i2 : I64 (x * ss.getD q 0 + y)) :
    Calls Tryd.prog 19 #[setV A n c B d k, .string t] w fun e w' => e = .returned (.tuple #[.int .i64 (x * ss.getD q 0 + y), .bool true]) ∧ Below w.heap.size w w' := by
  have HB1 := Lib.hid ((Below.refl w.heap.size w).alloc (Nat.le_refl _) (.cells #[.slice A n c, .slice B n d, .int .i64 (k : Int)] 42))
  have hS1 := Lib.hid (hS.out.below HB1.out)
  have s0 := cell_new w #[.slice A n c, .slice B n d, .int .i64 (k : Int)] 42 0 _ rfl
  have s1 := cell_new w #[.slice A n c, .slice B n d, .int .i64 (k : Int)] 42 1 _ rfl
  have s2 := cell_new w #[.slice A n c, .slice B n d, .int .i64 (k : Int)] 42 2 _ rfl
  have hcc := col_colour k _ hS1 hk
  obtain ⟨col, hcol⟩ : ∃ col, col = L.getD k default := ⟨_, rfl⟩
  rw [← hcol] at hkd hp hq hcc
  obtain ⟨nm, kd, lo, hi, ns, fi, th⟩ := col
  have hkd2 : kd = 3 := hkd.out
  have hp2 : fi = (p : Int) := hp.out
  have hq2 : th = (q : Int) := hq.out
  subst hkd2; subst hp2; subst hq2
  simp only at hcc
  obtain ⟨b0, o0, rfl, c1⟩ := hS1.out.sl.int_at' hqn
  obtain ⟨z, hz⟩ : ∃ z, z = ss.getD q 0 := ⟨_, rfl⟩
  rw [← hz] at c1 i1 i2 ⊢
  have e1 : IntKind.i64.wrap (x * z) = x * z := IntWalk.i64_in _ i1
  have e2 : IntKind.i64.wrap (x * z + y) = x * z + y := IntWalk.i64_in _ i2
  have q0 : (0 : Int) ≤ (q : Int) := by omega
  have q1 : (q : Int) < (n : Int) := by omega
  have HCC := Lib.hid hcc
  have HRA := Lib.hid RA
  have HRB := Lib.hid RB
  clear hcc hcol hz RA RB hkd hp hq
  obtain ⟨w1, hw1⟩ : ∃ w1, w1 = w.alloc (.cells #[.slice A n c, .slice (some ⟨b0, o0, none⟩) n d, .int .i64 (k : Int)] 42) := ⟨_, rfl⟩
  obtain ⟨g, hg⟩ : ∃ g, g = w.heap.size := ⟨_, rfl⟩
  have HW1 := Lib.hid hw1
  have HG := Lib.hid hg
  rw [← hw1] at s0 s1 s2 hS1 HB1 HCC c1
  rw [← hg] at s0 s1 s2
  clear hw1 hg
  go_enter Tryd.func19, Tryd.ntmps19
  go_upto_region 1 with fail
  rw [← HW1.out, ← HG.out]
  go_wp2_with (first
    | (go_at_call 17; refine HCC.out.mono ?_; rintro e w5 ⟨⟨N, m, e1, rfl, _⟩, hb5⟩
       have h6 := hb5.out.alloc hb5.out.size (.cells #[.string nm, .int .i64 3, .int .i64 lo, .int .i64 hi, .slice N m e1, .int .i64 (p : Int), .int .i64 (q : Int)] 27)
       have HB6 := Lib.hid (below_then HB1.out h6)
       have t0 := cell_kept h6 s0; have t1 := cell_kept h6 s1; have t2 := cell_kept h6 s2; have t3 := cell_kept h6 c1
       have q5 := cell_new w5 #[.string nm, .int .i64 3, .int .i64 lo, .int .i64 hi, .slice N m e1, .int .i64 (p : Int), .int .i64 (q : Int)] 27 5 _ rfl
       have q6 := cell_new w5 #[.string nm, .int .i64 3, .int .i64 lo, .int .i64 hi, .slice N m e1, .int .i64 (p : Int), .int .i64 (q : Int)] 27 6 _ rfl
       clear hb5 h6 s0 s1 s2 c1)
    | (go_at_call 26; refine (col_cut t a b _ hc).mono ?_; rintro e w7 ⟨rfl, hb7⟩
       have HB7 := Lib.hid (below_then HB6.out hb7)
       have u0 := cell_kept hb7 t0; have u1 := cell_kept hb7 t1; have u2 := cell_kept hb7 t2; have u3 := cell_kept hb7 t3; have u5 := cell_kept hb7 q5; have u6 := cell_kept hb7 q6
       clear hb7 t0 t1 t2 t3 q5 q6)
    | (go_at_call_of 27 (Value.int .i64 (p : Int)); refine (col_at (k : Int) (p : Int) _).mono ?_; rintro e w8 ⟨rfl, hb8⟩
       have HB8 := Lib.hid (below_then HB7.out hb8)
       have v0 := cell_kept hb8 u0; have v1 := cell_kept hb8 u1; have v2 := cell_kept hb8 u2; have v3 := cell_kept hb8 u3; have v5 := cell_kept hb8 u5; have v6 := cell_kept hb8 u6
       clear hb8 u0 u1 u2 u3 u5 u6)
    | (go_at_call_of 19 (Value.string a); refine (HRA.out _ HB8.out).out.mono ?_; rintro e w9 ⟨rfl, hb9⟩
       have HB9 := Lib.hid (below_then HB8.out hb9)
       have a0 := cell_kept hb9 v0; have a1 := cell_kept hb9 v1; have a2 := cell_kept hb9 v2; have a3 := cell_kept hb9 v3; have a5 := cell_kept hb9 v5; have a6 := cell_kept hb9 v6
       clear hb9 v0 v1 v2 v3 v5 v6)
    | (go_at_call_of 27 (Value.int .i64 (q : Int)); refine (col_at (k : Int) (q : Int) _).mono ?_; rintro e w10 ⟨rfl, hb10⟩
       have HB10 := Lib.hid (below_then HB9.out hb10)
       have b1 := cell_kept hb10 a1; have b3 := cell_kept hb10 a3; have b6 := cell_kept hb10 a6
       clear hb10 a0 a1 a2 a3 a5 a6)
    | (go_at_call_of 19 (Value.string b); refine (HRB.out _ HB10.out).out.mono ?_; rintro e w11 ⟨rfl, hb11⟩
       have HB11 := Lib.hid (below_then HB10.out hb11)
       have r1 := cell_kept hb11 b1; have r3 := cell_kept hb11 b3; have r6 := cell_kept hb11 b6
       clear hb11 b1 b3 b6))
  go_ret2
  exact ⟨rfl, HB11.out⟩
end
end Go.Proofs.YtckcoknfgfjhmaaDoor
