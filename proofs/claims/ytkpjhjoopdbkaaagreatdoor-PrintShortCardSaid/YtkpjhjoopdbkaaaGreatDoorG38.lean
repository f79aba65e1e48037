/- Joined: Package print: names, members, what is first, kinds, lines of colours and places. Printed by gen_prB.py. -/
import Derived.Test.YtkpjhjoopdbkaaaGreatDoorG37
import Derived.Laws.Concat
namespace Go.Proofs.YtkpjhjoopdbkaaaGreatDoor
open Go.RowKit
theorem itoaB_size {n : Int} (h : I64 n) : (itoaB n).size ≤ 22 := by
  have := dec_len h
  show (Lib.itoa n).toArray.size ≤ 22
  simpa using this
theorem pr_place1 (p : Pl) (A : Option Addr) (n c : Nat) (w : World) : Calls Tryz.prog 103 #[p.val A n c] w fun e w' => e = .returned (.string p.name) ∧ Below w.heap.size w w' := by
  have c0 := cell_new w #[.string p.name, .int .i64 p.colour, .slice A n c] 66 0 _ rfl
  have HB := Lib.hid (alrB w (.cells #[.string p.name, .int .i64 p.colour, .slice A n c] 66))
  go_enter Tryz.func103, Tryz.ntmps103
  go_wp2
  go_ret
  exact ⟨rfl, HB.out⟩
abbrev colV' (x : Col) (A : Option Addr) (n c : Nat) : Value := .agg #[.string x.name, .int .i64 x.kind, .int .i64 x.lo, .int .i64 x.hi, .slice A n c, .int .i64 x.first, .int .i64 x.then_]
abbrev colO (x : Col) (A : Option Addr) (n c : Nat) : Obj := .cells #[.string x.name, .int .i64 x.kind, .int .i64 x.lo, .int .i64 x.hi, .slice A n c, .int .i64 x.first, .int .i64 x.then_] 82
theorem pr_colour1 (x : Col) (A : Option Addr) (n c : Nat) (w : World) : Calls Tryz.prog 152 #[colV' x A n c] w fun e w' => e = .returned (.string x.name) ∧ Below w.heap.size w w' := by
  have c0 := cell_new w #[.string x.name, .int .i64 x.kind, .int .i64 x.lo, .int .i64 x.hi, .slice A n c, .int .i64 x.first, .int .i64 x.then_] 82 0 _ rfl
  have HB := Lib.hid (alrB w (colO x A n c))
  go_enter Tryz.func152, Tryz.ntmps152
  go_wp2
  go_ret
  exact ⟨rfl, HB.out⟩
set_option maxHeartbeats 4000000 in
theorem pr_at_place (A : Option Addr) (n c : Nat) (L : List Pl) (k : Int) (w : World) (hS : Hid (SlOf 3 PlAt w A n c L)) (hk : I64 k) :
    Calls Tryz.prog 102 #[.slice A n c, .int .i64 k, .func (.func 103) #[] #[]] w fun e w' => e = .returned (.string (atB L (·.name) k)) ∧ Below w.heap.size w w' := by
  have HL := Lib.hid (show L.length = n by exact hS.out.len.1)
  unfold atB
  rw [HL.out]
  by_cases h0 : 0 ≤ k
  · by_cases h1 : k < (n : Int)
    · rw [if_pos ⟨h0, h1⟩]
      obtain ⟨m, rfl⟩ : ∃ m : Nat, k = m := ⟨k.toNat, by omega⟩
      have hm : m < n := by omega
      rw [Int.toNat_natCast]
      obtain ⟨b1, o1, rfl, Ap, np, cp, P⟩ := hS.out.at_ hm
      obtain ⟨x, hx⟩ : ∃ x, x = L.getD m default := ⟨_, rfl⟩
      rw [← hx] at P ⊢
      clear hx
      have c0 := P.c0
      have c1 := P.c1
      have c2 := P.c2
      have hge : ¬ (n : Int) ≤ (m : Int) := by omega
      clear P
      go_enter Tryz.func102, Tryz.ntmps102
      go_wp2_with (go_at_call 103; refine (pr_place1 x _ _ _ _).mono ?_; rintro e w2 ⟨rfl, hb⟩; have HB := Lib.hid hb; clear hb)
      go_ret
      exact ⟨rfl, HB.out⟩
    · rw [if_neg (fun h => h1 h.2)]
      have hge : (n : Int) ≤ k := by omega
      go_enter Tryz.func102, Tryz.ntmps102
      go_wp2
      go_ret
      exact ⟨rfl, Below.refl _ _⟩
  · rw [if_neg (fun h => h0 h.1)]
    have hlt : k < 0 := by omega
    go_enter Tryz.func102, Tryz.ntmps102
    go_wp2
    go_ret
    exact ⟨rfl, Below.refl _ _⟩
set_option maxHeartbeats 4000000 in
theorem pr_at_colour (A : Option Addr) (n c : Nat) (L : List Col) (k : Int) (w : World) (hS : Hid (Cols w A n c L)) (hk : I64 k) :
    Calls Tryz.prog 151 #[.slice A n c, .int .i64 k, .func (.func 152) #[] #[]] w fun e w' => e = .returned (.string (atB L (·.name) k)) ∧ Below w.heap.size w w' := by
  have HL := Lib.hid (show L.length = n by exact hS.out.2.2.1)
  unfold atB
  rw [HL.out]
  by_cases h0 : 0 ≤ k
  · by_cases h1 : k < (n : Int)
    · rw [if_pos ⟨h0, h1⟩]
      obtain ⟨m, rfl⟩ : ∃ m : Nat, k = m := ⟨k.toNat, by omega⟩
      have hm : m < n := by omega
      rw [Int.toNat_natCast]
      obtain ⟨b1, o1, rfl, Ap, np, cp, P⟩ := hS.out.at_ hm
      obtain ⟨x, hx⟩ : ∃ x, x = L.getD m default := ⟨_, rfl⟩
      rw [← hx] at P ⊢
      clear hx
      have c0 := P.c0
      have c1 := P.c1
      have c2 := P.c2
      have c3 := P.c3
      have c4 := P.c4
      have c5 := P.c5
      have c6 := P.c6
      have hge : ¬ (n : Int) ≤ (m : Int) := by omega
      clear P
      go_enter Tryz.func151, Tryz.ntmps151
      go_wp2_with (go_at_call 152; refine (pr_colour1 x _ _ _ _).mono ?_; rintro e w2 ⟨rfl, hb⟩; have HB := Lib.hid hb; clear hb)
      go_ret
      exact ⟨rfl, HB.out⟩
    · rw [if_neg (fun h => h1 h.2)]
      have hge : (n : Int) ≤ k := by omega
      go_enter Tryz.func151, Tryz.ntmps151
      go_wp2
      go_ret
      exact ⟨rfl, Below.refl _ _⟩
  · rw [if_neg (fun h => h0 h.1)]
    have hlt : k < 0 := by omega
    go_enter Tryz.func151, Tryz.ntmps151
    go_wp2
    go_ret
    exact ⟨rfl, Below.refl _ _⟩
section
variable {A1 A2 A3 : Option Addr} {n1 c1 n2 c2 n3 c3 : Nat} {N : Nt}
theorem pr_place (k : Int) (w : World) (hS : Hid (SlOf 3 PlAt w A2 n2 c2 N.pls)) (hk : I64 k) :
    Calls Tryz.prog 48 #[netV A1 n1 c1 A2 n2 c2 A3 n3 c3 N.from_ N.to_, .int .i64 k] w fun e w' => e = .returned (.string (plB N.pls k)) ∧ Below w.heap.size w w' := by
  have hb := alrB w (.cells #[.slice A1 n1 c1, .slice A2 n2 c2, .slice A3 n3 c3, .int .i64 N.from_, .int .i64 N.to_] 101)
  have c1 := cell_new w #[.slice A1 n1 c1, .slice A2 n2 c2, .slice A3 n3 c3, .int .i64 N.from_, .int .i64 N.to_] 101 1 _ rfl
  have CA := Lib.hid (pr_at_place A2 n2 c2 N.pls k _ (Lib.hid (hS.out.below PlAt.stays hb)) hk)
  have HB := Lib.hid hb
  clear hb
  go_enter Tryz.func48, Tryz.ntmps48
  go_wp2_with (go_at_call 102; refine CA.out.mono ?_; rintro e w2 ⟨rfl, hb2⟩; have HB2 := Lib.hid hb2; clear hb2)
  go_ret
  exact ⟨rfl, below_then HB.out HB2.out⟩
theorem pr_colour (k : Int) (w : World) (hS : Hid (Cols w A1 n1 c1 N.cols)) (hk : I64 k) :
    Calls Tryz.prog 99 #[netV A1 n1 c1 A2 n2 c2 A3 n3 c3 N.from_ N.to_, .int .i64 k] w fun e w' => e = .returned (.string (colB N.cols k)) ∧ Below w.heap.size w w' := by
  have hb := alrB w (.cells #[.slice A1 n1 c1, .slice A2 n2 c2, .slice A3 n3 c3, .int .i64 N.from_, .int .i64 N.to_] 101)
  have c0 := cell_new w #[.slice A1 n1 c1, .slice A2 n2 c2, .slice A3 n3 c3, .int .i64 N.from_, .int .i64 N.to_] 101 0 _ rfl
  have CA := Lib.hid (pr_at_colour A1 n1 c1 N.cols k _ (Lib.hid (hS.out.below hb)) hk)
  have HB := Lib.hid hb
  clear hb
  go_enter Tryz.func99, Tryz.ntmps99
  go_wp2_with (go_at_call 151; refine CA.out.mono ?_; rintro e w2 ⟨rfl, hb2⟩; have HB2 := Lib.hid hb2; clear hb2)
  go_ret
  exact ⟨rfl, below_then HB.out HB2.out⟩
set_option maxRecDepth 100000 in
set_option maxHeartbeats 4000000 in
theorem pr_members (x : Col) (Ap : Option Addr) (np cp : Nat) (w : World) (hC : Hid (Cols w A1 n1 c1 N.cols)) (hN : Hid (Sl w (.slice Ap np cp) np 1 (strCells x.names))) (hi : Hid (I64 x.lo ∧ I64 x.hi ∧ I64 x.first ∧ I64 x.then_)) (htab : Hid (∀ W, Below w.heap.size w W → TabT W)) (hn : np ≤ 1000000) (hj : Hid ((joinB x.names).size ≤ 140737488355328)) (hcs : Hid (∀ k, (colB N.cols k).size ≤ 1000)) :
    Calls Tryz.prog 98 #[netV A1 n1 c1 A2 n2 c2 A3 n3 c3 N.from_ N.to_, colV' x Ap np cp] w fun e w' => e = .returned (.string (membersB N.cols x)) ∧ Below w.heap.size w w' := by
  obtain ⟨w1, hw1⟩ : ∃ y, y = (w.alloc (.cells #[.slice A1 n1 c1, .slice A2 n2 c2, .slice A3 n3 c3, .int .i64 N.from_, .int .i64 N.to_] 101)).alloc (.cells #[.string x.name, .int .i64 x.kind, .int .i64 x.lo, .int .i64 x.hi, .slice Ap np cp, .int .i64 x.first, .int .i64 x.then_] 82) := ⟨_, rfl⟩
  have HB1 := Lib.hid (show Below w.heap.size w w1 by rw [hw1]; exact below_then (alrB w _) (alrB _ _))
  have hsz : (w.alloc (.cells #[.slice A1 n1 c1, .slice A2 n2 c2, .slice A3 n3 c3, .int .i64 N.from_, .int .i64 N.to_] 101)).heap.size = w.heap.size + 1 := World.size_alloc _ _
  have RA := Lib.hid (show w1.heap[w.heap.size]? = some (.cells #[.slice A1 n1 c1, .slice A2 n2 c2, .slice A3 n3 c3, .int .i64 N.from_, .int .i64 N.to_] 101 (0, 0)) by rw [hw1]; exact row_alloc (heap_alloc_new w _) _)
  have RB := Lib.hid (show w1.heap[w.heap.size + 1]? = some (.cells #[.string x.name, .int .i64 x.kind, .int .i64 x.lo, .int .i64 x.hi, .slice Ap np cp, .int .i64 x.first, .int .i64 x.then_] 82 (0, 0)) by rw [hw1, ← hsz]; exact heap_alloc_new _ _)
  have HW := Lib.hid hw1.symm
  obtain ⟨g, hg⟩ : ∃ y, y = w.heap.size := ⟨_, rfl⟩
  have HG := Lib.hid hg.symm
  rw [← hg] at RA RB
  have HC := Lib.hid (show ∀ W, Below w1.heap.size w1 W → W.cell? ⟨g, 0, none⟩ = some (.slice A1 n1 c1) ∧ W.cell? ⟨g, 1, none⟩ = some (.slice A2 n2 c2) ∧ W.cell? ⟨g, 2, none⟩ = some (.slice A3 n3 c3) ∧ W.cell? ⟨g, 3, none⟩ = some (.int .i64 N.from_) ∧ W.cell? ⟨g, 4, none⟩ = some (.int .i64 N.to_) ∧ W.cell? ⟨g + 1, 0, none⟩ = some (.string x.name) ∧ W.cell? ⟨g + 1, 1, none⟩ = some (.int .i64 x.kind) ∧ W.cell? ⟨g + 1, 2, none⟩ = some (.int .i64 x.lo) ∧ W.cell? ⟨g + 1, 3, none⟩ = some (.int .i64 x.hi) ∧ W.cell? ⟨g + 1, 4, none⟩ = some (.slice Ap np cp) ∧ W.cell? ⟨g + 1, 5, none⟩ = some (.int .i64 x.first) ∧ W.cell? ⟨g + 1, 6, none⟩ = some (.int .i64 x.then_) from fun W h =>
    ⟨row_cell (row_below RA.out h) 0 _ rfl, row_cell (row_below RA.out h) 1 _ rfl, row_cell (row_below RA.out h) 2 _ rfl, row_cell (row_below RA.out h) 3 _ rfl, row_cell (row_below RA.out h) 4 _ rfl, row_cell (row_below RB.out h) 0 _ rfl, row_cell (row_below RB.out h) 1 _ rfl, row_cell (row_below RB.out h) 2 _ rfl, row_cell (row_below RB.out h) 3 _ rfl, row_cell (row_below RB.out h) 4 _ rfl, row_cell (row_below RB.out h) 5 _ rfl, row_cell (row_below RB.out h) 6 _ rfl⟩)
  obtain ⟨z0, z1, z2, z3, z4, z5, z6, z7, z8, z9, z10, z11⟩ := HC.out w1 (Below.refl _ _)
  obtain ⟨i1, i2, i3, i4⟩ := hi.out
  have CI1 := Lib.hid (fun W (h : Below w1.heap.size w1 W) => pr_itoa x.lo i1 W (Lib.hid (htab.out W (below_then HB1.out h))))
  have CI2 := Lib.hid (fun W (h : Below w1.heap.size w1 W) => pr_itoa x.hi i2 W (Lib.hid (htab.out W (below_then HB1.out h))))
  have CJ := Lib.hid (fun W (h : Below w1.heap.size w1 W) => pr_join Ap np cp x.names W (Lib.hid (hN.out.below (below_then HB1.out h))) hn hj.out)
  have CC := Lib.hid (fun W (h : Below w1.heap.size w1 W) (k : Int) (hk : I64 k) => pr_colour (N := N) (A1 := A1) (n1 := n1) (c1 := c1) (A2 := A2) (n2 := n2) (c2 := c2) (A3 := A3) (n3 := n3) (c3 := c3) k W (Lib.hid (hC.out.below (below_then HB1.out h))) hk)
  have C1 := Lib.hid (fun W h => CC.out W h x.first i3)
  have C2 := Lib.hid (fun W h => CC.out W h x.then_ i4)
  clear hsz hw1 hg CC i1 i2 i3 i4
  obtain ⟨k, hk⟩ : ∃ k, k = x.kind := ⟨_, rfl⟩
  unfold membersB
  rw [← hk] at z6 ⊢
  have HK := Lib.hid hk.symm
  obtain ⟨R, hR⟩ : ∃ R, R = (if k = 1 then (((⟨#[105, 110, 116, 32]⟩ : ByteArray) ++ itoaB x.lo) ++ ⟨#[32, 46, 46, 32]⟩) ++ itoaB x.hi
    else if k = 2 then (⟨#[101, 110, 117, 109, 32]⟩ : ByteArray) ++ joinB x.names
    else if k = 3 then (((⟨#[112, 97, 105, 114, 32]⟩ : ByteArray) ++ colB N.cols x.first) ++ ⟨#[44, 32]⟩) ++ colB N.cols x.then_
    else ⟨#[63]⟩) := ⟨_, rfl⟩
  rw [← hR]
  have HR := Lib.hid hR
  clear hR hk
  have hrf := Lib.hid (Below.refl w1.heap.size w1)
  have BD0 := Lib.hid (below_drewN' (Below.refl w1.heap.size w1) 1)
  have HC2 := Lib.hid (fun W (h : Below w1.heap.size w1 W) => (⟨(HC.out W h).2.2.2.2.2.2.2.1, (HC.out W h).2.2.2.2.2.2.2.2.1⟩ : W.cell? ⟨g + 1, 2, none⟩ = some (.int .i64 x.lo) ∧ W.cell? ⟨g + 1, 3, none⟩ = some (.int .i64 x.hi)))
  by_cases k1 : k = 1
  · subst k1
    have s1 := itoaB_size hi.out.1
    have s2 := itoaB_size hi.out.2.1
    have q0 : (9223372036854775807 < 4 + (itoaB x.lo).size) = False := eq_false (by omega)
    have q1 : (9223372036854775807 < 4 + (itoaB x.lo).size + 4) = False := eq_false (by omega)
    have q2 : (9223372036854775807 < 4 + (itoaB x.lo).size + 4 + (itoaB x.hi).size) = False := eq_false (by omega)
    clear s1 s2
    go_enter Tryz.func98, Tryz.ntmps98
    go_upto_region 1 with fail
    rw [HG.out, HW.out]
    go_upto_region 3 with fail
    clear z0 z1 z2 z3 z4 z5 z6 z7 z8 z9 z10 z11
    go_region_held3 (fun W => W.cell? ⟨g + 1, 2, none⟩ = some (.int .i64 x.lo) ∧ W.cell? ⟨g + 1, 3, none⟩ = some (.int .i64 x.hi))
      (first | exact HC2.out _ HB3.out | exact HC2.out _ HB2.out | exact HC2.out _ BD0.out)
      (first
        | (go_at_call 84; refine (CI2.out _ HB2.out).mono ?_; rintro e w3 ⟨rfl, hb⟩; have HB3 := Lib.hid (below_then HB2.out hb); clear hb)
        | (go_at_call 84; refine (CI1.out _ BD0.out).mono ?_; rintro e w2 ⟨rfl, hb⟩; have HB2 := Lib.hid (below_then BD0.out hb); clear hb))
    all_goals
      go_wp2_with fail
      go_ret
      exact ⟨by rw [HR.out]; rfl, below_then HB1.out HB3.out⟩
  by_cases k2 : k = 2
  · subst k2
    have s1 := hj.out
    have q0 : (9223372036854775807 < 5 + (joinB x.names).size) = False := eq_false (by omega)
    clear s1
    go_enter Tryz.func98, Tryz.ntmps98
    go_upto_region 1 with fail
    rw [HG.out, HW.out]
    go_wp2_with (go_at_call 32; refine (CJ.out w1 hrf.out).mono ?_; rintro e w2 ⟨rfl, hb⟩; have HB2 := Lib.hid hb; clear hb)
    go_ret
    exact ⟨by rw [HR.out]; rfl, below_then HB1.out HB2.out⟩
  by_cases k3 : k = 3
  · subst k3
    have s1 := hcs.out x.first
    have s2 := hcs.out x.then_
    have q0 : (9223372036854775807 < 5 + (colB N.cols x.first).size) = False := eq_false (by omega)
    have q1 : (9223372036854775807 < 5 + (colB N.cols x.first).size + 2) = False := eq_false (by omega)
    have q2 : (9223372036854775807 < 5 + (colB N.cols x.first).size + 2 + (colB N.cols x.then_).size) = False := eq_false (by omega)
    clear s1 s2
    go_enter Tryz.func98, Tryz.ntmps98
    go_upto_region 1 with fail
    rw [HG.out, HW.out]
    go_upto_region 7 with fail
    clear z0 z1 z2 z3 z4 z5 z6 z7 z8 z9 z10 z11
    go_region_held3 (fun W => W.cell? ⟨g, 0, none⟩ = some (.slice A1 n1 c1) ∧ W.cell? ⟨g, 1, none⟩ = some (.slice A2 n2 c2) ∧ W.cell? ⟨g, 2, none⟩ = some (.slice A3 n3 c3) ∧ W.cell? ⟨g, 3, none⟩ = some (.int .i64 N.from_) ∧ W.cell? ⟨g, 4, none⟩ = some (.int .i64 N.to_) ∧ W.cell? ⟨g + 1, 0, none⟩ = some (.string x.name) ∧ W.cell? ⟨g + 1, 1, none⟩ = some (.int .i64 x.kind) ∧ W.cell? ⟨g + 1, 2, none⟩ = some (.int .i64 x.lo) ∧ W.cell? ⟨g + 1, 3, none⟩ = some (.int .i64 x.hi) ∧ W.cell? ⟨g + 1, 4, none⟩ = some (.slice Ap np cp) ∧ W.cell? ⟨g + 1, 5, none⟩ = some (.int .i64 x.first) ∧ W.cell? ⟨g + 1, 6, none⟩ = some (.int .i64 x.then_))
      (first | exact HC.out _ HB3.out | exact HC.out _ HB2.out | exact HC.out _ BD0.out)
      (first
        | (go_at_call 99; refine (C2.out _ HB2.out).mono ?_; rintro e w3 ⟨rfl, hb⟩; have HB3 := Lib.hid (below_then HB2.out hb); clear hb)
        | (go_at_call 99; refine (C1.out _ BD0.out).mono ?_; rintro e w2 ⟨rfl, hb⟩; have HB2 := Lib.hid (below_then BD0.out hb); clear hb))
    all_goals
      go_wp2_with fail
      go_ret
      exact ⟨by rw [HR.out]; rfl, below_then HB1.out HB3.out⟩
  have HR2 := Lib.hid (HR.out.trans (by rw [if_neg k1, if_neg k2, if_neg k3]))
  have b1 : (k == 1) = false := by simpa using k1
  have b2 : (k == 2) = false := by simpa using k2
  have b3 : (k == 3) = false := by simpa using k3
  go_enter Tryz.func98, Tryz.ntmps98
  go_upto_region 1 with fail
  rw [HG.out, HW.out]
  go_wp2_with fail
  go_ret
  exact ⟨by rw [HR2.out]; rfl, HB1.out⟩
end
set_option maxHeartbeats 4000000 in
theorem pr_first1 (q : Int × Int) (w : World) (hi : Hid (I64 q.1 ∧ I64 q.2)) (htab : Hid (∀ W, Below w.heap.size w W → TabT W)) :
    Calls Tryz.prog 153 #[.agg #[.int .i64 q.1, .int .i64 q.2]] w fun e w' => e = .returned (.string (pairB q)) ∧ Below w.heap.size w w' := by
  obtain ⟨w1, hw1⟩ : ∃ y, y = w.alloc (.cells #[.int .i64 q.1, .int .i64 q.2] 67) := ⟨_, rfl⟩
  have HB1 := Lib.hid (show Below w.heap.size w w1 by rw [hw1]; exact alrB w _)
  have RA := Lib.hid (show w1.heap[w.heap.size]? = some (.cells #[.int .i64 q.1, .int .i64 q.2] 67 (0, 0)) by rw [hw1]; exact heap_alloc_new w _)
  have HW := Lib.hid hw1.symm
  obtain ⟨g, hg⟩ : ∃ y, y = w.heap.size := ⟨_, rfl⟩
  have HG := Lib.hid hg.symm
  rw [← hg] at RA
  have HC := Lib.hid (show ∀ W, Below w1.heap.size w1 W → W.cell? ⟨g, 0, none⟩ = some (.int .i64 q.1) ∧ W.cell? ⟨g, 1, none⟩ = some (.int .i64 q.2) from fun W h => ⟨row_cell (row_below RA.out h) 0 _ rfl, row_cell (row_below RA.out h) 1 _ rfl⟩)
  obtain ⟨z0, z1⟩ := HC.out w1 (Below.refl _ _)
  have CI1 := Lib.hid (fun W (h : Below w1.heap.size w1 W) => pr_itoa q.1 hi.out.1 W (Lib.hid (htab.out W (below_then HB1.out h))))
  have BD0 := Lib.hid (below_drewN' (Below.refl w1.heap.size w1) 1)
  have CI2 := Lib.hid (fun W (h : Below w1.heap.size w1 W) => pr_itoa q.2 hi.out.2 W (Lib.hid (htab.out W (below_then HB1.out h))))
  have s1 := itoaB_size hi.out.1
  have s2 := itoaB_size hi.out.2
  have h0 : (9223372036854775807 < (itoaB q.1).size + 1) = False := eq_false (by omega)
  have h1 : (9223372036854775807 < (itoaB q.1).size + 1 + (itoaB q.2).size) = False := eq_false (by omega)
  clear hw1 hg s1 s2
  go_enter Tryz.func153, Tryz.ntmps153
  go_upto_region 1 with fail
  rw [HG.out, HW.out]
  clear z0 z1
  go_region_held3 (fun W => W.cell? ⟨g, 0, none⟩ = some (.int .i64 q.1) ∧ W.cell? ⟨g, 1, none⟩ = some (.int .i64 q.2))
    (first | exact HC.out _ HB3.out | exact HC.out _ HB2.out | exact HC.out _ BD0.out)
    (first
      | (go_at_call 84; refine (CI2.out _ HB2.out).mono ?_; rintro e w3 ⟨rfl, hb⟩; have HB3 := Lib.hid (below_then HB2.out hb); clear hb)
      | (go_at_call 84; refine (CI1.out _ BD0.out).mono ?_; rintro e w2 ⟨rfl, hb⟩; have HB2 := Lib.hid (below_then BD0.out hb); clear hb))
  all_goals
    go_wp2_with fail
    go_ret
    exact ⟨rfl, below_then HB1.out HB3.out⟩
set_option maxHeartbeats 4000000 in
theorem pr_first (p : Pl) (A : Option Addr) (n c : Nat) (w : World) (hS : Hid (Sl w (.slice A n c) n 2 (pairCells p.first))) (hi : Hid (∀ q ∈ p.first, I64 q.1 ∧ I64 q.2)) (htab : Hid (∀ W, Below w.heap.size w W → TabT W)) (hn : n ≤ 1000000) (hj : Hid ((joinB (p.first.map pairB)).size ≤ 140737488355328)) :
    Calls Tryz.prog 100 #[p.val A n c] w fun e w' => e = .returned (.string (firstB p)) ∧ Below w.heap.size w w' := by
  have hl : p.first.length = n := by have := hS.out.len; rw [pairCells_len] at this; omega
  obtain ⟨w1, hw1⟩ : ∃ y, y = w.alloc (.cells #[.string p.name, .int .i64 p.colour, .slice A n c] 66) := ⟨_, rfl⟩
  have HB1 := Lib.hid (show Below w.heap.size w w1 by rw [hw1]; exact alrB w _)
  have z2 : w1.cell? ⟨w.heap.size, 2, none⟩ = some (.slice A n c) := by rw [hw1]; exact cell_new w #[.string p.name, .int .i64 p.colour, .slice A n c] 66 2 _ rfl
  have HW := Lib.hid hw1.symm
  have CE := Lib.hid (pr_each_pair pairB 153 #[] A n c p.first w1 (Lib.hid (hS.out.below HB1.out)) hn (enters_of Tryz.func153 (by kernel_rfl) rfl) (Lib.hid (fun k hk W hb => by
    have hm : p.first.getD k (0, 0) ∈ p.first := by rw [List.getD, List.getElem?_eq_getElem (show k < p.first.length by omega)]; exact List.getElem_mem _
    exact pr_first1 _ W (Lib.hid (hi.out _ hm)) (Lib.hid (fun V hv => htab.out V (below_then (below_then HB1.out hb) hv))))))
  unfold firstB
  by_cases h0 : n = 0
  · have e0 : p.first = [] := List.length_eq_zero_iff.1 (by omega)
    rw [if_pos e0]
    subst h0
    clear hl e0 hw1
    go_enter Tryz.func100, Tryz.ntmps100
    go_wp2_with fail
    go_ret
    exact ⟨rfl, by rw [HW.out]; exact HB1.out⟩
  · have e0 : p.first ≠ [] := fun e => h0 (by rw [← hl, e]; rfl)
    rw [if_neg e0]
    have hz : ((n : Int) == 0) = false := by simpa using h0
    have s1 := hj.out
    have q0 : (9223372036854775807 < 3 + (joinB (p.first.map pairB)).size) = False := eq_false (by omega)
    clear s1
    have HL := Lib.hid hl
    obtain ⟨g, hg⟩ : ∃ y, y = w.heap.size := ⟨_, rfl⟩
    have HG := Lib.hid hg.symm
    rw [← hg] at z2
    clear hl e0 hw1 hg
    go_enter Tryz.func100, Tryz.ntmps100
    go_upto_region 1 with fail
    rw [HG.out, HW.out]
    go_wp2_with (go_at_call 154; refine CE.out.mono ?_; rintro e w2 ⟨v, rfl, hown, hb⟩; obtain ⟨Av, cv, rfl, _, _⟩ := own_form hown; have HS2 := Lib.hid (Sl.of_own hown); have HB2 := Lib.hid hb; clear hown hb)
    have CJ := Lib.hid (pr_join Av n cv (p.first.map pairB) w2 HS2 hn hj.out)
    go_wp2_with (go_at_call 32; refine CJ.out.mono ?_; rintro e w3 ⟨rfl, hb⟩; have HB3 := Lib.hid hb; clear hb)
    go_ret
    exact ⟨rfl, below_then (below_then HB1.out HB2.out) HB3.out⟩
set_option maxHeartbeats 4000000 in
theorem pr_kind (word : ByteArray) (k : Int) (w : World) (hw : Hid (word.size ≤ 1000)) : Calls Tryz.prog 147 #[.string word, .int .i64 k] w fun e w' => ∃ v, e = .returned v ∧ Sl w' v (kindB word k).length 1 (strCells (kindB word k)) ∧ Below w.heap.size w w' := by
  unfold kindB
  have s1 := hw.out
  have q1 : (9223372036854775807 < word.size + 4) = False := eq_false (by omega)
  have q2 : (9223372036854775807 < word.size + 3) = False := eq_false (by omega)
  have q3 : (9223372036854775807 < word.size + 2) = False := eq_false (by omega)
  clear s1
  by_cases k1 : k = 1
  · subst k1
    go_enter Tryz.func147, Tryz.ntmps147
    go_wp2
    go_ret
    exact ⟨_, rfl, Sl.none_ _ _, Below.refl _ _⟩
  rw [if_neg k1]
  by_cases k2 : k = 2
  · subst k2
    go_enter Tryz.func147, Tryz.ntmps147
    go_wp2
    go_ret
    exact ⟨_, rfl, Sl.new _ _ [.string (word ++ ⟨#[32, 120, 111, 114]⟩)] 1 1 rfl (by omega), alrB _ _⟩
  rw [if_neg k2]
  by_cases k3 : k = 3
  · subst k3
    go_enter Tryz.func147, Tryz.ntmps147
    go_wp2
    go_ret
    exact ⟨_, rfl, Sl.new _ _ [.string (word ++ ⟨#[32, 111, 114]⟩)] 1 1 rfl (by omega), alrB _ _⟩
  rw [if_neg k3]
  have b1 : (k == 1) = false := by simpa using k1
  have b2 : (k == 2) = false := by simpa using k2
  have b3 : (k == 3) = false := by simpa using k3
  go_enter Tryz.func147, Tryz.ntmps147
  go_wp2
  go_ret
  exact ⟨_, rfl, Sl.new _ _ [.string (word ++ ⟨#[32, 63]⟩)] 1 1 rfl (by omega), alrB _ _⟩
end Go.Proofs.YtkpjhjoopdbkaaaGreatDoor
