/- Joined: Law 06: small. Printed by gen_pbO.py. Plain: Same. parts, Right: the program's. -/
import Derived.Test.YtkpjhjoopdbkaaaGreatDoorG25
import Derived.Test.YtkpjhjoopdbkaaaGreatDoorG27
import Derived.Deep.QuietTactic
import Derived.BigQuiet
import Derived.Test.YtkpjhjoopdbkaaaGreatDoorG03
import Derived.Deep.DeepCutAuto
namespace Go.Proofs.YtkpjhjoopdbkaaaGreatDoor
open Go.RowKit
theorem eq_tri (a b c d e f : Int) (w : World) (D : Nat) : (Op.equalIn (D + 2) 57 (.agg #[.int .i64 a, .int .i64 b, .int .i64 c]) (.agg #[.int .i64 d, .int .i64 e, .int .i64 f])).run Tryz.prog w = .ok (a == d && (b == e && c == f)) w := by
  obtain ⟨i, hi, _⟩ := info_parts (P := Tryz.prog) (e := 3) (z := .int .i64 0) (size := 1) (bytes := 8) (by kernel_rfl)
  rw [run_equalIn_array w (D + 1) #[.int .i64 a, .int .i64 b, .int .i64 c] #[.int .i64 d, .int .i64 e, .int .i64 f] Tryz.underlying57 hi]
  have hc : Tryz.prog.cellsOf 3 = 1 := by kernel_rfl
  have p0 : ∀ (x y z : Int) (w : World), (part 3 #[.int .i64 x, .int .i64 y, .int .i64 z] 0).run Tryz.prog w = .ok (.int .i64 x) w := fun _ _ _ _ => by kernel_rfl
  have p1 : ∀ (x y z : Int) (w : World), (part 3 #[.int .i64 x, .int .i64 y, .int .i64 z] 1).run Tryz.prog w = .ok (.int .i64 y) w := fun _ _ _ _ => by kernel_rfl
  have p2 : ∀ (x y z : Int) (w : World), (part 3 #[.int .i64 x, .int .i64 y, .int .i64 z] 2).run Tryz.prog w = .ok (.int .i64 z) w := fun _ _ _ _ => by kernel_rfl
  have e1 : List.range 3 = [0, 1, 2] := rfl
  have q := fun (x y : Int) (w : World) => run_equalIn_int (P := Tryz.prog) w D 3 .i64 .i64 x y Tryz.underlying3
  rw [hc, e1]
  simp only [Op.eqItems, Sem.run_bind, Nat.mul_one, p0, q, Result.andThen_ok]
  rcases h : (a == d) with _ | _
  · simp
  · simp only [Bool.not_true, Bool.false_eq_true, if_false, Sem.run_bind, p1, q, Result.andThen_ok, Bool.true_and]
    rcases h2 : (b == e) with _ | _
    · simp
    · simp only [Bool.not_true, Bool.false_eq_true, if_false, Sem.run_bind, p2, q, Result.andThen_ok, Bool.true_and]
      rcases (c == f) with _ | _ <;> simp
theorem eql_tri (a b c : Int) (w : World) : (binOp .eql 57 (.agg #[.int .i64 a, .int .i64 b, .int .i64 c]) (.agg #[.int .i64 0, .int .i64 0, .int .i64 0])).run Tryz.prog w = .ok (.bool (a == 0 && (b == 0 && c == 0))) w := by
  rw [run_eql_struct, eq_tri a b c 0 0 0 w 9998]; rfl
theorem eql_tri1 (w : World) : (binOp .eql 57 (.agg #[.int .i64 1, .int .i64 2, .int .i64 1]) (.agg #[.int .i64 1, .int .i64 2, .int .i64 1])).run Tryz.prog w = .ok (.bool true) w := by
  rw [run_eql_struct, eq_tri 1 2 1 1 2 1 w 9998]; rfl
def net0 : Nt := ⟨[⟨⟨#[110]⟩, 1, 0, 3, [], 0, 0⟩], [⟨⟨#[97]⟩, 0, [(0, 2)]⟩, ⟨⟨#[98]⟩, 0, []⟩], [⟨⟨#[116]⟩, [⟨⟨#[120]⟩, 0⟩], .mk 5 8 [(.mk 2 0 []), .mk 1 3 []], 1, 2, [⟨0, (.mk 2 0 [])⟩], [⟨1, .mk 5 1 [(.mk 2 0 []), .mk 1 1 []]⟩], [1], 5, 1, 2, 1⟩], 0, 1⟩
theorem lit_0 : textAll ⟨#[99, 111, 108, 111, 117, 114, 32, 110, 32, 61, 32, 105, 110, 116, 32, 48, 32, 46, 46, 32, 51, 59, 32, 112, 108, 97, 99, 101, 32, 97, 58, 32, 110, 32, 61, 32, 48, 42, 50, 59, 32, 112, 108, 97, 99, 101, 32, 98, 58, 32, 110, 59, 32, 116, 97, 115, 107, 32, 116, 32, 123, 32, 118, 97, 114, 32, 120, 58, 32, 110, 59, 32, 119, 104, 101, 110, 32, 120, 32, 60, 32, 51, 59, 32, 105, 110, 32, 97, 40, 120, 41, 59, 32, 111, 117, 116, 32, 98, 40, 120, 32, 43, 32, 49, 41, 59, 32, 99, 97, 110, 99, 101, 108, 32, 98, 59, 32, 115, 112, 108, 105, 116, 32, 120, 111, 114, 59, 32, 97, 102, 116, 101, 114, 32, 53, 59, 32, 109, 97, 110, 121, 32, 49, 44, 32, 50, 44, 32, 49, 59, 32, 125, 32, 102, 114, 111, 109, 32, 97, 59, 32, 116, 111, 32, 98, 59]⟩ = (net0, 166, 0) := by kernel_rfl
theorem lit_1 : textAll ⟨#[112, 108, 97, 99, 101, 32, 97, 58, 32, 110, 59]⟩ = (Nt.zero, 9, 3) := by kernel_rfl
theorem lit_2 : textAll ⟨#[99, 111, 108, 111, 117, 114, 32, 110, 32, 61, 32, 105, 110, 116, 32, 48, 32, 46, 46, 32, 49, 59, 32, 99, 111, 108, 111, 117, 114, 32, 110, 32, 61, 32, 101, 110, 117, 109, 32, 97, 59]⟩ = (Nt.zero, 30, 5) := by kernel_rfl
theorem lit_3 : textAll ⟨#[102, 114, 111, 109]⟩ = (Nt.zero, 4, 4) := by kernel_rfl
theorem pa_lit0 (w : World) (ht : Hid (TabOk w)) : Calls Tryz.prog 12 #[.string ⟨#[99, 111, 108, 111, 117, 114, 32, 110, 32, 61, 32, 105, 110, 116, 32, 48, 32, 46, 46, 32, 51, 59, 32, 112, 108, 97, 99, 101, 32, 97, 58, 32, 110, 32, 61, 32, 48, 42, 50, 59, 32, 112, 108, 97, 99, 101, 32, 98, 58, 32, 110, 59, 32, 116, 97, 115, 107, 32, 116, 32, 123, 32, 118, 97, 114, 32, 120, 58, 32, 110, 59, 32, 119, 104, 101, 110, 32, 120, 32, 60, 32, 51, 59, 32, 105, 110, 32, 97, 40, 120, 41, 59, 32, 111, 117, 116, 32, 98, 40, 120, 32, 43, 32, 49, 41, 59, 32, 99, 97, 110, 99, 101, 108, 32, 98, 59, 32, 115, 112, 108, 105, 116, 32, 120, 111, 114, 59, 32, 97, 102, 116, 101, 114, 32, 53, 59, 32, 109, 97, 110, 121, 32, 49, 44, 32, 50, 44, 32, 49, 59, 32, 125, 32, 102, 114, 111, 109, 32, 97, 59, 32, 116, 111, 32, 98, 59]⟩] w fun e w' => ∃ A1 n1 c1 A2 n2 c2 A3 n3 c3, e = .returned (.tuple #[netV A1 n1 c1 A2 n2 c2 A3 n3 c3 0 1, .int .i64 166, .int .i64 0]) ∧ NetAt w' A1 n1 c1 A2 n2 c2 A3 n3 c3 net0 ∧ Below w.heap.size w w' := by
  have h := pa_Text ⟨#[99, 111, 108, 111, 117, 114, 32, 110, 32, 61, 32, 105, 110, 116, 32, 48, 32, 46, 46, 32, 51, 59, 32, 112, 108, 97, 99, 101, 32, 97, 58, 32, 110, 32, 61, 32, 48, 42, 50, 59, 32, 112, 108, 97, 99, 101, 32, 98, 58, 32, 110, 59, 32, 116, 97, 115, 107, 32, 116, 32, 123, 32, 118, 97, 114, 32, 120, 58, 32, 110, 59, 32, 119, 104, 101, 110, 32, 120, 32, 60, 32, 51, 59, 32, 105, 110, 32, 97, 40, 120, 41, 59, 32, 111, 117, 116, 32, 98, 40, 120, 32, 43, 32, 49, 41, 59, 32, 99, 97, 110, 99, 101, 108, 32, 98, 59, 32, 115, 112, 108, 105, 116, 32, 120, 111, 114, 59, 32, 97, 102, 116, 101, 114, 32, 53, 59, 32, 109, 97, 110, 121, 32, 49, 44, 32, 50, 44, 32, 49, 59, 32, 125, 32, 102, 114, 111, 109, 32, 97, 59, 32, 116, 111, 32, 98, 59]⟩ w ht (by decide +kernel)
  rw [lit_0] at h
  refine h.mono ?_
  rintro e w' ⟨A1, n1, c1, A2, n2, c2, A3, n3, c3, he, hN, hb⟩
  exact ⟨A1, n1, c1, A2, n2, c2, A3, n3, c3, he, hN.now, hb⟩
theorem pa_lit1 (w : World) (ht : Hid (TabOk w)) : Calls Tryz.prog 12 #[.string ⟨#[112, 108, 97, 99, 101, 32, 97, 58, 32, 110, 59]⟩] w fun e w' => ∃ A1 n1 c1 A2 n2 c2 A3 n3 c3, e = .returned (.tuple #[netV A1 n1 c1 A2 n2 c2 A3 n3 c3 0 0, .int .i64 9, .int .i64 3]) ∧ Below w.heap.size w w' := by
  have h := pa_Text ⟨#[112, 108, 97, 99, 101, 32, 97, 58, 32, 110, 59]⟩ w ht (by decide +kernel)
  rw [lit_1] at h
  refine h.mono ?_
  rintro e w' ⟨A1, n1, c1, A2, n2, c2, A3, n3, c3, he, _, hb⟩
  exact ⟨A1, n1, c1, A2, n2, c2, A3, n3, c3, he, hb⟩
theorem pa_lit2 (w : World) (ht : Hid (TabOk w)) : Calls Tryz.prog 12 #[.string ⟨#[99, 111, 108, 111, 117, 114, 32, 110, 32, 61, 32, 105, 110, 116, 32, 48, 32, 46, 46, 32, 49, 59, 32, 99, 111, 108, 111, 117, 114, 32, 110, 32, 61, 32, 101, 110, 117, 109, 32, 97, 59]⟩] w fun e w' => ∃ A1 n1 c1 A2 n2 c2 A3 n3 c3, e = .returned (.tuple #[netV A1 n1 c1 A2 n2 c2 A3 n3 c3 0 0, .int .i64 30, .int .i64 5]) ∧ Below w.heap.size w w' := by
  have h := pa_Text ⟨#[99, 111, 108, 111, 117, 114, 32, 110, 32, 61, 32, 105, 110, 116, 32, 48, 32, 46, 46, 32, 49, 59, 32, 99, 111, 108, 111, 117, 114, 32, 110, 32, 61, 32, 101, 110, 117, 109, 32, 97, 59]⟩ w ht (by decide +kernel)
  rw [lit_2] at h
  refine h.mono ?_
  rintro e w' ⟨A1, n1, c1, A2, n2, c2, A3, n3, c3, he, _, hb⟩
  exact ⟨A1, n1, c1, A2, n2, c2, A3, n3, c3, he, hb⟩
theorem pa_lit3 (w : World) (ht : Hid (TabOk w)) : Calls Tryz.prog 12 #[.string ⟨#[102, 114, 111, 109]⟩] w fun e w' => ∃ A1 n1 c1 A2 n2 c2 A3 n3 c3, e = .returned (.tuple #[netV A1 n1 c1 A2 n2 c2 A3 n3 c3 0 0, .int .i64 4, .int .i64 4]) ∧ Below w.heap.size w w' := by
  have h := pa_Text ⟨#[102, 114, 111, 109]⟩ w ht (by decide +kernel)
  rw [lit_3] at h
  refine h.mono ?_
  rintro e w' ⟨A1, n1, c1, A2, n2, c2, A3, n3, c3, he, _, hb⟩
  exact ⟨A1, n1, c1, A2, n2, c2, A3, n3, c3, he, hb⟩
theorem law_text (w : World) : Calls Tryz.prog 24 #[] w fun e w' => e = .returned (.string ⟨#[99, 111, 108, 111, 117, 114, 32, 110, 32, 61, 32, 105, 110, 116, 32, 48, 32, 46, 46, 32, 51, 59, 32, 112, 108, 97, 99, 101, 32, 97, 58, 32, 110, 32, 61, 32, 48, 42, 50, 59, 32, 112, 108, 97, 99, 101, 32, 98, 58, 32, 110, 59, 32, 116, 97, 115, 107, 32, 116, 32, 123, 32, 118, 97, 114, 32, 120, 58, 32, 110, 59, 32, 119, 104, 101, 110, 32, 120, 32, 60, 32, 51, 59, 32, 105, 110, 32, 97, 40, 120, 41, 59, 32, 111, 117, 116, 32, 98, 40, 120, 32, 43, 32, 49, 41, 59, 32, 99, 97, 110, 99, 101, 108, 32, 98, 59, 32, 115, 112, 108, 105, 116, 32, 120, 111, 114, 59, 32, 97, 102, 116, 101, 114, 32, 53, 59, 32, 109, 97, 110, 121, 32, 49, 44, 32, 50, 44, 32, 49, 59, 32, 125, 32, 102, 114, 111, 109, 32, 97, 59, 32, 116, 111, 32, 98, 59]⟩) ∧ w = w' := by
  go_enter Tryz.func24, Tryz.ntmps24
  go_wp2
  go_ret
  exact ⟨rfl, rfl⟩
set_option maxRecDepth 100000 in
set_option maxHeartbeats 16000000 in
theorem law_small (w : World) (ht : Hid (∀ W, Below w.heap.size w W → TabOk W)) (htab : Hid (∀ W, Below w.heap.size w W → TabT W)) : Calls Tryz.prog 8 #[] w fun e w' => e = .returned (.bool true) ∧ Below w.heap.size w w' := by
  have C0 := Lib.hid (fun W (hb : Below w.heap.size w W) => pa_lit0 W (Lib.hid (ht.out W hb)))
  have C1 := Lib.hid (fun W (hb : Below w.heap.size w W) => pa_lit1 W (Lib.hid (ht.out W hb)))
  have C2 := Lib.hid (fun W (hb : Below w.heap.size w W) => pa_lit2 W (Lib.hid (ht.out W hb)))
  have C3 := Lib.hid (fun W (hb : Below w.heap.size w W) => pa_lit3 W (Lib.hid (ht.out W hb)))
  have HTX := Lib.hid (show textT [⟨#[120]⟩] (.mk 5 1 [(.mk 2 0 []), .mk 1 1 []]) = [120, 32, 43, 32, 49] by decide +kernel)
  have HE := eql_tri1
  go_enter Tryz.func8, Tryz.ntmps8
  go_wp2_with fail
  refine (law_text w).mono ?_
  rintro e wt ⟨rfl, rfl⟩
  go_wp2_with fail
  refine (C0.out w (Below.refl _ _)).mono ?_
  rintro e w1 ⟨A11, n11, c11, A12, n12, c12, A13, n13, c13, rfl, hN, hB⟩
  have HN1 := Lib.hid hN
  have HB2 := Lib.hid (below_then hB (alrB w1 (.cells #[.slice A11 n11 c11, .slice A12 n12 c12, .slice A13 n13 c13, .int .i64 0, .int .i64 1] 39)))
  have R2 := Lib.hid (heap_alloc_new w1 (.cells #[.slice A11 n11 c11, .slice A12 n12 c12, .slice A13 n13 c13, .int .i64 0, .int .i64 1] 39))
  clear hN
  go_upto_region 2 with fail
  obtain ⟨w2, hw2⟩ : ∃ y, y = w1.alloc (.cells #[.slice A11 n11 c11, .slice A12 n12 c12, .slice A13 n13 c13, .int .i64 0, .int .i64 1] 39) := ⟨_, rfl⟩
  obtain ⟨g1, hg1⟩ : ∃ y, y = w1.heap.size := ⟨_, rfl⟩
  have HNN := Lib.hid (show NetAt w2 A11 n11 c11 A12 n12 c12 A13 n13 c13 net0 by rw [hw2]; exact HN1.out.below (alrB _ _))
  rw [← hw2] at HB2 R2 ⊢
  rw [← hg1] at R2 ⊢
  clear hw2 hg1 hB HN1
  go_wp2_with fail
  refine (C1.out w2 HB2.out).mono ?_
  rintro e x2 ⟨A21, n21, c21, A22, n22, c22, A23, n23, c23, rfl, hB⟩
  have HY2 := Lib.hid (below_then hB (alrB x2 (.cells #[.slice A21 n21 c21, .slice A22 n22 c22, .slice A23 n23 c23, .int .i64 0, .int .i64 0] 39)))
  have HX2 := Lib.hid (below_then HB2.out HY2.out)
  clear hB
  go_upto_region 3 with fail
  obtain ⟨y2, hy2⟩ : ∃ y, y = x2.alloc (.cells #[.slice A21 n21 c21, .slice A22 n22 c22, .slice A23 n23 c23, .int .i64 0, .int .i64 0] 39) := ⟨_, rfl⟩
  rw [← hy2] at HX2 HY2 ⊢
  clear hy2
  go_wp2_with fail
  refine (C2.out y2 HX2.out).mono ?_
  rintro e x3 ⟨A31, n31, c31, A32, n32, c32, A33, n33, c33, rfl, hB⟩
  have HY3 := Lib.hid (below_then hB (alrB x3 (.cells #[.slice A31 n31 c31, .slice A32 n32 c32, .slice A33 n33 c33, .int .i64 0, .int .i64 0] 39)))
  have HX3 := Lib.hid (below_then HX2.out HY3.out)
  clear hB
  go_upto_region 4 with fail
  obtain ⟨y3, hy3⟩ : ∃ y, y = x3.alloc (.cells #[.slice A31 n31 c31, .slice A32 n32 c32, .slice A33 n33 c33, .int .i64 0, .int .i64 0] 39) := ⟨_, rfl⟩
  rw [← hy3] at HX3 HY3 ⊢
  clear hy3
  go_wp2_with fail
  refine (C3.out y3 HX3.out).mono ?_
  rintro e x4 ⟨A41, n41, c41, A42, n42, c42, A43, n43, c43, rfl, hB⟩
  have HY4 := Lib.hid (below_then hB (alrB x4 (.cells #[.slice A41 n41 c41, .slice A42 n42 c42, .slice A43 n43 c43, .int .i64 0, .int .i64 0] 39)))
  have HX4 := Lib.hid (below_then HX3.out HY4.out)
  clear hB
  go_upto_region 5 with fail
  obtain ⟨y4, hy4⟩ : ∃ y, y = x4.alloc (.cells #[.slice A41 n41 c41, .slice A42 n42 c42, .slice A43 n43 c43, .int .i64 0, .int .i64 0] 39) := ⟨_, rfl⟩
  rw [← hy4] at HX4 HY4 ⊢
  clear hy4
  have HALL := Lib.hid (below_then (below_then HY2.out HY3.out) HY4.out)
  have HN4 := HNN.out.below HALL.out
  have R4 := row_below R2.out HALL.out
  have b1 := row_cell R4 1 _ rfl
  have b2 := row_cell R4 2 _ rfl
  have b4 := row_cell R4 4 _ rfl
  obtain rfl : n13 = 1 := HN4.tks.len.1.symm
  obtain rfl : n12 = 2 := HN4.pls.len.1.symm
  obtain ⟨bt, ot, rfl, Av, nv, cv, Ag, mg, cg, Ai, ni, ci, Ao, no, co, Ac, nc, cc, T4⟩ := HN4.tks.at_ (k := 0) (by omega)
  obtain ⟨bp, op, rfl, Ap_, np, cp, P4⟩ := HN4.pls.at_ (k := 0) (by omega)
  rw [Nat.zero_mul, Nat.add_zero] at T4 P4
  have zt0 : y4.cell? ⟨bt, ot, none⟩ = some (.string ⟨#[116]⟩) := T4.c0
  have zt1 : y4.cell? ⟨bt, ot + 1, none⟩ = some (.slice Av nv cv) := T4.c1
  have zt2 : y4.cell? ⟨bt, ot + 2, none⟩ = some (.int .i64 5) := T4.c2
  have zt3 : y4.cell? ⟨bt, ot + 3, none⟩ = some (.int .i64 8) := T4.c3
  have zt4 : y4.cell? ⟨bt, ot + 4, none⟩ = some (.slice Ag mg cg) := T4.c4
  have zt5 : y4.cell? ⟨bt, ot + 5, none⟩ = some (.int .i64 1) := T4.c5
  have zt6 : y4.cell? ⟨bt, ot + 6, none⟩ = some (.int .i64 2) := T4.c6
  have zt7 : y4.cell? ⟨bt, ot + 7, none⟩ = some (.slice Ai ni ci) := T4.c7
  have zt8 : y4.cell? ⟨bt, ot + 8, none⟩ = some (.slice Ao no co) := T4.c8
  have zt9 : y4.cell? ⟨bt, ot + 9, none⟩ = some (.slice Ac nc cc) := T4.c9
  have zt10 : y4.cell? ⟨bt, ot + 10, none⟩ = some (.int .i64 5) := T4.c10
  have zt11 : y4.cell? ⟨bt, ot + 11, none⟩ = some (.int .i64 1) := T4.c11
  have zt12 : y4.cell? ⟨bt, ot + 12, none⟩ = some (.int .i64 2) := T4.c12
  have zt13 : y4.cell? ⟨bt, ot + 13, none⟩ = some (.int .i64 1) := T4.c13
  have p2 : y4.cell? ⟨bp, op + 2, none⟩ = some (.slice Ap_ np cp) := P4.c2
  obtain rfl : no = 1 := T4.outs.len.1.symm
  obtain rfl : np = 1 := by have := P4.sl.len; have e : (pairCells [((0 : Int), (2 : Int))]).length = 2 := rfl; have e2 : (pairCells (net0.pls.getD 0 default).first).length = 2 := rfl; omega
  obtain ⟨bo, oo, rfl, Ae, me, ce, O4⟩ := T4.outs.at_ (k := 0) (by omega)
  rw [Nat.zero_mul, Nat.add_zero] at O4
  have o1 : y4.cell? ⟨bo, oo + 1, none⟩ = some (.int .i64 5) := O4.c1
  have o2 : y4.cell? ⟨bo, oo + 2, none⟩ = some (.int .i64 1) := O4.c2
  have o3 : y4.cell? ⟨bo, oo + 3, none⟩ = some (.slice Ae me ce) := O4.c3
  have HTR := Lib.hid (show TrAt y4 Ae me ce (.mk 5 1 [(.mk 2 0 []), .mk 1 1 []]) from O4.tr)
  have HPS := Lib.hid (show Sl y4 (.slice Ap_ 1 cp) 1 2 (pairCells [(0, 2)]) from P4.sl)
  have HTT := Lib.hid (fun W (hb : Below y4.heap.size y4 W) W' (hb' : Below W.heap.size W W') => htab.out W' (below_then (below_then HX4.out hb) hb'))
  have CX := Lib.hid (fun o => (show Calls Tryz.prog 19 #[(Tr.mk 5 1 [(.mk 2 0 []), .mk 1 1 []]).val Ae me ce, .slice (some ⟨y4.heap.size + 1, 0, none⟩) 1 1] ((y4.alloc o).alloc (.cells #[.string ⟨#[120]⟩] 9)) fun e w' => e = .returned (.string ⟨#[120, 32, 43, 32, 49]⟩) ∧ Below y4.heap.size y4 w' by
    have es : (y4.alloc o).heap.size = y4.heap.size + 1 := World.size_alloc _ _
    have hb := alrB y4 o
    have h := ex_Text [⟨#[120]⟩] (some ⟨(y4.alloc o).heap.size, 0, none⟩) 1 1 (.mk 5 1 [(.mk 2 0 []), .mk 1 1 []]) Ae me ce ((y4.alloc o).alloc (.cells #[.string ⟨#[120]⟩] 9)) (Lib.hid (HTR.out.kept (below_then hb (alrB _ _)))) (Lib.hid (HTT.out _ (below_then hb (alrB _ _)))) (Lib.hid (by exact Sl.new (y4.alloc o) _ [.string ⟨#[120]⟩] 1 1 rfl (by omega))) (by intro s hs; rw [List.mem_singleton.1 hs]; decide) (by rw [HTX.out]; decide)
    rw [HTX.out, es] at h
    exact h.mono fun e w' q => ⟨q.1, below_then (below_then hb (alrB _ _)) q.2⟩))
  have CR := Lib.hid (fun W (hb : Below y4.heap.size y4 W) => (show Calls Tryz.prog 25 #[.slice Ap_ 1 cp, .slice (some ⟨W.heap.size, 0, none⟩) 1 1] (W.alloc (.cells #[.int .i64 0, .int .i64 2] 67)) fun e w' => e = .returned (.bool true) ∧ ∃ q, w' = (W.alloc (.cells #[.int .i64 0, .int .i64 2] 67)).drewN q from
    ref_Rows Ap_ (some ⟨W.heap.size, 0, none⟩) 1 1 cp 1 [(0, 2)] [(0, 2)] (W.alloc (.cells #[.int .i64 0, .int .i64 2] 67)) (Lib.hid (HPS.out.below (below_then hb (alrB W _)))) (Lib.hid (by exact Sl.new W _ [.int .i64 0, .int .i64 2] 1 2 rfl (by omega))) (by omega) (by omega)))
  clear T4 P4 O4 HN4 R4
  have KP := Lib.hid (fun W (hb : Below y4.heap.size y4 W) => (show W.cell? ⟨g1, 1, none⟩ = some (.slice (some ⟨bp, op, none⟩) 2 c12) ∧ W.cell? ⟨bp, op + 2, none⟩ = some (.slice Ap_ 1 cp) ∧ W.cell? ⟨g1, 4, none⟩ = some (.int .i64 1) from ⟨cell_kept hb b1, cell_kept hb p2, cell_kept hb b4⟩))
  have KT := Lib.hid (fun W (hb : Below y4.heap.size y4 W) => (show W.cell? ⟨bo, oo + 1, none⟩ = some (.int .i64 5) ∧ W.cell? ⟨bo, oo + 2, none⟩ = some (.int .i64 1) ∧ W.cell? ⟨bo, oo + 3, none⟩ = some (.slice Ae me ce) from ⟨cell_kept hb o1, cell_kept hb o2, cell_kept hb o3⟩))
  have kt1 := fun o => (KT.out _ (alrB y4 o)).1
  have kt2 := fun o => (KT.out _ (alrB y4 o)).2.1
  have kt3 := fun o => (KT.out _ (alrB y4 o)).2.2
  go_wp2_with (go_at_call 19; refine (CX.out _).mono ?_; rintro e w5 ⟨rfl, hB5⟩; have HB5 := Lib.hid hB5; obtain ⟨k1, k2, k3⟩ := KP.out _ HB5.out; clear hB5)
  refine (CR.out _ HB5.out).mono ?_
  rintro e w6 ⟨rfl, q, rfl⟩
  have HB6 := Lib.hid (below_then HB5.out (below_drewN' (alrB w5 (.cells #[.int .i64 0, .int .i64 2] 67)) q))
  obtain ⟨k4, k5, k6⟩ := KP.out _ HB6.out
  go_wp2
  go_ret
  exact ⟨rfl, below_then HX4.out HB6.out⟩
end Go.Proofs.YtkpjhjoopdbkaaaGreatDoor
namespace Go.Proofs.YtkpjhjoopdbkaaaGreatDoor
mutual
def sameT : Tr → Tr → Bool
  | .mk k n l, b => decide (k = b.kind) && (decide (n = b.num) && sameL l b.kids)
def sameL : List Tr → List Tr → Bool
  | [], m => m.isEmpty
  | t :: r, m => match m with
    | [] => false
    | u :: s => sameT t u && sameL r s
end
theorem sameT_eq (a b : Tr) : sameT a b = (decide (a.kind = b.kind) && (decide (a.num = b.num) && sameL a.kids b.kids)) := by
  obtain ⟨k, n, l⟩ := a
  rw [sameT]; rfl
theorem sameL_len : ∀ (l m : List Tr), l.length ≠ m.length → sameL l m = false
  | [], [], h => by simp at h
  | [], u :: s, _ => by rw [sameL]; rfl
  | t :: r, [], _ => by rw [sameL]
  | t :: r, u :: s, h => by
    rw [sameL]
    rw [sameL_len r s (by simpa using h), Bool.and_false]
theorem sameL_nil : sameL [] [] = true := by rw [sameL]; rfl
theorem sameL_cons (t u : Tr) (r s : List Tr) : sameL (t :: r) (u :: s) = (sameT t u && sameL r s) := by rw [sameL]
mutual
theorem sameT_self : ∀ t : Tr, sameT t t = true
  | .mk k n l => by
    rw [sameT_eq, show (Tr.mk k n l).kids = l from rfl, sameL_self l]
    simp
theorem sameL_self : ∀ l : List Tr, sameL l l = true
  | [] => sameL_nil
  | t :: r => by rw [sameL_cons, sameT_self t, sameL_self r]; rfl
end
end Go.Proofs.YtkpjhjoopdbkaaaGreatDoor
namespace Go.Proofs.YtkpjhjoopdbkaaaGreatDoor
open Go.RowKit
set_option maxRecDepth 100000 in
set_option maxHeartbeats 4000000 in
theorem ex_parts_step (vars : Int) (N : Nat) (IH : Hid (PartsAt vars N)) : PartsAt vars (N + 1) := by
  intro t hN A m c w h
  obtain ⟨hl, hc, hc9⟩ := h.out.len
  rw [partsT_eq, hl]
  obtain ⟨k, hk⟩ : ∃ k, k = t.kind := ⟨_, rfl⟩
  obtain ⟨n, hn⟩ : ∃ n, n = t.num := ⟨_, rfl⟩
  obtain ⟨R, hR⟩ : ∃ R, R = partsL vars t.kids := ⟨_, rfl⟩
  have hb1 := ((Below.refl w.heap.size w).alloc (Nat.le_refl _) (.cells #[.int .i64 k, .int .i64 n, .slice A m c] 30)).alloc (by simp) (.cells #[.int .i64 vars] 3)
  have HB1 := Lib.hid hb1
  have hba := (Below.refl (w.alloc (.cells #[.int .i64 k, .int .i64 n, .slice A m c] 30)).heap.size (w.alloc (.cells #[.int .i64 k, .int .i64 n, .slice A m c] 30))).alloc (Nat.le_refl _) (.cells #[.int .i64 vars] 3)
  have s0 := cell_kept hba (cell_new w #[.int .i64 k, .int .i64 n, .slice A m c] 30 0 _ rfl)
  have s1 := cell_kept hba (cell_new w #[.int .i64 k, .int .i64 n, .slice A m c] 30 1 _ rfl)
  have s2 := cell_kept hba (cell_new w #[.int .i64 k, .int .i64 n, .slice A m c] 30 2 _ rfl)
  have s3 := cell_new (w.alloc (.cells #[.int .i64 k, .int .i64 n, .slice A m c] 30)) #[.int .i64 vars] 3 0 _ rfl
  rw [show (w.alloc (.cells #[.int .i64 k, .int .i64 n, .slice A m c] 30)).heap.size = w.heap.size + 1 by simp] at s3
  have hT := Lib.hid (h.out.kept hb1)
  obtain ⟨w1, hw1⟩ : ∃ w1, w1 = (w.alloc (.cells #[.int .i64 k, .int .i64 n, .slice A m c] 30)).alloc (.cells #[.int .i64 vars] 3) := ⟨_, rfl⟩
  obtain ⟨g, hg⟩ : ∃ g, g = w.heap.size := ⟨_, rfl⟩
  have HW1 := Lib.hid hw1
  have HG := Lib.hid hg
  rw [← hw1] at s0 s1 s2 s3 hT HB1
  rw [← hg] at s0 s1 s2 s3
  have cC := fun q => ex_ContainsFunc vars N (g + 1) IH t hN A m c (w1.drewN q) (Lib.hid (hT.out.kept (below_drewN' (Below.refl _ _) q))) (Lib.hid s3)
  rw [← hR] at cC
  have CC := Lib.hid cC
  have CK := Lib.hid (fun W => ex_kids k W)
  have CN := calc_Known n
  rw [← hk, ← hn, ← hR]
  have hv : t.val A m c = .agg #[.int .i64 k, .int .i64 n, .slice A m c] := by rw [hk, hn]
  rw [hv]
  clear hb1 hba hw1 hg cC hk hn hR hv
  obtain ⟨x, hx⟩ : ∃ x, x = kidsN k := ⟨_, rfl⟩
  rw [← hx] at CK
  have HX := Lib.hid hx
  by_cases hm : (m : Int) = x
  · have bm : ((m : Int) != x) = false := by simpa using hm
    have hmk : (m : Int) = kidsN k := hm.trans hx
    have HMK := Lib.hid hmk
    clear hm hmk hx
    by_cases k2 : k = 2
    · subst k2
      by_cases n0 : n < 0
      · have ok : okN vars 2 n m = false := by simp [okN, n0]
        rw [ok, Bool.false_and]
        clear ok
        go_enter Tryz.func37, Tryz.ntmps37
        go_upto_region 1 with fail
        rw [← HW1.out, ← HG.out]
        go_quiet ((go_at_call 80; exact Calls.quiet_of_same ((CK.out _).mono fun e w' h => ⟨h.1, h.2.symm⟩)))
        go_wp2
        go_ret
        exact ⟨rfl, below_drewN' HB1.out _⟩
      · by_cases n1 : vars ≤ n
        · have ok : okN vars 2 n m = false := by simp [okN, n1]
          have n0' : 0 ≤ n := by omega
          rw [ok, Bool.false_and]
          clear ok n0
          go_enter Tryz.func37, Tryz.ntmps37
          go_upto_region 1 with fail
          rw [← HW1.out, ← HG.out]
          go_quiet ((go_at_call 80; exact Calls.quiet_of_same ((CK.out _).mono fun e w' h => ⟨h.1, h.2.symm⟩)))
          go_wp2
          go_ret
          exact ⟨rfl, below_drewN' HB1.out _⟩
        · have ok : okN vars 2 n m = true := by simp [okN, HMK.out]; omega
          have n0' : 0 ≤ n := by omega
          have n1' : n < vars := by omega
          rw [ok, Bool.true_and]
          clear ok n0 n1
          go_enter Tryz.func37, Tryz.ntmps37
          go_upto_region 1 with fail
          rw [← HW1.out, ← HG.out]
          go_quiet ((go_at_call 80; exact Calls.quiet_of_same ((CK.out _).mono fun e w' h => ⟨h.1, h.2.symm⟩)))
          go_wp2_with (go_at_call 82; refine (CC.out _).mono ?_; rintro e w5 ⟨rfl, hb5⟩; have HB5 := Lib.hid (below_then (below_drewN' HB1.out _) hb5); clear hb5)
          go_ret
          exact ⟨ret1b (by simp), HB5.out⟩
    · have b2 : (k == 2) = false := by simpa using k2
      by_cases k5 : k = 5
      · subst k5
        clear k2
        rcases hkn : knownB n with _ | _
        · have ok : okN vars 5 n m = false := by simp [okN, hkn]
          rw [ok, Bool.false_and]
          rw [hkn] at CN
          clear ok hkn
          go_enter Tryz.func37, Tryz.ntmps37
          go_upto_region 1 with fail
          rw [← HW1.out, ← HG.out]
          go_quiet ((go_at_call 80; exact Calls.quiet_of_same ((CK.out _).mono fun e w' h => ⟨h.1, h.2.symm⟩)))
          go_wp2_with (go_at_call 81; refine (CN _).mono ?_; rintro e w4 ⟨rfl, rfl⟩)
          go_ret
          exact ⟨rfl, below_drewN' HB1.out _⟩
        · have ok : okN vars 5 n m = true := by simp [okN, HMK.out, hkn]
          rw [ok, Bool.true_and]
          rw [hkn] at CN
          clear ok hkn
          go_enter Tryz.func37, Tryz.ntmps37
          go_upto_region 1 with fail
          rw [← HW1.out, ← HG.out]
          go_quiet ((go_at_call 80; exact Calls.quiet_of_same ((CK.out _).mono fun e w' h => ⟨h.1, h.2.symm⟩)))
          go_wp2_with (first
            | (go_at_call 81; refine (CN _).mono ?_; rintro e w4 ⟨rfl, rfl⟩)
            | (go_at_call 82; refine (CC.out _).mono ?_; rintro e w5 ⟨rfl, hb5⟩; have HB5 := Lib.hid (below_then (below_drewN' HB1.out _) hb5); clear hb5))
          go_ret
          exact ⟨ret1b (by simp), HB5.out⟩
      · have b5 : (k == 5) = false := by simpa using k5
        have ok : okN vars k n m = true := by simp [okN, HMK.out, k2, k5]
        rw [ok, Bool.true_and]
        clear ok k2 k5
        go_enter Tryz.func37, Tryz.ntmps37
        go_upto_region 1 with fail
        rw [← HW1.out, ← HG.out]
        go_quiet ((go_at_call 80; exact Calls.quiet_of_same ((CK.out _).mono fun e w' h => ⟨h.1, h.2.symm⟩)))
        go_wp2_with (go_at_call 82; refine (CC.out _).mono ?_; rintro e w5 ⟨rfl, hb5⟩; have HB5 := Lib.hid (below_then (below_drewN' HB1.out _) hb5); clear hb5)
        go_ret
        exact ⟨ret1b (by simp), HB5.out⟩
  · have bm : ((m : Int) != x) = true := by simpa using hm
    have ok : okN vars k n m = false := by simp [okN]; intro h; exact absurd (h.trans hx.symm) hm
    rw [ok, Bool.false_and]
    clear ok hm hx
    go_enter Tryz.func37, Tryz.ntmps37
    go_upto_region 1 with fail
    rw [← HW1.out, ← HG.out]
    go_quiet ((go_at_call 80; exact Calls.quiet_of_same ((CK.out _).mono fun e w' h => ⟨h.1, h.2.symm⟩)))
    go_wp2
    go_ret
    exact ⟨rfl, below_drewN' HB1.out _⟩
theorem ex_parts (vars : Int) : ∀ N, PartsAt vars N
  | 0 => fun t hN _ _ _ _ _ => by have := t.sz_pos; omega
  | N + 1 => ex_parts_step vars N (Lib.hid (ex_parts vars N))
/-- Is an expression right? -/
def rightT (vars : Int) (t : Tr) : Bool := decide (depthT t ≤ 40) && (decide (sizeT t ≤ 400) && partsT vars t)
set_option maxRecDepth 100000 in
set_option maxHeartbeats 2000000 in
theorem ex_Right (vars : Int) (t : Tr) (A : Option Addr) (m c : Nat) (w : World) (h : Hid (TrAt w A m c t)) (hsz : sizeT t ≤ 1000000) :
    Calls Tryz.prog 17 #[t.val A m c, .int .i64 vars] w fun e w' => e = .returned (.bool (rightT vars t)) ∧ Below w.heap.size w w' := by
  have hb1 := (Below.refl w.heap.size w).alloc (Nat.le_refl _) (.cells #[.int .i64 t.kind, .int .i64 t.num, .slice A m c] 30)
  have HB1 := Lib.hid hb1
  have hT := Lib.hid (h.out.kept hb1)
  have s0 := cell_new w #[.int .i64 t.kind, .int .i64 t.num, .slice A m c] 30 0 _ rfl
  have s1 := cell_new w #[.int .i64 t.kind, .int .i64 t.num, .slice A m c] 30 1 _ rfl
  have s2 := cell_new w #[.int .i64 t.kind, .int .i64 t.num, .slice A m c] 30 2 _ rfl
  obtain ⟨w1, hw1⟩ : ∃ w1, w1 = w.alloc (.cells #[.int .i64 t.kind, .int .i64 t.num, .slice A m c] 30) := ⟨_, rfl⟩
  obtain ⟨g, hg⟩ : ∃ g, g = w.heap.size := ⟨_, rfl⟩
  have HW1 := Lib.hid hw1
  have HG := Lib.hid hg
  rw [← hw1] at s0 s1 s2 hT HB1
  rw [← hg] at s0 s1 s2
  have cD := Lib.hid (fun W h => ex_Depth t.sz t (Nat.le_refl _) A m c W h hsz)
  have cS := Lib.hid (fun W h => ex_Size t.sz t (Nat.le_refl _) A m c W h hsz)
  have cP := Lib.hid (fun W h => ex_parts vars t.sz t (Nat.le_refl _) A m c W h)
  have hd := depth_size t
  unfold rightT
  obtain ⟨x, hx⟩ : ∃ x, x = depthT t := ⟨_, rfl⟩
  obtain ⟨y, hy⟩ : ∃ y, y = sizeT t := ⟨_, rfl⟩
  obtain ⟨z, hz⟩ : ∃ z, z = partsT vars t := ⟨_, rfl⟩
  rw [← hx] at cD hd ⊢
  rw [← hy] at cS hd hsz ⊢
  rw [← hz] at cP ⊢
  clear hb1 hw1 hg hx hy hz
  by_cases x4 : x ≤ 40
  · have x42 : (x : Int) ≤ 40 := by omega
    rw [decide_eq_true x4, Bool.true_and]
    by_cases y4 : y ≤ 400
    · have y42 : (y : Int) ≤ 400 := by omega
      rw [decide_eq_true y4, Bool.true_and]
      go_enter Tryz.func17, Tryz.ntmps17
      go_upto_region 1 with fail
      rw [← HW1.out, ← HG.out]
      go_wp2_with (first
        | (go_at_call 16; refine (cD.out _ hT).mono ?_; rintro e w5 ⟨rfl, hb5⟩; have HB5 := Lib.hid (below_then HB1.out hb5); have hT5 := Lib.hid (hT.out.kept hb5); have t0 := cell_kept hb5 s0; have t1 := cell_kept hb5 s1; have t2 := cell_kept hb5 s2; clear hb5 s0 s1 s2)
        | (go_at_call 36; refine (cS.out _ hT5).mono ?_; rintro e w6 ⟨rfl, hb6⟩; have HB6 := Lib.hid (below_then HB5.out hb6); have hT6 := Lib.hid (hT5.out.kept hb6); have r0 := cell_kept hb6 t0; have r1 := cell_kept hb6 t1; have r2 := cell_kept hb6 t2; clear hb6 t0 t1 t2)
        | (go_at_call 37; refine (cP.out _ hT6).mono ?_; rintro e w7 ⟨rfl, hb7⟩; have HB7 := Lib.hid (below_then HB6.out hb7); clear hb7))
      go_ret
      exact ⟨rfl, HB7.out⟩
    · have y42 : (400 : Int) < (y : Int) := by omega
      rw [decide_eq_false y4, Bool.false_and]
      go_enter Tryz.func17, Tryz.ntmps17
      go_upto_region 1 with fail
      rw [← HW1.out, ← HG.out]
      go_wp2_with (first
        | (go_at_call 16; refine (cD.out _ hT).mono ?_; rintro e w5 ⟨rfl, hb5⟩; have HB5 := Lib.hid (below_then HB1.out hb5); have hT5 := Lib.hid (hT.out.kept hb5); have t0 := cell_kept hb5 s0; have t1 := cell_kept hb5 s1; have t2 := cell_kept hb5 s2; clear hb5 s0 s1 s2)
        | (go_at_call 36; refine (cS.out _ hT5).mono ?_; rintro e w6 ⟨rfl, hb6⟩; have HB6 := Lib.hid (below_then HB5.out hb6); clear hb6 t0 t1 t2))
      go_ret
      exact ⟨rfl, HB6.out⟩
  · have x42 : (40 : Int) < (x : Int) := by omega
    rw [decide_eq_false x4, Bool.false_and]
    go_enter Tryz.func17, Tryz.ntmps17
    go_upto_region 1 with fail
    rw [← HW1.out, ← HG.out]
    go_wp2_with (go_at_call 16; refine (cD.out _ hT).mono ?_; rintro e w5 ⟨rfl, hb5⟩; have HB5 := Lib.hid (below_then HB1.out hb5); clear hb5)
    go_ret
    exact ⟨rfl, HB5.out⟩
end Go.Proofs.YtkpjhjoopdbkaaaGreatDoor
