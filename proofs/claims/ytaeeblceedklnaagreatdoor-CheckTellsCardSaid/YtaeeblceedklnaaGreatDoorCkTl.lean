/- Law CheckTells. Printed by gen_ckTl.py. -/
import Derived.Test.YtaeeblceedklnaaGreatDoorCkM
import Derived.Test.YtaeeblceedklnaaGreatDoorCkX
import Derived.Test.YtaeeblceedklnaaGreatDoorRfN
namespace Go.Proofs.YtaeeblceedklnaaGreatDoor
open Go.RowKit
theorem eql_part (a b : Int) (w : World) : (binOp .eql 30 (.agg #[.int .i64 a, .int .i64 b]) (.agg #[.int .i64 a, .int .i64 b])).run Tryz.prog w = .ok (.bool true) w := by
  rw [run_eql_struct, run_equalIn_agg w 9999 _ _ _ (by kernel_rfl) (by kernel_rfl)]
  have hf : ((Tryz.prog.fieldsOf 30).toList.map fun f => (f.name != "_", f.type, f.offset)) = [(true, 3, 0), (true, 3, 1)] := by kernel_rfl
  obtain ⟨fs, hfs⟩ : ∃ fs, fs = (Tryz.prog.fieldsOf 30).toList := ⟨_, rfl⟩
  rw [← hfs] at hf ⊢
  have p0 : ∀ (x y : Int) (w : World), (part 3 #[.int .i64 x, .int .i64 y] 0).run Tryz.prog w = .ok (.int .i64 x) w := fun _ _ _ => by kernel_rfl
  have p1 : ∀ (x y : Int) (w : World), (part 3 #[.int .i64 x, .int .i64 y] 1).run Tryz.prog w = .ok (.int .i64 y) w := fun _ _ _ => by kernel_rfl
  have q := fun (x y : Int) (w : World) => run_equalIn_int (P := Tryz.prog) w 9998 3 .i64 .i64 x y Tryz.underlying3
  clear hfs
  obtain ⟨f0, f1, rfl⟩ : ∃ f0 f1, fs = [f0, f1] := by
    rcases fs with _ | ⟨f0, _ | ⟨f1, _ | ⟨f2, r⟩⟩⟩
    · simp at hf
    · simp at hf
    · exact ⟨f0, f1, rfl⟩
    · simp at hf
  simp only [List.map_cons, List.map_nil, List.cons.injEq, Prod.mk.injEq, and_true] at hf
  obtain ⟨⟨_, a1, a2⟩, _, b1, b2⟩ := hf
  simp [Op.eqFields, Sem.run_bind, a1, a2, b1, b2, p0, p1, q]
section
variable {A1 A2 A3 : Option Addr} {n1 c1 n2 c2 n3 c3 : Nat} {N : Nt}
set_option maxRecDepth 100000 in
set_option maxHeartbeats 16000000 in
theorem law_CheckTells (k : Int) (w : World) (ht : Hid (TabOk w)) (hN : Hid (NetAt w A1 n1 c1 A2 n2 c2 A3 n3 c3 N)) (hL : Hid (NetLen N)) : Calls Tryz.prog 3 #[netV A1 n1 c1 A2 n2 c2 A3 n3 c3 N.from_ N.to_, .int .i64 k] w fun e w' => e = .returned (.bool true) ∧ Below w.heap.size w w' := by
  have hn1 := Nat.le_trans hN.out.cols.1 hN.out.cols.2.1
  have hn2 := Nat.le_trans hN.out.pls.1 hN.out.pls.2.1
  have hn3 := Nat.le_trans hN.out.tks.1 hN.out.tks.2.1
  have HLC := Lib.hid hN.out.cols.2.2.1
  have HLP := Lib.hid hN.out.pls.2.2.1
  have HLT := Lib.hid hN.out.tks.2.2.1
  obtain ⟨w1, hw1⟩ : ∃ x, x = w.alloc (.cells #[.slice A1 n1 c1, .slice A2 n2 c2, .slice A3 n3 c3, .int .i64 N.from_, .int .i64 N.to_] 26) := ⟨_, rfl⟩
  have HB1 := Lib.hid (show Below w.heap.size w w1 by rw [hw1]; exact alr w _)
  have NB1 := Lib.hid (show NBox w1 w.heap.size A1 n1 c1 A2 n2 c2 A3 n3 c3 N.from_ N.to_ by rw [hw1]; exact NBox.new w A1 n1 c1 A2 n2 c2 A3 n3 c3 N.from_ N.to_ 26)
  have HW := Lib.hid hw1.symm
  clear hw1
  go_enter Tryz.func3, Tryz.ntmps3
  go_upto_region 1 with fail
  rw [HW.out]
  go_wp2_with fail
  refine (law_small w1 (Lib.hid (ht.out.below HB1.out))).mono ?_
  rintro e w2 ⟨rfl, hb⟩
  have HB2 := Lib.hid (below_then HB1.out hb)
  have HC2 := Lib.hid hb
  clear hb
  obtain ⟨x0, x1, x2, x3, x4⟩ := NB1.out.below HC2.out
  go_wp2_with fail
  refine (law_NetFew w2 (Lib.hid (hN.out.below HB2.out)) hL).mono ?_
  rintro e w3 ⟨b, rfl, hfew, hb⟩
  have HF := Lib.hid hfew
  have HB3 := Lib.hid (below_then HB2.out hb)
  have HC3 := Lib.hid (below_then HC2.out hb)
  clear hb hfew x0 x1 x2 x3 x4
  cases b with
  | false =>
    go_wp2_with fail
    go_ret
    exact ⟨rfl, HB3.out⟩
  | true =>
  obtain ⟨x0, x1, x2, x3, x4⟩ := NB1.out.below HC3.out
  have HFEW := Lib.hid (HF.out rfl)
  have HSM := Lib.hid HFEW.out.small
  obtain ⟨z1, z2, z3⟩ : n1 ≤ 40 ∧ n2 ≤ 70 ∧ n3 ≤ 70 := ⟨HLC.out ▸ HFEW.out.cols, HLP.out ▸ HFEW.out.pls, HLT.out ▸ HFEW.out.tks⟩
  obtain ⟨E, hEE⟩ : ∃ E, E = netE N := ⟨_, rfl⟩
  have cN := ck_Net w3 (Lib.hid (ht.out.below HB3.out)) (Lib.hid (hN.out.below HB3.out)) HSM
  have cM := fun W (h : Below w.heap.size w W) => rf_Net W (Lib.hid (hN.out.below h)) HSM
  have cP := fun W (h : Below w.heap.size w W) => ck_Place k W (Lib.hid (ht.out.below h)) (Lib.hid (hN.out.below h))
  have cQ := fun W (h : Below w.heap.size w W) => rf_Place k W (Lib.hid (hN.out.below h))
  have cT := fun W (h : Below w.heap.size w W) => ck_Task k W (Lib.hid (ht.out.below h)) (Lib.hid (hN.out.below h)) HSM
  have cU := fun W (h : Below w.heap.size w W) => rf_Task k W (Lib.hid (hN.out.below h)) HSM
  obtain ⟨pE, hpE⟩ : ∃ y, y = placeE N k := ⟨_, rfl⟩
  obtain ⟨tE, htE⟩ : ∃ y, y = taskE N k := ⟨_, rfl⟩
  rw [← hEE] at cN cM
  rw [← hpE] at cP cQ
  rw [← htE] at cT cU
  obtain ⟨E1, E2, E3⟩ := E
  have CN := Lib.hid cN
  have CM := Lib.hid cM
  have CP := Lib.hid cP
  have CQ := Lib.hid cQ
  have CT := Lib.hid cT
  have CU := Lib.hid cU
  have EP := Lib.hid (fun W => eql_part E1 E2 W)
  clear cN cM cP cQ cT cU hEE hpE htE HF
  go_wp2_with fail
  refine CN.out.mono ?_
  rintro e w4 ⟨rfl, hb⟩
  have HB5 := Lib.hid (below_then (below_then HB3.out hb) (alr w4 (.cells #[.int .i64 E1, .int .i64 E2] 30)))
  have HC5 := Lib.hid (below_then (below_then HC3.out hb) (alr w4 (.cells #[.int .i64 E1, .int .i64 E2] 30)))
  have PA := Lib.hid (And.intro (cell_new w4 #[.int .i64 E1, .int .i64 E2] 30 0 _ rfl) (cell_new w4 #[.int .i64 E1, .int .i64 E2] 30 1 _ rfl))
  obtain ⟨w5, hw5⟩ : ∃ y, y = w4.alloc (.cells #[.int .i64 E1, .int .i64 E2] 30) := ⟨_, rfl⟩
  obtain ⟨g4, hg4⟩ : ∃ y, y = w4.heap.size := ⟨_, rfl⟩
  rw [← hw5] at HB5 HC5 PA
  rw [← hg4] at PA
  have HW5 := Lib.hid hw5.symm
  have HG4 := Lib.hid hg4.symm
  clear hb hw5 hg4 x0 x1 x2 x3 x4 CN
  go_upto_region 6 with fail
  rw [HW5.out, HG4.out]
  obtain ⟨x0, x1, x2, x3, x4⟩ := NB1.out.below HC5.out
  go_wp2_with fail
  refine (CM.out _ HB5.out).mono ?_
  rintro e w6 ⟨rfl, hb⟩
  have HB7 := Lib.hid (below_then (below_then HB5.out hb) (alr w6 (.cells #[.int .i64 E1, .int .i64 E2] 30)))
  have HC7 := Lib.hid (below_then (below_then HC5.out hb) (alr w6 (.cells #[.int .i64 E1, .int .i64 E2] 30)))
  have HD7 := Lib.hid (below_then hb (alr w6 (.cells #[.int .i64 E1, .int .i64 E2] 30)))
  have PB := Lib.hid (And.intro (cell_new w6 #[.int .i64 E1, .int .i64 E2] 30 0 _ rfl) (cell_new w6 #[.int .i64 E1, .int .i64 E2] 30 1 _ rfl))
  obtain ⟨w7, hw7⟩ : ∃ y, y = w6.alloc (.cells #[.int .i64 E1, .int .i64 E2] 30) := ⟨_, rfl⟩
  obtain ⟨g6, hg6⟩ : ∃ y, y = w6.heap.size := ⟨_, rfl⟩
  rw [← hw7] at HB7 HC7 HD7 PB
  rw [← hg6] at PB
  have HW7 := Lib.hid hw7.symm
  have HG6 := Lib.hid hg6.symm
  clear hb hw7 hg6 x0 x1 x2 x3 x4 CM
  go_upto_region 7 with fail
  rw [HW7.out, HG6.out]
  obtain ⟨x0, x1, x2, x3, x4⟩ := NB1.out.below HC7.out
  have p0 := cell_kept HD7.out PA.out.1
  have p1 := cell_kept HD7.out PA.out.2
  have HSK := Lib.hid (show ∀ W, Below w7.heap.size w7 W → W.cell? ⟨w.heap.size, 0, none⟩ = some (.slice A1 n1 c1) ∧ W.cell? ⟨w.heap.size, 1, none⟩ = some (.slice A2 n2 c2) ∧ W.cell? ⟨w.heap.size, 2, none⟩ = some (.slice A3 n3 c3) ∧ W.cell? ⟨w.heap.size, 3, none⟩ = some (.int .i64 N.from_) ∧ W.cell? ⟨w.heap.size, 4, none⟩ = some (.int .i64 N.to_) ∧ W.cell? ⟨g4, 0, none⟩ = some (.int .i64 E1) ∧ W.cell? ⟨g4, 1, none⟩ = some (.int .i64 E2) ∧ W.cell? ⟨g6, 0, none⟩ = some (.int .i64 E1) ∧ W.cell? ⟨g6, 1, none⟩ = some (.int .i64 E2) from fun W h => ⟨cell_kept h x0, cell_kept h x1, cell_kept h x2, cell_kept h x3, cell_kept h x4, cell_kept h p0, cell_kept h p1, cell_kept h PB.out.1, cell_kept h PB.out.2⟩)
  have BD0 : Hid (Below w7.heap.size w7 w7.drew) := Lib.hid (below_drewN' (Below.refl _ _) 1)
  have eP := EP.out
  have e3 : (E3 == E3) = true := by simp
  have ep : (pE == pE) = true := by simp
  have et : (tE == tE) = true := by simp
  clear x0 x1 x2 x3 x4 p0 p1
  go_region_held3 (fun W => W.cell? ⟨w.heap.size, 0, none⟩ = some (.slice A1 n1 c1) ∧ W.cell? ⟨w.heap.size, 1, none⟩ = some (.slice A2 n2 c2) ∧ W.cell? ⟨w.heap.size, 2, none⟩ = some (.slice A3 n3 c3) ∧ W.cell? ⟨w.heap.size, 3, none⟩ = some (.int .i64 N.from_) ∧ W.cell? ⟨w.heap.size, 4, none⟩ = some (.int .i64 N.to_) ∧ W.cell? ⟨g4, 0, none⟩ = some (.int .i64 E1) ∧ W.cell? ⟨g4, 1, none⟩ = some (.int .i64 E2) ∧ W.cell? ⟨g6, 0, none⟩ = some (.int .i64 E1) ∧ W.cell? ⟨g6, 1, none⟩ = some (.int .i64 E2))
    (first | exact HSK.out _ BD4.out | exact HSK.out _ BD3.out | exact HSK.out _ BD2.out | exact HSK.out _ BD1.out | exact HSK.out _ BD0.out)
    (first | (go_at_call 14; refine (CU.out _ (below_then HB7.out BD3.out)).mono ?_; rintro e z4 ⟨rfl, hb⟩; have BD4 := Lib.hid (below_then BD3.out hb); clear hb) | (go_at_call 13; refine (CT.out _ (below_then HB7.out BD2.out)).mono ?_; rintro e z3 ⟨rfl, hb⟩; have BD3 := Lib.hid (below_then BD2.out hb); clear hb) | (go_at_call 12; refine (CQ.out _ (below_then HB7.out BD1.out)).mono ?_; rintro e z2 ⟨rfl, hb⟩; have BD2 := Lib.hid (below_then BD1.out hb); clear hb) | (go_at_call 11; refine (CP.out _ (below_then HB7.out BD0.out)).mono ?_; rintro e z1 ⟨rfl, hb⟩; have BD1 := Lib.hid (below_then BD0.out hb); clear hb))
  have HZ := Lib.hid (below_then HB7.out BD4.out)
  go_wp2
  go_ret
  exact ⟨rfl, HZ.out⟩
end
end Go.Proofs.YtaeeblceedklnaaGreatDoor
