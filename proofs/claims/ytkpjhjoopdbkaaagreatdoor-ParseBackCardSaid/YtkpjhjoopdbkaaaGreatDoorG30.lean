/- Joined: The document's Same of nets that are one. Printed by gen_pbR.py. Plain law of parse: places alone depend on places. Law ParsePlaces: the walk. Printed by gen_pbT.py. -/
import Derived.Test.YtkpjhjoopdbkaaaGreatDoorG29
import Derived.Test.YtkpjhjoopdbkaaaGreatDoorG25
namespace Go.Proofs.YtkpjhjoopdbkaaaGreatDoor
open Go.RowKit
section
variable {N : Nt}
set_option maxRecDepth 100000 in
set_option maxHeartbeats 16000000 in
theorem r_SameNet (P1 : Option Addr) (Pn1 Pc1 : Nat) (P2 : Option Addr) (Pn2 Pc2 : Nat) (P3 : Option Addr) (Pn3 Pc3 : Nat) (Q1 : Option Addr) (Qn1 Qc1 : Nat) (Q2 : Option Addr) (Qn2 Qc2 : Nat) (Q3 : Option Addr) (Qn3 Qc3 : Nat) (w : World) (ha : Hid (NetAt w P1 Pn1 Pc1 P2 Pn2 Pc2 P3 Pn3 Pc3 N)) (hb : Hid (NetAt w Q1 Qn1 Qc1 Q2 Qn2 Qc2 Q3 Qn3 Qc3 N)) :
    Calls Tryz.prog 14 #[netV P1 Pn1 Pc1 P2 Pn2 Pc2 P3 Pn3 Pc3 N.from_ N.to_, netV Q1 Qn1 Qc1 Q2 Qn2 Qc2 Q3 Qn3 Qc3 N.from_ N.to_] w fun e w' => e = .returned (.bool true) ∧ Below w.heap.size w w' := by
  obtain ⟨w1, hw1⟩ : ∃ y, y = (w.alloc (.cells #[.slice P1 Pn1 Pc1, .slice P2 Pn2 Pc2, .slice P3 Pn3 Pc3, .int .i64 N.from_, .int .i64 N.to_] 39)).alloc (.cells #[.slice Q1 Qn1 Qc1, .slice Q2 Qn2 Qc2, .slice Q3 Qn3 Qc3, .int .i64 N.from_, .int .i64 N.to_] 39) := ⟨_, rfl⟩
  have HB1 := Lib.hid (show Below w.heap.size w w1 by rw [hw1]; exact below_then (alrB w _) (alrB _ _))
  have hsz : (w.alloc (.cells #[.slice P1 Pn1 Pc1, .slice P2 Pn2 Pc2, .slice P3 Pn3 Pc3, .int .i64 N.from_, .int .i64 N.to_] 39)).heap.size = w.heap.size + 1 := World.size_alloc _ _
  have RA := Lib.hid (show w1.heap[w.heap.size]? = some (.cells #[.slice P1 Pn1 Pc1, .slice P2 Pn2 Pc2, .slice P3 Pn3 Pc3, .int .i64 N.from_, .int .i64 N.to_] 39 (0, 0)) by rw [hw1]; exact row_alloc (heap_alloc_new w _) _)
  have RB := Lib.hid (show w1.heap[w.heap.size + 1]? = some (.cells #[.slice Q1 Qn1 Qc1, .slice Q2 Qn2 Qc2, .slice Q3 Qn3 Qc3, .int .i64 N.from_, .int .i64 N.to_] 39 (0, 0)) by rw [hw1, ← hsz]; exact heap_alloc_new _ _)
  have HW := Lib.hid hw1.symm
  obtain ⟨g, hg⟩ : ∃ y, y = w.heap.size := ⟨_, rfl⟩
  have HG := Lib.hid hg.symm
  rw [← hg] at RA RB
  have HTA := Lib.hid (ha.out.below HB1.out)
  have HTB := Lib.hid (hb.out.below HB1.out)
  have HC := Lib.hid (show ∀ W, Below w1.heap.size w1 W → W.cell? ⟨g, 0, none⟩ = some (.slice P1 Pn1 Pc1) ∧ W.cell? ⟨g, 1, none⟩ = some (.slice P2 Pn2 Pc2) ∧ W.cell? ⟨g, 2, none⟩ = some (.slice P3 Pn3 Pc3) ∧ W.cell? ⟨g, 3, none⟩ = some (.int .i64 N.from_) ∧ W.cell? ⟨g, 4, none⟩ = some (.int .i64 N.to_) ∧ W.cell? ⟨g + 1, 0, none⟩ = some (.slice Q1 Qn1 Qc1) ∧ W.cell? ⟨g + 1, 1, none⟩ = some (.slice Q2 Qn2 Qc2) ∧ W.cell? ⟨g + 1, 2, none⟩ = some (.slice Q3 Qn3 Qc3) ∧ W.cell? ⟨g + 1, 3, none⟩ = some (.int .i64 N.from_) ∧ W.cell? ⟨g + 1, 4, none⟩ = some (.int .i64 N.to_) from fun W h =>
    ⟨row_cell (row_below RA.out h) 0 _ rfl, row_cell (row_below RA.out h) 1 _ rfl, row_cell (row_below RA.out h) 2 _ rfl, row_cell (row_below RA.out h) 3 _ rfl, row_cell (row_below RA.out h) 4 _ rfl, row_cell (row_below RB.out h) 0 _ rfl, row_cell (row_below RB.out h) 1 _ rfl, row_cell (row_below RB.out h) 2 _ rfl, row_cell (row_below RB.out h) 3 _ rfl, row_cell (row_below RB.out h) 4 _ rfl⟩)
  obtain ⟨z0, z1, z2, z3, z4, z5, z6, z7, z8, z9⟩ := HC.out w1 (Below.refl _ _)
  obtain rfl : Pn1 = Qn1 := HTA.out.cols.2.2.1.symm.trans HTB.out.cols.2.2.1
  obtain rfl : Pn2 = Qn2 := HTA.out.pls.len.1.symm.trans HTB.out.pls.len.1
  obtain rfl : Pn3 = Qn3 := HTA.out.tks.len.1.symm.trans HTB.out.tks.len.1
  have HN1 := Lib.hid (show Pn1 ≤ 9223372036854775807 by have h1 := HTA.out.cols.1; have h2 := HTA.out.cols.2.1; omega)
  have HN2 := Lib.hid (show Pn2 ≤ 9223372036854775807 by have := HTA.out.pls.len; omega)
  have HN3 := Lib.hid (show Pn3 ≤ 9223372036854775807 by have := HTA.out.tks.len; omega)
  have bs := beq_str
  have bi : ∀ x : Int, (x != x) = false := fun x => by simp
  clear hsz hw1 hg
  go_enter Tryz.func14, Tryz.ntmps14
  go_upto_region 1 with fail
  rw [HG.out, HW.out]
  go_wp2_with fail
  clear z0 z1 z2 z3 z4 z5 z6 z7 z8 z9
  go_loopw [5] (fun v wr => ∃ (k : Nat), k ≤ Pn1 ∧ v = .int .i64 (k : Int) ∧ Hid (Below w1.heap.size w1 wr)) (fun v _ => Pn1 - (RowKit.intOf v).toNat)
  case atStart => exact ⟨0, by omega, rfl, Lib.hid (Below.refl _ _)⟩
  case round =>
    obtain ⟨k, hk, rfl, hBW⟩ := hrel
    obtain ⟨z0, z1, z2, z3, z4, z5, z6, z7, z8, z9⟩ := HC.out wr hBW.out
    have hn9 := HN1.out
    by_cases hlt : k < Pn1
    · obtain ⟨b1, o1, rfl, XA, Xn, Xd, P⟩ := (HTA.out.cols.below hBW.out).at_ hlt
      obtain ⟨b2, o2, rfl, YA, Yn, Yd, Q⟩ := (HTB.out.cols.below hBW.out).at_ hlt
      obtain ⟨x, hx⟩ : ∃ x, x = N.cols.getD k default := ⟨_, rfl⟩
      rw [← hx] at P Q
      have c0 := P.c0
      have d0 := Q.c0
      have e0 := fun o => cell_kept (alrB wr o) d0
      have c1 := P.c1
      have d1 := Q.c1
      have e1 := fun o => cell_kept (alrB wr o) d1
      have c2 := P.c2
      have d2 := Q.c2
      have e2 := fun o => cell_kept (alrB wr o) d2
      have c3 := P.c3
      have d3 := Q.c3
      have e3 := fun o => cell_kept (alrB wr o) d3
      have c4 := P.c4
      have d4 := Q.c4
      have e4 := fun o => cell_kept (alrB wr o) d4
      have c5 := P.c5
      have d5 := Q.c5
      have e5 := fun o => cell_kept (alrB wr o) d5
      have c6 := P.c6
      have d6 := Q.c6
      have e6 := fun o => cell_kept (alrB wr o) d6
      have z5a := fun o => cell_kept (alrB wr o) z5
      have HPN := Lib.hid P.names
      have HQN := Lib.hid Q.names
      have hlt2 : (k : Int) < (Pn1 : Int) := by omega
      have hk0 : (0 : Int) ≤ (k : Int) := by omega
      clear hx P Q
      obtain ⟨w2, hw2⟩ : ∃ y, y = (wr.alloc (.cells #[.string x.name, .int .i64 x.kind, .int .i64 x.lo, .int .i64 x.hi, .slice XA Xn Xd, .int .i64 x.first, .int .i64 x.then_] 82)).alloc (.cells #[.string x.name, .int .i64 x.kind, .int .i64 x.lo, .int .i64 x.hi, .slice YA Yn Yd, .int .i64 x.first, .int .i64 x.then_] 82) := ⟨_, rfl⟩
      have hsz2 : (wr.alloc (.cells #[.string x.name, .int .i64 x.kind, .int .i64 x.lo, .int .i64 x.hi, .slice XA Xn Xd, .int .i64 x.first, .int .i64 x.then_] 82)).heap.size = wr.heap.size + 1 := World.size_alloc _ _
      have r1 : w2.heap[wr.heap.size]? = some (.cells #[.string x.name, .int .i64 x.kind, .int .i64 x.lo, .int .i64 x.hi, .slice XA Xn Xd, .int .i64 x.first, .int .i64 x.then_] 82 (0, 0)) := by rw [hw2]; exact row_alloc (heap_alloc_new wr _) _
      have r2 : w2.heap[wr.heap.size + 1]? = some (.cells #[.string x.name, .int .i64 x.kind, .int .i64 x.lo, .int .i64 x.hi, .slice YA Yn Yd, .int .i64 x.first, .int .i64 x.then_] 82 (0, 0)) := by rw [hw2, ← hsz2]; exact heap_alloc_new _ _
      have HW2 := Lib.hid hw2.symm
      obtain ⟨gx, hgx⟩ : ∃ y, y = wr.heap.size := ⟨_, rfl⟩
      have HGX := Lib.hid hgx.symm
      rw [← hgx] at r1 r2
      have HB2 := Lib.hid (show Below wr.heap.size wr w2 by rw [hw2]; exact below_then (alrB wr _) (alrB _ _))
      have y0 := row_cell r1 0 _ rfl
      have v0 := row_cell r2 0 _ rfl
      have y1 := row_cell r1 1 _ rfl
      have v1 := row_cell r2 1 _ rfl
      have y2 := row_cell r1 2 _ rfl
      have v2 := row_cell r2 2 _ rfl
      have y3 := row_cell r1 3 _ rfl
      have v3 := row_cell r2 3 _ rfl
      have y4 := row_cell r1 4 _ rfl
      have v4 := row_cell r2 4 _ rfl
      have y5 := row_cell r1 5 _ rfl
      have v5 := row_cell r2 5 _ rfl
      have y6 := row_cell r1 6 _ rfl
      have v6 := row_cell r2 6 _ rfl
      clear hw2 hsz2 r1 r2 hgx
      have CS := Lib.hid (show Calls Tryz.prog 33 #[.slice XA Xn Xd, .slice YA Yn Yd] w2 fun e w' => e = .returned (.bool true) ∧ ∃ q, w' = w2.drewN q from
        r_Strings XA YA Xn Yn Xd Yd x.names w2 (Lib.hid (HPN.out.below HB2.out)) (Lib.hid (HQN.out.below HB2.out)) (by obtain ⟨_, _, e, q1, q2, _⟩ := HPN.out; injection e with e1 e2 e3; omega))
      go_upto_region 8 with fail
      rw [HGX.out, HW2.out]
      go_wp2_with fail
      refine CS.out.mono ?_
      rintro e w3 ⟨rfl, q, rfl⟩
      go_wp2_with fail
      go_roundw
      case rel => exact ⟨k + 1, by omega, by go_num, Lib.hid (below_drewN' (below_then hBW.out HB2.out) q)⟩
      case measure => simp [RowKit.intOf]; omega
    · go_wp2_with fail
      clear z0 z1 z2 z3 z4 z5 z6 z7 z8 z9 hk hlt hn9
      go_loopw [8] (fun v wr => ∃ (k : Nat), k ≤ Pn2 ∧ v = .int .i64 (k : Int) ∧ Hid (Below w1.heap.size w1 wr)) (fun v _ => Pn2 - (RowKit.intOf v).toNat)
      case atStart => exact ⟨0, by omega, rfl, hBW⟩
      case round =>
        obtain ⟨k, hk, rfl, hBW⟩ := hrel
        obtain ⟨z0, z1, z2, z3, z4, z5, z6, z7, z8, z9⟩ := HC.out wr hBW.out
        have hn9 := HN2.out
        by_cases hlt : k < Pn2
        · obtain ⟨b1, o1, rfl, XA, Xn, Xd, P⟩ := (HTA.out.pls.below PlAt.stays hBW.out).at_ hlt
          obtain ⟨b2, o2, rfl, YA, Yn, Yd, Q⟩ := (HTB.out.pls.below PlAt.stays hBW.out).at_ hlt
          obtain ⟨x, hx⟩ : ∃ x, x = N.pls.getD k default := ⟨_, rfl⟩
          rw [← hx] at P Q
          have c0 := P.c0
          have d0 := Q.c0
          have e0 := fun o => cell_kept (alrB wr o) d0
          have c1 := P.c1
          have d1 := Q.c1
          have e1 := fun o => cell_kept (alrB wr o) d1
          have c2 := P.c2
          have d2 := Q.c2
          have e2 := fun o => cell_kept (alrB wr o) d2
          have z6a := fun o => cell_kept (alrB wr o) z6
          have HPN := Lib.hid P.sl
          have HQN := Lib.hid Q.sl
          have hlt2 : (k : Int) < (Pn2 : Int) := by omega
          have hk0 : (0 : Int) ≤ (k : Int) := by omega
          clear hx P Q
          obtain ⟨w2, hw2⟩ : ∃ y, y = (wr.alloc (.cells #[.string x.name, .int .i64 x.colour, .slice XA Xn Xd] 66)).alloc (.cells #[.string x.name, .int .i64 x.colour, .slice YA Yn Yd] 66) := ⟨_, rfl⟩
          have hsz2 : (wr.alloc (.cells #[.string x.name, .int .i64 x.colour, .slice XA Xn Xd] 66)).heap.size = wr.heap.size + 1 := World.size_alloc _ _
          have r1 : w2.heap[wr.heap.size]? = some (.cells #[.string x.name, .int .i64 x.colour, .slice XA Xn Xd] 66 (0, 0)) := by rw [hw2]; exact row_alloc (heap_alloc_new wr _) _
          have r2 : w2.heap[wr.heap.size + 1]? = some (.cells #[.string x.name, .int .i64 x.colour, .slice YA Yn Yd] 66 (0, 0)) := by rw [hw2, ← hsz2]; exact heap_alloc_new _ _
          have HW2 := Lib.hid hw2.symm
          obtain ⟨gx, hgx⟩ : ∃ y, y = wr.heap.size := ⟨_, rfl⟩
          have HGX := Lib.hid hgx.symm
          rw [← hgx] at r1 r2
          have HB2 := Lib.hid (show Below wr.heap.size wr w2 by rw [hw2]; exact below_then (alrB wr _) (alrB _ _))
          have y0 := row_cell r1 0 _ rfl
          have v0 := row_cell r2 0 _ rfl
          have y1 := row_cell r1 1 _ rfl
          have v1 := row_cell r2 1 _ rfl
          have y2 := row_cell r1 2 _ rfl
          have v2 := row_cell r2 2 _ rfl
          clear hw2 hsz2 r1 r2 hgx
          have CS := Lib.hid (show Calls Tryz.prog 25 #[.slice XA Xn Xd, .slice YA Yn Yd] w2 fun e w' => e = .returned (.bool true) ∧ ∃ q, w' = w2.drewN q by
            have q := ref_Rows XA YA Xn Yn Xd Yd x.first x.first w2 (Lib.hid (HPN.out.below HB2.out)) (Lib.hid (HQN.out.below HB2.out)) (by obtain ⟨_, _, e, q1, q2, _⟩ := HPN.out; injection e with e1 e2 e3; omega) (by obtain ⟨_, _, e, q1, q2, _⟩ := HQN.out; injection e with e1 e2 e3; omega)
            simpa using q)
          go_upto_region 15 with fail
          rw [HGX.out, HW2.out]
          go_wp2_with fail
          refine CS.out.mono ?_
          rintro e w3 ⟨rfl, q, rfl⟩
          go_wp2_with fail
          go_roundw
          case rel => exact ⟨k + 1, by omega, by go_num, Lib.hid (below_drewN' (below_then hBW.out HB2.out) q)⟩
          case measure => simp [RowKit.intOf]; omega
        · go_wp2_with fail
          clear z0 z1 z2 z3 z4 z5 z6 z7 z8 z9 hk hlt hn9
          go_loopw [11] (fun v wr => ∃ (k : Nat), k ≤ Pn3 ∧ v = .int .i64 (k : Int) ∧ Hid (Below w1.heap.size w1 wr)) (fun v _ => Pn3 - (RowKit.intOf v).toNat)
          case atStart => exact ⟨0, by omega, rfl, hBW⟩
          case round =>
            obtain ⟨k, hk, rfl, hBW⟩ := hrel
            obtain ⟨z0, z1, z2, z3, z4, z5, z6, z7, z8, z9⟩ := HC.out wr hBW.out
            have hn9 := HN3.out
            by_cases hlt : k < Pn3
            · obtain ⟨b1, o1, rfl, Aav, nav, cav, Aag, nag, cag, Aai, nai, cai, Aao, nao, cao, Aac, nac, cac, P⟩ := (HTA.out.tks.below TkAt.stays hBW.out).at_ hlt
              obtain ⟨b2, o2, rfl, Abv, nbv, cbv, Abg, nbg, cbg, Abi, nbi, cbi, Abo, nbo, cbo, Abc, nbc, cbc, Q⟩ := (HTB.out.tks.below TkAt.stays hBW.out).at_ hlt
              obtain ⟨t, ht⟩ : ∃ t, t = N.tks.getD k default := ⟨_, rfl⟩
              rw [← ht] at P Q
              have CS := Lib.hid (show Calls Tryz.prog 34 #[t.val Aav nav cav Aag nag cag Aai nai cai Aao nao cao Aac nac cac, t.val Abv nbv cbv Abg nbg cbg Abi nbi cbi Abo nbo cbo Abc nbc cbc] wr.drew fun e w' => e = .returned (.bool true) ∧ Below wr.heap.size wr w' from
                (r_SameTask t Aav nav cav Aag nag cag Aai nai cai Aao nao cao Aac nac cac Abv nbv cbv Abg nbg cbg Abi nbi cbi Abo nbo cbo Abc nbc cbc wr.drew (Lib.hid (P.tks.below (below_drewN' (Below.refl _ _) 1))) (Lib.hid (Q.tks.below (below_drewN' (Below.refl _ _) 1)))).mono fun e w' q => ⟨q.1, below_then (below_drewN' (Below.refl _ _) 1) q.2⟩)
              have HX := Lib.hid (show ∀ W, Below wr.heap.size wr W → W.cell? ⟨g, 2, none⟩ = some (.slice (some ⟨b1, o1, none⟩) Pn3 Pc3) ∧ W.cell? ⟨g + 1, 2, none⟩ = some (.slice (some ⟨b2, o2, none⟩) Pn3 Qc3) ∧ W.cell? ⟨b1, o1 + k * 14, none⟩ = some (.string t.name) ∧ W.cell? ⟨b1, o1 + k * 14 + 1, none⟩ = some (.slice Aav nav cav) ∧ W.cell? ⟨b1, o1 + k * 14 + 2, none⟩ = some (.int .i64 t.guard.kind) ∧ W.cell? ⟨b1, o1 + k * 14 + 3, none⟩ = some (.int .i64 t.guard.num) ∧ W.cell? ⟨b1, o1 + k * 14 + 4, none⟩ = some (.slice Aag nag cag) ∧ W.cell? ⟨b1, o1 + k * 14 + 5, none⟩ = some (.int .i64 t.join) ∧ W.cell? ⟨b1, o1 + k * 14 + 6, none⟩ = some (.int .i64 t.split) ∧ W.cell? ⟨b1, o1 + k * 14 + 7, none⟩ = some (.slice Aai nai cai) ∧ W.cell? ⟨b1, o1 + k * 14 + 8, none⟩ = some (.slice Aao nao cao) ∧ W.cell? ⟨b1, o1 + k * 14 + 9, none⟩ = some (.slice Aac nac cac) ∧ W.cell? ⟨b1, o1 + k * 14 + 10, none⟩ = some (.int .i64 t.after) ∧ W.cell? ⟨b1, o1 + k * 14 + 11, none⟩ = some (.int .i64 t.m0) ∧ W.cell? ⟨b1, o1 + k * 14 + 12, none⟩ = some (.int .i64 t.m1) ∧ W.cell? ⟨b1, o1 + k * 14 + 13, none⟩ = some (.int .i64 t.m2) ∧ W.cell? ⟨b2, o2 + k * 14, none⟩ = some (.string t.name) ∧ W.cell? ⟨b2, o2 + k * 14 + 1, none⟩ = some (.slice Abv nbv cbv) ∧ W.cell? ⟨b2, o2 + k * 14 + 2, none⟩ = some (.int .i64 t.guard.kind) ∧ W.cell? ⟨b2, o2 + k * 14 + 3, none⟩ = some (.int .i64 t.guard.num) ∧ W.cell? ⟨b2, o2 + k * 14 + 4, none⟩ = some (.slice Abg nbg cbg) ∧ W.cell? ⟨b2, o2 + k * 14 + 5, none⟩ = some (.int .i64 t.join) ∧ W.cell? ⟨b2, o2 + k * 14 + 6, none⟩ = some (.int .i64 t.split) ∧ W.cell? ⟨b2, o2 + k * 14 + 7, none⟩ = some (.slice Abi nbi cbi) ∧ W.cell? ⟨b2, o2 + k * 14 + 8, none⟩ = some (.slice Abo nbo cbo) ∧ W.cell? ⟨b2, o2 + k * 14 + 9, none⟩ = some (.slice Abc nbc cbc) ∧ W.cell? ⟨b2, o2 + k * 14 + 10, none⟩ = some (.int .i64 t.after) ∧ W.cell? ⟨b2, o2 + k * 14 + 11, none⟩ = some (.int .i64 t.m0) ∧ W.cell? ⟨b2, o2 + k * 14 + 12, none⟩ = some (.int .i64 t.m1) ∧ W.cell? ⟨b2, o2 + k * 14 + 13, none⟩ = some (.int .i64 t.m2) from fun W h => ⟨cell_kept h z2, cell_kept h z7, cell_kept h P.c0, cell_kept h P.c1, cell_kept h P.c2, cell_kept h P.c3, cell_kept h P.c4, cell_kept h P.c5, cell_kept h P.c6, cell_kept h P.c7, cell_kept h P.c8, cell_kept h P.c9, cell_kept h P.c10, cell_kept h P.c11, cell_kept h P.c12, cell_kept h P.c13, cell_kept h Q.c0, cell_kept h Q.c1, cell_kept h Q.c2, cell_kept h Q.c3, cell_kept h Q.c4, cell_kept h Q.c5, cell_kept h Q.c6, cell_kept h Q.c7, cell_kept h Q.c8, cell_kept h Q.c9, cell_kept h Q.c10, cell_kept h Q.c11, cell_kept h Q.c12, cell_kept h Q.c13⟩)
              have BD := Lib.hid (below_drewN' (Below.refl wr.heap.size wr) 1)
              have hlt2 : (k : Int) < (Pn3 : Int) := by omega
              have hk0 : (0 : Int) ≤ (k : Int) := by omega
              clear ht P Q
              go_wp2_with fail
              go_region_held3 (fun W => W.cell? ⟨g, 2, none⟩ = some (.slice (some ⟨b1, o1, none⟩) Pn3 Pc3) ∧ W.cell? ⟨g + 1, 2, none⟩ = some (.slice (some ⟨b2, o2, none⟩) Pn3 Qc3) ∧ W.cell? ⟨b1, o1 + k * 14, none⟩ = some (.string t.name) ∧ W.cell? ⟨b1, o1 + k * 14 + 1, none⟩ = some (.slice Aav nav cav) ∧ W.cell? ⟨b1, o1 + k * 14 + 2, none⟩ = some (.int .i64 t.guard.kind) ∧ W.cell? ⟨b1, o1 + k * 14 + 3, none⟩ = some (.int .i64 t.guard.num) ∧ W.cell? ⟨b1, o1 + k * 14 + 4, none⟩ = some (.slice Aag nag cag) ∧ W.cell? ⟨b1, o1 + k * 14 + 5, none⟩ = some (.int .i64 t.join) ∧ W.cell? ⟨b1, o1 + k * 14 + 6, none⟩ = some (.int .i64 t.split) ∧ W.cell? ⟨b1, o1 + k * 14 + 7, none⟩ = some (.slice Aai nai cai) ∧ W.cell? ⟨b1, o1 + k * 14 + 8, none⟩ = some (.slice Aao nao cao) ∧ W.cell? ⟨b1, o1 + k * 14 + 9, none⟩ = some (.slice Aac nac cac) ∧ W.cell? ⟨b1, o1 + k * 14 + 10, none⟩ = some (.int .i64 t.after) ∧ W.cell? ⟨b1, o1 + k * 14 + 11, none⟩ = some (.int .i64 t.m0) ∧ W.cell? ⟨b1, o1 + k * 14 + 12, none⟩ = some (.int .i64 t.m1) ∧ W.cell? ⟨b1, o1 + k * 14 + 13, none⟩ = some (.int .i64 t.m2) ∧ W.cell? ⟨b2, o2 + k * 14, none⟩ = some (.string t.name) ∧ W.cell? ⟨b2, o2 + k * 14 + 1, none⟩ = some (.slice Abv nbv cbv) ∧ W.cell? ⟨b2, o2 + k * 14 + 2, none⟩ = some (.int .i64 t.guard.kind) ∧ W.cell? ⟨b2, o2 + k * 14 + 3, none⟩ = some (.int .i64 t.guard.num) ∧ W.cell? ⟨b2, o2 + k * 14 + 4, none⟩ = some (.slice Abg nbg cbg) ∧ W.cell? ⟨b2, o2 + k * 14 + 5, none⟩ = some (.int .i64 t.join) ∧ W.cell? ⟨b2, o2 + k * 14 + 6, none⟩ = some (.int .i64 t.split) ∧ W.cell? ⟨b2, o2 + k * 14 + 7, none⟩ = some (.slice Abi nbi cbi) ∧ W.cell? ⟨b2, o2 + k * 14 + 8, none⟩ = some (.slice Abo nbo cbo) ∧ W.cell? ⟨b2, o2 + k * 14 + 9, none⟩ = some (.slice Abc nbc cbc) ∧ W.cell? ⟨b2, o2 + k * 14 + 10, none⟩ = some (.int .i64 t.after) ∧ W.cell? ⟨b2, o2 + k * 14 + 11, none⟩ = some (.int .i64 t.m0) ∧ W.cell? ⟨b2, o2 + k * 14 + 12, none⟩ = some (.int .i64 t.m1) ∧ W.cell? ⟨b2, o2 + k * 14 + 13, none⟩ = some (.int .i64 t.m2))
                (first | exact HX.out _ BD1.out | exact HX.out _ BD.out)
                (first
                  | (go_at_call 34; refine CS.out.mono ?_; rintro e w5 ⟨rfl, hb5⟩; have BD1 := Lib.hid hb5; clear hb5))
              all_goals
                go_wp2_with fail
                go_roundw
                case rel => exact ⟨k + 1, by omega, by go_num, Lib.hid (below_then hBW.out BD1.out)⟩
                case measure => simp [RowKit.intOf]; omega
            · go_wp2
              go_ret
              exact ⟨rfl, below_then HB1.out hBW.out⟩
end
end Go.Proofs.YtkpjhjoopdbkaaaGreatDoor
namespace Go.Proofs.YtkpjhjoopdbkaaaGreatDoor
theorem kt_key (T : List Tok) : ktOf T = T.map Tok.key := rfl
/-- Some token stands there, or it is the end. -/
def placesB (T : List Tok) (n : Nat) (a : Int) (k : Nat) : Bool := decide (a = (n : Int)) || (T.take k).any fun t => decide ((t.at_ : Int) = a)
theorem places_step (T : List Tok) (n : Nat) (a : Int) (k : Nat) (h : k < T.length) : placesB T n a (k + 1) = (placesB T n a k || decide ((T[k].at_ : Int) = a)) := by
  unfold placesB
  rw [List.take_succ_eq_append_getElem h, List.any_append]
  simp [Bool.or_assoc]
theorem here_places (T : List Tok) (n : Nat) (k : Nat) : placesB T n (hereT T (n : Int) k) T.length = true := by
  unfold placesB hereT
  split
  · rename_i h
    rw [List.take_length]
    have : (T.any fun t => decide ((t.at_ : Int) = (T[k].at_ : Int))) = true := List.any_eq_true.2 ⟨T[k], List.getElem_mem h, by simp⟩
    rw [this, Bool.or_true]
  · simp
theorem net_places (T : List Tok) (n : Nat) : placesB T n (netAll T (n : Int)).2.1 T.length = true := by
  unfold netAll
  split
  · unfold placesB; simp
  · rename_i h
    show placesB T n (placeT T (n : Int) (netP (ktOf T))) T.length = true
    unfold placeT
    rw [if_neg h]
    exact here_places T n _
theorem net_kt {T T' : List Tok} (h : ktOf T = ktOf T') (a b : Int) : (netAll T a).1 = (netAll T' b).1 ∧ (netAll T a).2.2 = (netAll T' b).2.2 := by
  unfold netAll
  rw [h]
  split
  · exact ⟨rfl, rfl⟩
  · exact ⟨rfl, rfl⟩
theorem kt_move (d : Nat) (T : List Tok) : ktOf (T.map (Tok.move d)) = ktOf T := by
  unfold ktOf
  rw [List.map_map]
  rfl
theorem here_move (d : Nat) (T : List Tok) (n k : Nat) : hereT (T.map (Tok.move d)) ((n + d : Nat) : Int) k = hereT T (n : Int) k + d := by
  unfold hereT
  by_cases h : k < T.length
  · rw [dif_pos (by simpa using h), dif_pos h]
    simp [Tok.move]
  · rw [dif_neg (by simpa using h), dif_neg h]
    omega
theorem net_move (d : Nat) (T : List Tok) (n : Nat) : netAll (T.map (Tok.move d)) ((n + d : Nat) : Int) = ((netAll T (n : Int)).1, (netAll T (n : Int)).2.1 + d, (netAll T (n : Int)).2.2) := by
  unfold netAll
  rw [kt_move]
  split
  · simp
  · rename_i h
    show (Nt.zero, placeT (T.map (Tok.move d)) ((n + d : Nat) : Int) (netP (ktOf T)), (netP (ktOf T)).err) = (Nt.zero, placeT T (n : Int) (netP (ktOf T)) + d, (netP (ktOf T)).err)
    unfold placeT
    rw [if_neg h, if_neg h, here_move]
theorem lex_two_blanks (l : List UInt8) (hl : l.length ≤ 4096) : lexR (32 :: 32 :: l) = moved 2 (lexR l) := by
  rw [lexR_O _ (by simp; omega), lexR_O l (by omega)]
  rw [show (32 :: 32 :: l).length + 1 = (l.length + 2) + 1 by simp]
  rw [lexO_blank (by decide), lexO_blank (by decide), ← lexO_move, Nat.zero_add]
  exact lexO_fuel _ _ _ _ (by omega) (by omega)
theorem two_bytes (s : ByteArray) : ((⟨#[32, 32]⟩ : ByteArray) ++ s).data.toList = 32 :: 32 :: s.data.toList := by simp
theorem text_blanks (s : ByteArray) (hs : s.size ≤ 4096) : textAll ((⟨#[32, 32]⟩ : ByteArray) ++ s) = ((textAll s).1, (textAll s).2.1 + 2, (textAll s).2.2) := by
  have hl : s.data.toList.length ≤ 4096 := by simpa using hs
  unfold textAll
  rw [two_bytes, lex_two_blanks _ hl]
  obtain ⟨ts, en, er⟩ := lexR s.data.toList
  unfold moved
  simp only
  split
  · rw [net_move 2 ts en]; simp
  · simp
theorem text_join (s : ByteArray) (hs : s.size ≤ 4096) (h0 : (lexR s.data.toList).2.2 = 0) : (textAll ⟨(joinL (lexR s.data.toList).1).toArray⟩).1 = (textAll s).1 ∧ (textAll ⟨(joinL (lexR s.data.toList).1).toArray⟩).2.2 = (textAll s).2.2 := by
  have hl : s.data.toList.length ≤ 4096 := by simpa using hs
  obtain ⟨ms, m1, m2, m3, m4, m5⟩ := lex_join hl h0
  unfold textAll
  rw [h0, show (⟨(joinL (lexR s.data.toList).1).toArray⟩ : ByteArray).data.toList = joinL (lexR s.data.toList).1 by simp, m1]
  simp only [if_true]
  exact net_kt (by rw [kt_key, kt_key, m2]) _ _
theorem text_places (s : ByteArray) (hs : s.size ≤ 4096) (h0 : (lexR s.data.toList).2.2 = 0) : placesB (lexR s.data.toList).1 s.size (textAll s).2.1 (lexR s.data.toList).1.length = true := by
  have hl : s.data.toList.length ≤ 4096 := by simpa using hs
  obtain ⟨ms, m1, m2, m3, m4, m5⟩ := lex_join hl h0
  unfold textAll
  rw [h0]
  simp only [if_true]
  rw [m3, show s.data.toList.length = s.size by simp]
  exact net_places _ _
/-- What cannot be cut has no net. -/
theorem text_bad (s : ByteArray) (h0 : (lexR s.data.toList).2.2 ≠ 0) : (textAll s).1 = Nt.zero ∧ (textAll s).2.2 = (lexR s.data.toList).2.2 := by
  unfold textAll
  rw [if_neg h0]
  exact ⟨rfl, rfl⟩
theorem text_at (s : ByteArray) (hs : s.size ≤ 4096) (h0 : (lexR s.data.toList).2.2 = 0) : 0 ≤ (textAll s).2.1 ∧ (textAll s).2.1 ≤ 4096 := by
  have hl : s.data.toList.length ≤ 4096 := by simpa using hs
  have h := text_places s hs h0
  unfold placesB at h
  simp only [Bool.or_eq_true] at h
  rcases h with h | h
  · have := of_decide_eq_true h; omega
  · obtain ⟨t, ht, e⟩ := List.any_eq_true.1 h
    have e := of_decide_eq_true e
    have := lex_tok_at hl t (List.mem_of_mem_take ht)
    omega
end Go.Proofs.YtkpjhjoopdbkaaaGreatDoor
namespace Go.Proofs.YtkpjhjoopdbkaaaGreatDoor
open Go.RowKit
set_option maxRecDepth 100000 in
set_option maxHeartbeats 16000000 in
theorem law_ParsePlaces (s : ByteArray) (w : World) (ht : Hid (∀ W, Below w.heap.size w W → TabOk W)) (htab : Hid (∀ W, Below w.heap.size w W → TabT W)) (hs7 : s.size ≤ 9223372036854775807) :
    Calls Tryz.prog 4 #[.string s] w fun e w' => e = .returned (.bool true) ∧ Below w.heap.size w w' := by
  by_cases h4 : (4096 : Int) < (s.size : Int)
  · go_enter Tryz.func4, Tryz.ntmps4
    go_wp2_with (go_at_call 8; refine (law_small _ ht htab).mono ?_; rintro e w1 ⟨rfl, hb1⟩)
    go_ret
    exact ⟨rfl, hb1⟩
  have hs : s.size ≤ 4096 := by omega
  have HS4 := Lib.hid hs
  have CL := Lib.hid (fun W => tok_Lex s W (by omega))
  have CT := Lib.hid (fun W (hb : Below w.heap.size w W) => pa_Text s W (Lib.hid (ht.out W hb)) (by omega))
  have HBAD := Lib.hid (text_bad s)
  have HATB := Lib.hid (text_at s hs)
  have HPLC := Lib.hid (text_places s hs)
  have HJO := Lib.hid (text_join s hs)
  have HBL := Lib.hid (text_blanks s hs)
  have hl : s.data.toList.length ≤ 4096 := by simpa using hs
  have HLA := Lib.hid (lex_at hl)
  have HJL := Lib.hid (fun h0 => (lex_join hl h0).choose_spec.2.2.2.2)
  obtain ⟨N, hN⟩ : ∃ y, y = (textAll s).1 := ⟨_, rfl⟩
  obtain ⟨a, ha⟩ : ∃ y, y = (textAll s).2.1 := ⟨_, rfl⟩
  obtain ⟨er, her⟩ : ∃ y, y = (textAll s).2.2 := ⟨_, rfl⟩
  have htx : textAll s = (N, a, er) := by rw [hN, ha, her]
  rw [htx] at CT HBAD HATB HPLC HJO HBL
  obtain ⟨L, hL⟩ : ∃ y, y = lexR s.data.toList := ⟨_, rfl⟩
  have hcl := fun W => (CL.out W)
  rw [← hL] at hcl HBAD HATB HPLC HJO HLA HJL
  have CL := Lib.hid hcl
  obtain ⟨ts, en, el⟩ := L
  clear hN ha her htx hL hl hcl
  simp only at HBAD HATB HPLC HJO HLA HJL
  go_enter Tryz.func4, Tryz.ntmps4
  go_wp2_with fail
  refine (law_small _ ht htab).mono ?_
  rintro e w1 ⟨rfl, hb1⟩
  have HB1 := Lib.hid hb1
  clear hb1
  go_wp2_with fail
  refine (CL.out w1).mono ?_
  rintro e w2 ⟨v, rfl, hS, hB⟩
  obtain ⟨A0, c0, rfl, hnc, hc9, hS2⟩ := hS.form
  have HS2 := Lib.hid hS2
  have HB2 := Lib.hid (below_then HB1.out hB)
  clear hS hS2 hB
  go_wp2_with fail
  refine (CT.out w2 HB2.out).mono ?_
  rintro e x1 ⟨A11, n11, c11, A12, n12, c12, A13, n13, c13, rfl, hH, hB⟩
  have hN := hH.now
  have HX1 := Lib.hid hB
  have HB3 := Lib.hid (below_then HB2.out hB)
  clear hH
  have HN1 := Lib.hid hN
  have HY1 := Lib.hid (below_then HB3.out (alrB x1 (.cells #[.slice A11 n11 c11, .slice A12 n12 c12, .slice A13 n13 c13, .int .i64 N.from_, .int .i64 N.to_] 39)))
  have R1 := Lib.hid (heap_alloc_new x1 (.cells #[.slice A11 n11 c11, .slice A12 n12 c12, .slice A13 n13 c13, .int .i64 N.from_, .int .i64 N.to_] 39))
  clear hN hB
  go_upto_region 6 with fail
  obtain ⟨y1, hy1⟩ : ∃ y, y = x1.alloc (.cells #[.slice A11 n11 c11, .slice A12 n12 c12, .slice A13 n13 c13, .int .i64 N.from_, .int .i64 N.to_] 39) := ⟨_, rfl⟩
  obtain ⟨g1, hg1⟩ : ∃ y, y = x1.heap.size := ⟨_, rfl⟩
  have HM1 := Lib.hid (show NetAt y1 A11 n11 c11 A12 n12 c12 A13 n13 c13 N by rw [hy1]; exact HN1.out.below (alrB _ _))
  have HZ1 := Lib.hid (show Below x1.heap.size x1 y1 by rw [hy1]; exact alrB _ _)
  rw [← hy1] at HY1 R1 ⊢
  rw [← hg1] at R1 ⊢
  clear hy1 hg1 HN1
  by_cases hel : el = 0
  · have z6 : (el != 0) = false := by simpa using hel
    have HEL := Lib.hid hel
    have HA := Lib.hid (HATB.out hel)
    have HP := Lib.hid (HPLC.out hel)
    have HJ := Lib.hid (HJO.out hel)
    have HJN := Lib.hid (HJL.out hel)
    obtain ⟨J, hJ⟩ : ∃ y : ByteArray, y = ⟨(joinL ts).toArray⟩ := ⟨_, rfl⟩
    have HJS := Lib.hid (show J.size ≤ 8192 by rw [hJ]; show (joinL ts).toArray.size ≤ 8192; simpa using HJN.out)
    have CJ := Lib.hid (fun W (hb : Below y1.heap.size y1 W) => (show Calls Tryz.prog 13 #[.slice A0 ts.length c0] W fun e w' => e = .returned (.string J) ∧ Below W.heap.size W w' by
      rw [hJ]; exact tok_Join (.slice A0 ts.length c0) ts W (Lib.hid (HS2.out.below (below_then (below_then HX1.out HZ1.out) hb))) (Lib.hid (by have := HLA.out.1; omega)) (Lib.hid (by have := HJN.out; omega))))
    rw [← hJ] at HJ
    obtain ⟨aj, haj⟩ : ∃ y, y = (textAll J).2.1 := ⟨_, rfl⟩
    have htj : textAll J = (N, aj, er) := by rw [haj, ← HJ.out.1, ← HJ.out.2]
    have CTJ := Lib.hid (fun W (hb : Below w.heap.size w W) => pa_Text J W (Lib.hid (ht.out W hb)) (by have := HJS.out; omega))
    rw [htj] at CTJ
    have CTB := Lib.hid (fun W (hb : Below w.heap.size w W) => pa_Text ((⟨#[32, 32]⟩ : ByteArray) ++ s) W (Lib.hid (ht.out W hb)) (by rw [ByteArray.size_append]; have := HS4.out; show 2 + s.size ≤ _; omega))
    rw [HBL.out] at CTB
    have wa : IntKind.i64.wrap (a + 2) = a + 2 := IntWalk.i64_in _ ⟨by have := HA.out; omega, by have := HA.out; omega⟩
    clear hel hJ haj htj
    go_wp2_with fail
    refine (CJ.out y1 (Below.refl _ _)).mono ?_
    rintro e w3 ⟨rfl, hB⟩
    have HB4 := Lib.hid (below_then HY1.out hB)
    have HD1 := Lib.hid hB
    clear hB
    go_wp2_with fail
    refine (CTJ.out w3 HB4.out).mono ?_
    rintro e x2 ⟨A21, n21, c21, A22, n22, c22, A23, n23, c23, rfl, hH, hB⟩
    have hN := hH.now
    have HX2 := Lib.hid hB
    have HB5 := Lib.hid (below_then HB4.out hB)
    clear hH
    have HN2 := Lib.hid hN
    have HY2 := Lib.hid (below_then HB5.out (alrB x2 (.cells #[.slice A21 n21 c21, .slice A22 n22 c22, .slice A23 n23 c23, .int .i64 N.from_, .int .i64 N.to_] 39)))
    have R2 := Lib.hid (heap_alloc_new x2 (.cells #[.slice A21 n21 c21, .slice A22 n22 c22, .slice A23 n23 c23, .int .i64 N.from_, .int .i64 N.to_] 39))
    clear hN hB
    go_upto_region 9 with fail
    obtain ⟨y2, hy2⟩ : ∃ y, y = x2.alloc (.cells #[.slice A21 n21 c21, .slice A22 n22 c22, .slice A23 n23 c23, .int .i64 N.from_, .int .i64 N.to_] 39) := ⟨_, rfl⟩
    obtain ⟨g2, hg2⟩ : ∃ y, y = x2.heap.size := ⟨_, rfl⟩
    have HM2 := Lib.hid (show NetAt y2 A21 n21 c21 A22 n22 c22 A23 n23 c23 N by rw [hy2]; exact HN2.out.below (alrB _ _))
    have HZ2 := Lib.hid (show Below x2.heap.size x2 y2 by rw [hy2]; exact alrB _ _)
    rw [← hy2] at HY2 R2 ⊢
    rw [← hg2] at R2 ⊢
    clear hy2 hg2 HN2
    go_wp2_with fail
    refine (CTB.out y2 HY2.out).mono ?_
    rintro e x3 ⟨A31, n31, c31, A32, n32, c32, A33, n33, c33, rfl, hH, hB⟩
    have hN := hH.now
    have HX3 := Lib.hid hB
    have HB6 := Lib.hid (below_then HY2.out hB)
    clear hH
    have HN3 := Lib.hid hN
    have HY3 := Lib.hid (below_then HB6.out (alrB x3 (.cells #[.slice A31 n31 c31, .slice A32 n32 c32, .slice A33 n33 c33, .int .i64 N.from_, .int .i64 N.to_] 39)))
    have R3 := Lib.hid (heap_alloc_new x3 (.cells #[.slice A31 n31 c31, .slice A32 n32 c32, .slice A33 n33 c33, .int .i64 N.from_, .int .i64 N.to_] 39))
    clear hN hB
    go_upto_region 10 with fail
    obtain ⟨y3, hy3⟩ : ∃ y, y = x3.alloc (.cells #[.slice A31 n31 c31, .slice A32 n32 c32, .slice A33 n33 c33, .int .i64 N.from_, .int .i64 N.to_] 39) := ⟨_, rfl⟩
    obtain ⟨g3, hg3⟩ : ∃ y, y = x3.heap.size := ⟨_, rfl⟩
    have HM3 := Lib.hid (show NetAt y3 A31 n31 c31 A32 n32 c32 A33 n33 c33 N by rw [hy3]; exact HN3.out.below (alrB _ _))
    have HZ3 := Lib.hid (show Below x3.heap.size x3 y3 by rw [hy3]; exact alrB _ _)
    rw [← hy3] at HY3 R3 ⊢
    rw [← hg3] at R3 ⊢
    clear hy3 hg3 HN3
    have K23 := Lib.hid (below_then HX3.out HZ3.out)
    have K13 := Lib.hid (below_then (below_then (below_then HD1.out HX2.out) HZ2.out) K23.out)
    have K03 := Lib.hid (below_then (below_then HX1.out HZ1.out) K13.out)
    have HTK := Lib.hid (HS2.out.below K03.out)
    obtain ⟨p0, hp0⟩ : ∃ y, y = placesB ts s.size a 0 := ⟨_, rfl⟩
    have HP0 := Lib.hid (show (a == (s.size : Int)) = placesB ts s.size a 0 by simp [placesB]; rfl)
    clear hp0 p0
    go_wp2_with fail
    go_loopg [16, 17] (ts.length + 1) (fun f v16 v17 wr => ∃ k : Nat, k ≤ ts.length ∧ v16 = .bool (placesB ts s.size a k) ∧ v17 = .int .i64 (k : Int) ∧ wr = y3 ∧ Hid (ts.length < k + f))
    case atStart => exact ⟨0, by omega, by rw [← HP0.out], rfl, rfl, Lib.hid (by omega)⟩
    case round =>
      obtain ⟨k, hk, rfl, rfl, rfl, hf⟩ := hrel
      obtain ⟨f, rfl⟩ : ∃ f, gk = f + 1 := ⟨gk - 1, by have := hf.out; omega⟩
      have hnn := HLA.out.1
      by_cases hlt : k < ts.length
      · obtain ⟨b, off, rfl, _, h0, h1, h2⟩ := HTK.out.tok (k := k) hlt
        have HPS := Lib.hid (places_step ts s.size a k hlt)
        obtain ⟨q, hq⟩ : ∃ q, q = (ts[k].at_ : Int) := ⟨_, rfl⟩
        rw [← hq] at h2 HPS
        obtain ⟨r, hr⟩ : ∃ r, r = placesB ts s.size a k := ⟨_, rfl⟩
        rw [← hr] at HPS ⊢
        have hlt2 : (k : Int) < (ts.length : Int) := by omega
        have hk0 : (0 : Int) ≤ (k : Int) := by omega
        clear hq hr h0 h1
        cases r with
        | true =>
          go_wp2
          go_roundg f
          case measure => omega
          case rel => exact ⟨k + 1, by omega, by rw [HPS.out]; rfl, by go_num, rfl, Lib.hid (by have := hf.out; omega)⟩
        | false =>
          go_wp2
          go_roundg f
          case measure => omega
          case rel => exact ⟨k + 1, by omega, by rw [HPS.out, Bool.false_or]; rfl, by go_num, rfl, Lib.hid (by have := hf.out; omega)⟩
      · obtain rfl : k = ts.length := by omega
        rw [HP.out]
        have z10 := row_cell (row_below R1.out (below_then (below_then (below_then HD1.out HX2.out) HZ2.out) K23.out)) 0 _ rfl
        have z11 := row_cell (row_below R1.out (below_then (below_then (below_then HD1.out HX2.out) HZ2.out) K23.out)) 1 _ rfl
        have z12 := row_cell (row_below R1.out (below_then (below_then (below_then HD1.out HX2.out) HZ2.out) K23.out)) 2 _ rfl
        have z13 := row_cell (row_below R1.out (below_then (below_then (below_then HD1.out HX2.out) HZ2.out) K23.out)) 3 _ rfl
        have z14 := row_cell (row_below R1.out (below_then (below_then (below_then HD1.out HX2.out) HZ2.out) K23.out)) 4 _ rfl
        have z20 := row_cell (row_below R2.out (K23.out)) 0 _ rfl
        have z21 := row_cell (row_below R2.out (K23.out)) 1 _ rfl
        have z22 := row_cell (row_below R2.out (K23.out)) 2 _ rfl
        have z23 := row_cell (row_below R2.out (K23.out)) 3 _ rfl
        have z24 := row_cell (row_below R2.out (K23.out)) 4 _ rfl
        have z30 := row_cell (row_below R3.out (Below.refl _ _)) 0 _ rfl
        have z31 := row_cell (row_below R3.out (Below.refl _ _)) 1 _ rfl
        have z32 := row_cell (row_below R3.out (Below.refl _ _)) 2 _ rfl
        have z33 := row_cell (row_below R3.out (Below.refl _ _)) 3 _ rfl
        have z34 := row_cell (row_below R3.out (Below.refl _ _)) 4 _ rfl
        go_wp2_with fail
        refine (r_SameNet A11 n11 c11 A12 n12 c12 A13 n13 c13 A21 n21 c21 A22 n22 c22 A23 n23 c23 _ (Lib.hid (HM1.out.below K13.out)) (Lib.hid (HM2.out.below K23.out))).mono ?_
        rintro e w9 ⟨rfl, hB9⟩
        have HB9 := Lib.hid hB9
        clear hB9 z10 z11 z12 z13 z14 z20 z21 z22 z23 z24 z30 z31 z32 z33 z34
        have z10 := row_cell (row_below R1.out (below_then K13.out HB9.out)) 0 _ rfl
        have z11 := row_cell (row_below R1.out (below_then K13.out HB9.out)) 1 _ rfl
        have z12 := row_cell (row_below R1.out (below_then K13.out HB9.out)) 2 _ rfl
        have z13 := row_cell (row_below R1.out (below_then K13.out HB9.out)) 3 _ rfl
        have z14 := row_cell (row_below R1.out (below_then K13.out HB9.out)) 4 _ rfl
        have z20 := row_cell (row_below R2.out (below_then K23.out HB9.out)) 0 _ rfl
        have z21 := row_cell (row_below R2.out (below_then K23.out HB9.out)) 1 _ rfl
        have z22 := row_cell (row_below R2.out (below_then K23.out HB9.out)) 2 _ rfl
        have z23 := row_cell (row_below R2.out (below_then K23.out HB9.out)) 3 _ rfl
        have z24 := row_cell (row_below R2.out (below_then K23.out HB9.out)) 4 _ rfl
        have z30 := row_cell (row_below R3.out (HB9.out)) 0 _ rfl
        have z31 := row_cell (row_below R3.out (HB9.out)) 1 _ rfl
        have z32 := row_cell (row_below R3.out (HB9.out)) 2 _ rfl
        have z33 := row_cell (row_below R3.out (HB9.out)) 3 _ rfl
        have z34 := row_cell (row_below R3.out (HB9.out)) 4 _ rfl
        go_wp2_with fail
        refine (r_SameNet A11 n11 c11 A12 n12 c12 A13 n13 c13 A31 n31 c31 A32 n32 c32 A33 n33 c33 _ (Lib.hid (HM1.out.below (below_then K13.out HB9.out))) (Lib.hid (HM3.out.below HB9.out))).mono ?_
        rintro e w10 ⟨rfl, hB10⟩
        have HB10 := Lib.hid hB10
        clear hB10
        go_wp2
        go_ret
        exact ⟨rfl, below_then (below_then HY3.out HB9.out) HB10.out⟩
  · have z6 : (el != 0) = true := by simpa using hel
    obtain ⟨hN0, he0⟩ := HBAD.out hel
    subst hN0
    subst he0
    obtain rfl : n12 = 0 := HM1.out.pls.len.1.symm
    have z1 := row_cell R1.out 1 _ rfl
    have bi : (er == er) = true := by simp
    clear hel
    go_wp2
    go_ret
    exact ⟨rfl, HY1.out⟩
end Go.Proofs.YtkpjhjoopdbkaaaGreatDoor
