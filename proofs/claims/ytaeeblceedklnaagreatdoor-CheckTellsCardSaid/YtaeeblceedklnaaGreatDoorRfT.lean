/- The document's answer: Task. Printed by gen_rfT.py. -/
import Derived.Test.YtaeeblceedklnaaGreatDoorRfDM
import Derived.Test.YtaeeblceedklnaaGreatDoorCkT
namespace Go.Proofs.YtaeeblceedklnaaGreatDoor
open Go.RowKit
theorem colsE_8 {L : List Col} (h : (colsE L).2 ≠ 0) : (colsE L).2 = 8 ∧ 0 ≤ (colsE L).1 := by
  obtain ⟨j, _, _, e⟩ := seekE_at h
  have e2 : colsE L = ((j : Int), colourE L j) := e
  rw [e2] at h ⊢
  refine ⟨?_, by omega⟩
  unfold colourE at h ⊢
  split
  · rename_i h1; rw [if_pos h1] at h; exact absurd rfl h
  · rfl
theorem colsR_no {L : List Col} (h : (colsE L).2 ≠ 0) : 0 ≤ colsR L := by
  unfold colsR
  rw [if_neg h]
  exact (colsE_8 h).2
theorem colsR_yes {L : List Col} (h : (colsE L).2 = 0) : colsR L = -1 := by
  unfold colsR
  rw [if_pos h]
theorem taken_any {l : List Int} {y : Int} {j : Nat} (hj : j ≤ l.length) : (!(l.take j).contains y) = true ↔ ∀ u, u < j → l.getD u 0 ≠ y := by
  rw [Bool.not_eq_true', ← Bool.not_eq_true, List.contains_iff_mem]
  constructor
  · intro h u hu e
    refine h ?_
    have e2 : l.getD u 0 = l[u]'(by omega) := by simp [List.getD, show u < l.length by omega]
    rw [← e, e2]
    exact List.mem_iff_getElem.2 ⟨u, by simp; omega, by simp⟩
  · intro h hx
    obtain ⟨u, hu, e⟩ := List.mem_iff_getElem.1 hx
    have hu2 : u < j ∧ u < l.length := by simp at hu; omega
    refine h u hu2.1 ?_
    have e2 : l.getD u 0 = l[u] := by simp [List.getD, hu2.2]
    rw [e2, ← e]
    simp
section
variable {A1 A2 A3 : Option Addr} {n1 c1 n2 c2 n3 c3 : Nat} {N : Nt}
set_option maxRecDepth 100000 in
set_option maxHeartbeats 32000000 in
theorem rf_Task_in (k : Nat) (w : World) (hk : k < n3) (hN : Hid (NetAt w A1 n1 c1 A2 n2 c2 A3 n3 c3 N)) (hF : Hid (SmallT (N.tks.getD k default))) :
    Calls Tryz.prog 14 #[netV A1 n1 c1 A2 n2 c2 A3 n3 c3 N.from_ N.to_, .int .i64 (k : Int)] w fun e w' => e = .returned (.int .i64 (taskB N k (N.tks.getD k default))) ∧ Below w.heap.size w w' := by
  have hn1 := Nat.le_trans hN.out.cols.1 hN.out.cols.2.1
  have hn2 := Nat.le_trans hN.out.pls.1 hN.out.pls.2.1
  have HLC := Lib.hid hN.out.cols.2.2.1
  have HLP := Lib.hid hN.out.pls.2.2.1
  obtain ⟨w1, hw1⟩ : ∃ x, x = w.alloc (.cells #[.slice A1 n1 c1, .slice A2 n2 c2, .slice A3 n3 c3, .int .i64 N.from_, .int .i64 N.to_] 26) := ⟨_, rfl⟩
  have HB1 := Lib.hid (show Below w.heap.size w w1 by rw [hw1]; exact alr w _)
  have NB1 := Lib.hid (show NBox w1 w.heap.size A1 n1 c1 A2 n2 c2 A3 n3 c3 N.from_ N.to_ by rw [hw1]; exact NBox.new w A1 n1 c1 A2 n2 c2 A3 n3 c3 N.from_ N.to_ 26)
  have HW := Lib.hid hw1.symm
  clear hw1
  have hn3 := Nat.le_trans hN.out.tks.1 hN.out.tks.2.1
  have HLT := Lib.hid hN.out.tks.2.2.1
  obtain ⟨b, off, rfl, hat⟩ := hN.out.tks.2.2.2 (by omega)
  have HAT := Lib.hid hat
  obtain ⟨Av, nv, cv, Ag, mg, cg, Ai, ni, ci, Ao, no, co, Ac, nc, cc, hE⟩ := hat k hk
  obtain ⟨q, hq⟩ : ∃ q, q = N.tks.getD k default := ⟨_, rfl⟩
  rw [← hq] at hE hF ⊢
  have HLV := Lib.hid hE.vars.2.2.1
  have HLI := Lib.hid hE.ins.2.2.1
  have HLO := Lib.hid hE.outs.2.2.1
  have HLC' := Lib.hid (show q.cancel.length = nc by have := hE.cancel.len; rw [intCells_len] at this; omega)
  have HEE := Lib.hid (show taskB N k q = if (colsE N.cols).2 = 0 then
    firstE [(freeB q.name, 1), (!(N.tks.take k).any fun x => decide (x.name = q.name), 5), (sizesB q, 2), (decide (varsE n1 q.vars = 0), varsE n1 q.vars), (decide (bindsE N k ≤ 1024), 2),
      (rightT nv q.guard && (decide (0 < ni) && decide (0 < no)), 1), (decide (arcsE n2 nv q.ins = 0), arcsE n2 nv q.ins),
      (decide (arcsE n2 nv q.outs = 0), arcsE n2 nv q.outs), (decide (cancelsE n2 q.cancel = 0), cancelsE n2 q.cancel), (kindsB q, 11)]
    else (colsE N.cols).2 by unfold taskB; rw [HLC.out, HLP.out, HLV.out, HLI.out, HLO.out])
  obtain ⟨E, hE0⟩ : ∃ E, E = taskB N k q := ⟨_, rfl⟩
  rw [← hE0] at HEE ⊢
  have HQ := Lib.hid hq
  have HE14 := Lib.hid hE
  have k0 : (0 : Int) ≤ (k : Int) := by omega
  have kn : ¬ (k : Int) < 0 := by omega
  have k1 : (k : Int) < (n3 : Int) := by omega
  have cC := rf_colours w1 (Lib.hid (hN.out.below HB1.out))
  clear hE0 hq hat
  by_cases h0 : (colsE N.cols).2 = 0
  case neg =>
    have h8 := colsR_no h0
    obtain ⟨y, hy⟩ : ∃ y, y = colsR N.cols := ⟨_, rfl⟩
    rw [← hy] at cC h8
    have CC := Lib.hid cC
    have HE := Lib.hid (show E = 8 by rw [HEE.out, if_neg h0]; exact (colsE_8 h0).1)
    clear hy cC h0 HEE hE
    go_enter Tryz.func14, Tryz.ntmps14
    go_upto_region 1 with fail
    rw [HW.out]
    obtain ⟨x0, x1, x2, x3, x4⟩ := NB1.out
    go_wp2_with fail
    refine CC.out.mono ?_
    rintro e w2 ⟨rfl, hb⟩
    have HB2 := Lib.hid (below_then HB1.out hb)
    clear hb x0 x1 x2 x3 x4
    go_wp2_with fail
    go_ret
    exact ⟨ret1 HE.out.symm, HB2.out⟩
  case pos =>
  rw [colsR_yes h0] at cC
  have CC := Lib.hid cC
  rw [if_pos h0] at HEE
  obtain ⟨f1, hf1⟩ : ∃ y, y = freeB q.name := ⟨_, rfl⟩
  obtain ⟨f2, hf2⟩ : ∃ y, y = !(N.tks.take k).any fun x => decide (x.name = q.name) := ⟨_, rfl⟩
  obtain ⟨f3, hf3⟩ : ∃ y, y = sizesB q := ⟨_, rfl⟩
  obtain ⟨v, hv⟩ : ∃ y, y = varsE n1 q.vars := ⟨_, rfl⟩
  obtain ⟨bE, hbE⟩ : ∃ y, y = bindsE N k := ⟨_, rfl⟩
  obtain ⟨f6, hf6⟩ : ∃ y, y = rightT nv q.guard := ⟨_, rfl⟩
  obtain ⟨a1, ha1⟩ : ∃ y, y = arcsE n2 nv q.ins := ⟨_, rfl⟩
  obtain ⟨a2, ha2⟩ : ∃ y, y = arcsE n2 nv q.outs := ⟨_, rfl⟩
  obtain ⟨cE, hcE⟩ : ∃ y, y = cancelsE n2 q.cancel := ⟨_, rfl⟩
  obtain ⟨f10, hf10⟩ : ∃ y, y = kindsB q := ⟨_, rfl⟩
  have HE0 : Hid (E = firstE [(f1, 1), (f2, 5), (f3, 2), (decide (v = 0), v), (decide (bE ≤ 1024), 2), (f6 && (decide (0 < ni) && decide (0 < no)), 1), (decide (a1 = 0), a1), (decide (a2 = 0), a2), (decide (cE = 0), cE), (f10, 11)]) := Lib.hid (by rw [hf1, hf2, hf3, hv, hbE, hf6, ha1, ha2, hcE, hf10]; exact HEE.out)
  have CF := Lib.hid (show ∀ W, Calls Tryz.prog 51 #[.string q.name] W fun e w' => e = .returned (.bool f1) ∧ Below W.heap.size W w' by rw [hf1]; exact fun W => rf_free q.name W)
  have HF2 := Lib.hid (show f2 = true ↔ ∀ u, u < k → (N.tks.getD u default).name ≠ q.name by rw [hf2]; exact take_any (f := fun x : Tk => x.name) (by rw [HLT.out]; omega))
  have HF3 := Lib.hid (show f3 = (decide (nv ≤ 16) && decide (max (max ni no) nc ≤ 16)) by rw [hf3]; unfold sizesB; rw [HLV.out, HLI.out, HLO.out, HLC'.out])
  have CV := Lib.hid (show ∀ W, Below w.heap.size w W → Calls Tryz.prog 73 #[netV A1 n1 c1 A2 n2 c2 (some ⟨b, off, none⟩) n3 c3 N.from_ N.to_, .slice Av nv cv] W fun e w' => e = .returned (.int .i64 v) ∧ Below W.heap.size W w' by
    rw [hv]; exact fun W h => rf_vars q.vars Av nv cv W (Lib.hid (hN.out.below h)) (Lib.hid (HE14.out.vars.below VrAt.stays h)))
  have CB := Lib.hid (show ∀ W, Below w.heap.size w W → Calls Tryz.prog 74 #[netV A1 n1 c1 A2 n2 c2 (some ⟨b, off, none⟩) n3 c3 N.from_ N.to_, .int .i64 (k : Int)] W fun e w' => e = .returned (.int .i64 bE) ∧ Below W.heap.size W w' by
    rw [hbE]; exact fun W h => rf_Binds (k : Int) W (Lib.hid (hN.out.below h)))
  have CR := Lib.hid (show ∀ W, Below w.heap.size w W → Calls Tryz.prog 75 #[q.guard.val Ag mg cg, .int .i64 (nv : Int)] W fun e w' => e = .returned (.bool f6) ∧ Below W.heap.size W w' by
    rw [hf6]; exact fun W h => r_Right (nv : Int) q.guard Ag mg cg W (Lib.hid (HE14.out.guard.kept h)) hF.out.1)
  have CA1 := Lib.hid (show ∀ W, Below w.heap.size w W → Calls Tryz.prog 76 #[netV A1 n1 c1 A2 n2 c2 (some ⟨b, off, none⟩) n3 c3 N.from_ N.to_, .slice Ai ni ci, .int .i64 (nv : Int)] W fun e w' => e = .returned (.int .i64 a1) ∧ Below W.heap.size W w' by
    rw [ha1]; exact fun W h => rf_arcs q.ins Ai ni ci (nv : Int) W (Lib.hid (hN.out.below h)) (Lib.hid (HE14.out.ins.below ArAt.stays h)) (Lib.hid (HLI.out ▸ hF.out.2.1)))
  have CA2 := Lib.hid (show ∀ W, Below w.heap.size w W → Calls Tryz.prog 76 #[netV A1 n1 c1 A2 n2 c2 (some ⟨b, off, none⟩) n3 c3 N.from_ N.to_, .slice Ao no co, .int .i64 (nv : Int)] W fun e w' => e = .returned (.int .i64 a2) ∧ Below W.heap.size W w' by
    rw [ha2]; exact fun W h => rf_arcs q.outs Ao no co (nv : Int) W (Lib.hid (hN.out.below h)) (Lib.hid (HE14.out.outs.below ArAt.stays h)) (Lib.hid (HLO.out ▸ hF.out.2.2)))
  have CP := Lib.hid (show ∀ (z : Int) W, Calls Tryz.prog 36 #[netV A1 n1 c1 A2 n2 c2 (some ⟨b, off, none⟩) n3 c3 N.from_ N.to_, .int .i64 z] W fun e w' => e = .returned (.bool (amongB n2 z)) ∧ Below W.heap.size W w' from fun z W => rf_isPlace (A1 := A1) (n1 := n1) (c1 := c1) (A2 := A2) (n2 := n2) (c2 := c2) (A3 := some ⟨b, off, none⟩) (n3 := n3) (c3 := c3) N.from_ N.to_ z W)
  have CK := Lib.hid (show ∀ W, Calls Tryz.prog 77 #[q.val Av nv cv Ag mg cg Ai ni ci Ao no co Ac nc cc] W fun e w' => e = .returned (.bool f10) ∧ Below W.heap.size W w' by
    have e : f10 = (knownK q.join ni && (knownK q.split no && (decide (0 ≤ q.after) && (decide (q.after ≤ 65536) && manyZ q.m0 q.m1 q.m2)))) := by rw [hf10]; unfold kindsB; rw [HLI.out, HLO.out]; rfl
    rw [e]
    exact fun W => rf_kinds_in _ _ _ _ _ _ _ _ _ _ _ _ _ _ _ _ _ _ _ _ _ _ _ _ W)
  have HCE := Lib.hid (show cE = (eachE (cancelE n2 q.cancel) nc).2 by rw [hcE]; unfold cancelsE; rw [HLC'.out])
  clear hf1 hf2 hf3 hv hbE hf6 ha1 ha2 hcE hf10 h0 HEE cC
  go_enter Tryz.func14, Tryz.ntmps14
  go_upto_region 1 with fail
  rw [HW.out]
  obtain ⟨x0, x1, x2, x3, x4⟩ := NB1.out
  go_wp2_with fail
  refine CC.out.mono ?_
  rintro e w2 ⟨rfl, hb⟩
  have HC2 := Lib.hid hb
  have HB2 := Lib.hid (below_then HB1.out hb)
  clear hb x0 x1 x2 x3 x4 CC
  obtain ⟨x0, x1, x2, x3, x4⟩ := NB1.out.below HC2.out
  obtain ⟨p0, p1, p2, p3, p4, p5, p6, p7, p8, p9, p10, p11, p12, p13, _, _, _, _, _, _, _, _, _, _, _, _⟩ := hE.below HB2.out
  have HTB := Lib.hid (TBox.new w2 Av nv cv Ag mg cg Ai ni ci Ao no co Ac nc cc q 53)
  have HB3 := Lib.hid (below_then HB2.out (alr w2 (.cells #[.string q.name, .slice Av nv cv, .int .i64 q.guard.kind, .int .i64 q.guard.num, .slice Ag mg cg, .int .i64 q.join, .int .i64 q.split, .slice Ai ni ci, .slice Ao no co, .slice Ac nc cc, .int .i64 q.after, .int .i64 q.m0, .int .i64 q.m1, .int .i64 q.m2] 53)))
  have HC3 := Lib.hid (below_then HC2.out (alr w2 (.cells #[.string q.name, .slice Av nv cv, .int .i64 q.guard.kind, .int .i64 q.guard.num, .slice Ag mg cg, .int .i64 q.join, .int .i64 q.split, .slice Ai ni ci, .slice Ao no co, .slice Ac nc cc, .int .i64 q.after, .int .i64 q.m0, .int .i64 q.m1, .int .i64 q.m2] 53)))
  obtain ⟨w3, hw3⟩ : ∃ y, y = w2.alloc (.cells #[.string q.name, .slice Av nv cv, .int .i64 q.guard.kind, .int .i64 q.guard.num, .slice Ag mg cg, .int .i64 q.join, .int .i64 q.split, .slice Ai ni ci, .slice Ao no co, .slice Ac nc cc, .int .i64 q.after, .int .i64 q.m0, .int .i64 q.m1, .int .i64 q.m2] 53) := ⟨_, rfl⟩
  obtain ⟨gp, hgp⟩ : ∃ y, y = w2.heap.size := ⟨_, rfl⟩
  rw [← hw3] at HB3 HC3
  rw [← hw3, ← hgp] at HTB
  have HW3 := Lib.hid hw3.symm
  have HGP := Lib.hid hgp.symm
  clear hw3 hgp hE
  go_upto_region 6 with fail
  rw [HW3.out, HGP.out]
  clear x0 x1 x2 x3 x4 p0 p1 p2 p3 p4 p5 p6 p7 p8 p9 p10 p11 p12 p13
  have t0 := HTB.out.c0
  go_wp2_with fail
  refine (CF.out w3).mono ?_
  rintro e w4 ⟨rfl, hb⟩
  have HD4 := Lib.hid hb
  clear hb t0
  cases f1 with
  | false =>
    have HZ := Lib.hid (below_then HB3.out HD4.out)
    go_wp2_with fail
    go_ret
    exact ⟨ret1 (by rw [HE0.out]; rfl), HZ.out⟩
  | true =>
  have HE1 := Lib.hid (show E = firstE [(f2, 5), (f3, 2), (decide (v = 0), v), (decide (bE ≤ 1024), 2), (f6 && (decide (0 < ni) && decide (0 < no)), 1), (decide (a1 = 0), a1), (decide (a2 = 0), a2), (decide (cE = 0), cE), (f10, 11)] from HE0.out)
  go_wp2_with fail
  go_loopw [6] (fun v6 wx => ∃ (u : Nat), u ≤ k ∧ v6 = .int .i64 (u : Int) ∧ Hid (Below w3.heap.size w3 wx) ∧ Hid (∀ a, a < u → (N.tks.getD a default).name ≠ q.name)) (fun v6 _ => k - (intOf v6).toNat)
  case atStart => exact ⟨0, by omega, rfl, HD4, Lib.hid fun a ha => absurd ha (Nat.not_lt_zero _)⟩
  case round =>
    obtain ⟨u, hu, rfl, hB, hno⟩ := hrel
    have HBW := Lib.hid (below_then HB3.out hB.out)
    by_cases hut : u < k
    · obtain ⟨_, _, _, _, _, _, _, _, _, _, _, _, _, _, _, hP2⟩ := HAT.out u (by omega)
      have e1 := cell_kept HBW.out hP2.c0
      have y0 := cell_kept hB.out HTB.out.c0
      obtain ⟨x0, x1, x2, x3, x4⟩ := NB1.out.below (below_then HC3.out hB.out)
      obtain ⟨z, hz⟩ : ∃ z, z = (N.tks.getD u default).name := ⟨_, rfl⟩
      rw [← hz] at e1
      have HZ := Lib.hid hz
      have u1 : (u : Int) < (k : Int) := by omega
      have u2 : (u : Int) < (n3 : Int) := by omega
      have u0 : (0 : Int) ≤ (u : Int) := by omega
      clear hz hP2
      rcases hzs : (z.toList == q.name.toList) with _ | _
      · have HR := Lib.hid (show ∀ a, a < u + 1 → (N.tks.getD a default).name ≠ q.name by
          intro a ha
          by_cases e : a = u
          · rw [e, ← HZ.out]
            have := hzs
            rw [same_beq] at this
            simpa using this
          · exact hno.out a (by omega))
        go_wp2
        go_quiet (fail)
        go_wp2
        go_roundw
        case rel => exact ⟨u + 1, by omega, by go_num, Lib.hid (below_drewN' hB.out _), HR⟩
        case measure => simp [intOf]; omega
      · have HR := Lib.hid (show f2 = false by
          rw [← Bool.not_eq_true, HF2.out]
          intro h
          have h2 := hzs
          rw [same_beq] at h2
          exact h u hut (by rw [← HZ.out]; exact of_decide_eq_true h2))
        go_wp2
        go_quiet (fail)
        go_wp2
        go_ret
        exact ⟨ret1 (by rw [HE1.out, HR.out]; rfl), below_drewN' HBW.out _⟩
    · have un : ¬ (u : Int) < (k : Int) := by omega
      have HU := Lib.hid (show u = k by omega)
      have HT2 := Lib.hid (show f2 = true from HF2.out.2 (HU.out ▸ hno.out))
      have HE2 := Lib.hid (show E = firstE [(f3, 2), (decide (v = 0), v), (decide (bE ≤ 1024), 2), (f6 && (decide (0 < ni) && decide (0 < no)), 1), (decide (a1 = 0), a1), (decide (a2 = 0), a2), (decide (cE = 0), cE), (f10, 11)] by rw [HE1.out, HT2.out]; rfl)
      clear hut hu HU hno HE1 HF2 HT2
      have t1 := cell_kept hB.out HTB.out.c1
      have t7 := cell_kept hB.out HTB.out.c7
      have t8 := cell_kept hB.out HTB.out.c8
      have t9 := cell_kept hB.out HTB.out.c9
      have HBAD := Lib.hid (show ¬ (nv ≤ 16 ∧ ni ≤ 16 ∧ no ≤ 16 ∧ nc ≤ 16) → E = 2 by
        intro h
        have hf : f3 = false := by
          rw [HF3.out, ← Bool.not_eq_true, Bool.and_eq_true, decide_eq_true_iff, decide_eq_true_iff]
          omega
        rw [HE2.out, hf]
        rfl)
      by_cases s1 : (16 : Int) < (nv : Int)
      ·
        have HR := Lib.hid (HBAD.out (by omega))
        go_wp2_with fail
        go_ret
        exact ⟨ret1 HR.out.symm, HBW.out⟩
      by_cases s2 : (16 : Int) < (ni : Int)
      ·
        have HR := Lib.hid (HBAD.out (by omega))
        go_wp2_with fail
        go_ret
        exact ⟨ret1 HR.out.symm, HBW.out⟩
      by_cases s3 : (16 : Int) < (no : Int)
      ·
        have HR := Lib.hid (HBAD.out (by omega))
        go_wp2_with fail
        go_ret
        exact ⟨ret1 HR.out.symm, HBW.out⟩
      by_cases s4 : (16 : Int) < (nc : Int)
      ·
        have HR := Lib.hid (HBAD.out (by omega))
        go_wp2_with fail
        go_ret
        exact ⟨ret1 HR.out.symm, HBW.out⟩
      have HE3 := Lib.hid (show E = firstE [(decide (v = 0), v), (decide (bE ≤ 1024), 2), (f6 && (decide (0 < ni) && decide (0 < no)), 1), (decide (a1 = 0), a1), (decide (a2 = 0), a2), (decide (cE = 0), cE), (f10, 11)] by
        have hf : f3 = true := by
          rw [HF3.out, Bool.and_eq_true, decide_eq_true_iff, decide_eq_true_iff]
          omega
        rw [HE2.out, hf]
        rfl)
      clear HBAD HF3 HE2
      obtain ⟨x0, x1, x2, x3, x4⟩ := NB1.out.below (below_then HC3.out hB.out)
      go_wp2_with fail
      refine (CV.out _ HBW.out).mono ?_
      rintro e w5 ⟨rfl, hb⟩
      have HD5 := Lib.hid (below_then hB.out hb)
      have HA5 := Lib.hid (below_then HBW.out hb)
      clear hb x0 x1 x2 x3 x4 t1 t7 t8 t9 s1 s2 s3 s4
      by_cases hv : v = 0
      case neg =>
        have z0 : (v == 0) = false := by simpa using hv
        have z1 : (v != 0) = true := by simpa using hv
        have HR := Lib.hid (show E = v by rw [HE3.out, decide_eq_false hv]; rfl)
        clear hv
        go_wp2_with fail
        go_ret
        exact ⟨ret1 HR.out.symm, HA5.out⟩
      case pos =>
      subst hv
      have HE4 := Lib.hid (show E = firstE [(decide (bE ≤ 1024), 2), (f6 && (decide (0 < ni) && decide (0 < no)), 1), (decide (a1 = 0), a1), (decide (a2 = 0), a2), (decide (cE = 0), cE), (f10, 11)] from HE3.out)
      obtain ⟨x0, x1, x2, x3, x4⟩ := NB1.out.below (below_then HC3.out HD5.out)
      go_wp2_with fail
      refine (CB.out _ HA5.out).mono ?_
      rintro e w6 ⟨rfl, hb⟩
      have HD6 := Lib.hid (below_then HD5.out hb)
      have HA6 := Lib.hid (below_then HA5.out hb)
      clear hb x0 x1 x2 x3 x4
      by_cases hbe : 1024 < bE
      · have HR := Lib.hid (show E = 2 by rw [HE4.out, decide_eq_false (show ¬ bE ≤ 1024 by omega)]; rfl)
        go_wp2_with fail
        go_ret
        exact ⟨ret1 HR.out.symm, HA6.out⟩
      have HE5 := Lib.hid (show E = firstE [(f6 && (decide (0 < ni) && decide (0 < no)), 1), (decide (a1 = 0), a1), (decide (a2 = 0), a2), (decide (cE = 0), cE), (f10, 11)] by rw [HE4.out, decide_eq_true (show bE ≤ 1024 by omega)]; rfl)
      have t1 := cell_kept HD6.out HTB.out.c1
      have t2 := cell_kept HD6.out HTB.out.c2
      have t3 := cell_kept HD6.out HTB.out.c3
      have t4 := cell_kept HD6.out HTB.out.c4
      go_wp2_with fail
      refine (CR.out _ HA6.out).mono ?_
      rintro e w7 ⟨rfl, hb⟩
      have HD7 := Lib.hid (below_then HD6.out hb)
      have HA7 := Lib.hid (below_then HA6.out hb)
      clear hb t1 t2 t3 t4 hbe
      cases f6 with
      | false =>
        have HR := Lib.hid (show E = 1 from HE5.out)
        go_wp2_with fail
        go_ret
        exact ⟨ret1 HR.out.symm, HA7.out⟩
      | true =>
      have t7 := cell_kept HD7.out HTB.out.c7
      have t8 := cell_kept HD7.out HTB.out.c8
      by_cases hi0 : ni = 0
      · have HR := Lib.hid (show E = 1 by rw [HE5.out, decide_eq_false (show ¬ 0 < ni by omega)]; rfl)
        have z0 : ((ni : Int) == 0) = true := by simpa using hi0
        clear hi0
        go_wp2_with fail
        go_ret
        exact ⟨ret1 HR.out.symm, HA7.out⟩
      have z0 : ((ni : Int) == 0) = false := by simpa using hi0
      by_cases ho0 : no = 0
      · have HR := Lib.hid (show E = 1 by rw [HE5.out, decide_eq_false (show ¬ 0 < no by omega), Bool.and_false, Bool.and_false]; rfl)
        have z1 : ((no : Int) == 0) = true := by simpa using ho0
        clear hi0 ho0
        go_wp2_with fail
        go_ret
        exact ⟨ret1 HR.out.symm, HA7.out⟩
      have z1 : ((no : Int) == 0) = false := by simpa using ho0
      have HE6 := Lib.hid (show E = firstE [(decide (a1 = 0), a1), (decide (a2 = 0), a2), (decide (cE = 0), cE), (f10, 11)] by rw [HE5.out, decide_eq_true (show 0 < ni by omega), decide_eq_true (show 0 < no by omega)]; rfl)
      obtain ⟨x0, x1, x2, x3, x4⟩ := NB1.out.below (below_then HC3.out HD7.out)
      have t1 := cell_kept HD7.out HTB.out.c1
      clear hi0 ho0
      go_wp2_with fail
      refine (CA1.out _ HA7.out).mono ?_
      rintro e w8 ⟨rfl, hb⟩
      have HD8 := Lib.hid (below_then HD7.out hb)
      have HA8 := Lib.hid (below_then HA7.out hb)
      clear hb t1 t7 t8 x0 x1 x2 x3 x4 z0 z1
      by_cases ha1 : a1 = 0
      case neg =>
        have z0 : (a1 == 0) = false := by simpa using ha1
        have z1 : (a1 != 0) = true := by simpa using ha1
        have HR := Lib.hid (show E = a1 by rw [HE6.out, decide_eq_false ha1]; rfl)
        clear ha1
        go_wp2_with fail
        go_ret
        exact ⟨ret1 HR.out.symm, HA8.out⟩
      case pos =>
      subst ha1
      have HE7 := Lib.hid (show E = firstE [(decide (a2 = 0), a2), (decide (cE = 0), cE), (f10, 11)] from HE6.out)
      obtain ⟨x0, x1, x2, x3, x4⟩ := NB1.out.below (below_then HC3.out HD8.out)
      have t1 := cell_kept HD8.out HTB.out.c1
      have t8 := cell_kept HD8.out HTB.out.c8
      go_wp2_with fail
      refine (CA2.out _ HA8.out).mono ?_
      rintro e w9 ⟨rfl, hb⟩
      have HD9 := Lib.hid (below_then HD8.out hb)
      have HA9 := Lib.hid (below_then HA8.out hb)
      clear hb t1 t8 x0 x1 x2 x3 x4
      by_cases ha2 : a2 = 0
      case neg =>
        have z0 : (a2 == 0) = false := by simpa using ha2
        have z1 : (a2 != 0) = true := by simpa using ha2
        have HR := Lib.hid (show E = a2 by rw [HE7.out, decide_eq_false ha2]; rfl)
        clear ha2
        go_wp2_with fail
        go_ret
        exact ⟨ret1 HR.out.symm, HA9.out⟩
      case pos =>
      subst ha2
      have HE8 := Lib.hid (show E = firstE [(decide (cE = 0), cE), (f10, 11)] from HE7.out)
      have HCB := Lib.hid (show ∀ (j : Nat) (z : Int), j < nc → (∀ i, i < j → cancelE n2 q.cancel i = 0) → cancelE n2 q.cancel j = z → z ≠ 0 → E = z by
        intro j z hj hn h1 h2
        have h3 : cE = z := by rw [HCE.out, each_from hj hn (by rw [h1]; exact h2), h1]
        rw [HE8.out, h3, decide_eq_false h2]
        rfl)
      have HCG := Lib.hid (show (∀ i, i < nc → cancelE n2 q.cancel i = 0) → E = firstE [(f10, 11)] by
        intro h
        have h3 : cE = 0 := by rw [HCE.out]; exact each_none h
        rw [HE8.out, h3]
        rfl)
      have hcn := HE14.out.cancel.bound
      clear HE3 HE4 HE5 HE6 HE7 HE8 HCE
      go_wp2_with fail
      go_loopw [9] (fun v9 wx => ∃ (j : Nat), j ≤ nc ∧ v9 = .int .i64 (j : Int) ∧ Hid (Below w3.heap.size w3 wx) ∧ Hid (∀ i, i < j → cancelE n2 q.cancel i = 0)) (fun v9 _ => nc - (intOf v9).toNat)
      case atStart => exact ⟨0, by omega, rfl, HD9, Lib.hid fun a ha => absurd ha (Nat.not_lt_zero _)⟩
      case round =>
        obtain ⟨j, hj, rfl, hB9, hno9⟩ := hrel
        have HBX := Lib.hid (below_then HB3.out hB9.out)
        have t9 := cell_kept hB9.out HTB.out.c9
        by_cases hjt : j < nc
        · obtain ⟨bc, oc, rfl, e1⟩ := (HE14.out.cancel.below HBX.out).int_at' hjt
          obtain ⟨x, hx⟩ : ∃ x, x = q.cancel.getD j 0 := ⟨_, rfl⟩
          rw [← hx] at e1
          have HX := Lib.hid hx
          have HEJ := Lib.hid (show cancelE n2 q.cancel j = firstE [(amongB n2 x, 3), (!(q.cancel.take j).contains x, 5)] by unfold cancelE; rw [← hx])
          have HF5 := Lib.hid (show (!(q.cancel.take j).contains x) = true ↔ ∀ u, u < j → q.cancel.getD u 0 ≠ x from taken_any (by rw [HLC'.out]; omega))
          obtain ⟨x0, x1, x2, x3, x4⟩ := NB1.out.below (below_then HC3.out hB9.out)
          have HSK := Lib.hid (show ∀ W, Below wr.heap.size wr W → W.cell? ⟨gp, 9, none⟩ = some (.slice (some ⟨bc, oc, none⟩) nc cc) ∧ W.cell? ⟨bc, oc + j, none⟩ = some (.int .i64 x) ∧ W.cell? ⟨w.heap.size, 0, none⟩ = some (.slice A1 n1 c1) ∧ W.cell? ⟨w.heap.size, 1, none⟩ = some (.slice A2 n2 c2) ∧ W.cell? ⟨w.heap.size, 2, none⟩ = some (.slice (some ⟨b, off, none⟩) n3 c3) ∧ W.cell? ⟨w.heap.size, 3, none⟩ = some (.int .i64 N.from_) ∧ W.cell? ⟨w.heap.size, 4, none⟩ = some (.int .i64 N.to_) from fun W h => ⟨cell_kept h t9, cell_kept h e1, cell_kept h x0, cell_kept h x1, cell_kept h x2, cell_kept h x3, cell_kept h x4⟩)
          have BD0 : Hid (Below wr.heap.size wr wr.drew) := Lib.hid (below_drewN' (Below.refl _ _) 1)
          have cP := CP.out x
          obtain ⟨g1, hg1⟩ : ∃ y, y = amongB n2 x := ⟨_, rfl⟩
          rw [← hg1] at cP HEJ
          have CPX := Lib.hid cP
          have j1 : (j : Int) < (nc : Int) := by omega
          have j0 : (0 : Int) ≤ (j : Int) := by omega
          clear hx hg1 cP x0 x1 x2 x3 x4
          cases g1 with
          | false =>
            have HR := Lib.hid (HCB.out j 3 hjt hno9.out (by rw [HEJ.out]; rfl) (by decide))
            go_wp2
            go_region_held3 (fun W => W.cell? ⟨gp, 9, none⟩ = some (.slice (some ⟨bc, oc, none⟩) nc cc) ∧ W.cell? ⟨bc, oc + j, none⟩ = some (.int .i64 x) ∧ W.cell? ⟨w.heap.size, 0, none⟩ = some (.slice A1 n1 c1) ∧ W.cell? ⟨w.heap.size, 1, none⟩ = some (.slice A2 n2 c2) ∧ W.cell? ⟨w.heap.size, 2, none⟩ = some (.slice (some ⟨b, off, none⟩) n3 c3) ∧ W.cell? ⟨w.heap.size, 3, none⟩ = some (.int .i64 N.from_) ∧ W.cell? ⟨w.heap.size, 4, none⟩ = some (.int .i64 N.to_))
              (first | exact HSK.out _ BD1.out | exact HSK.out _ BD0.out)
              (first | (go_at_call 36; refine (CPX.out _).mono ?_; rintro e z1 ⟨rfl, hb⟩; have BD1 := Lib.hid (below_then BD0.out hb); clear hb))
            have HZ := Lib.hid (below_then HBX.out BD1.out)
            go_wp2
            go_ret
            exact ⟨ret1 HR.out.symm, HZ.out⟩
          | true =>
            go_wp2
            go_region_held3 (fun W => W.cell? ⟨gp, 9, none⟩ = some (.slice (some ⟨bc, oc, none⟩) nc cc) ∧ W.cell? ⟨bc, oc + j, none⟩ = some (.int .i64 x) ∧ W.cell? ⟨w.heap.size, 0, none⟩ = some (.slice A1 n1 c1) ∧ W.cell? ⟨w.heap.size, 1, none⟩ = some (.slice A2 n2 c2) ∧ W.cell? ⟨w.heap.size, 2, none⟩ = some (.slice (some ⟨b, off, none⟩) n3 c3) ∧ W.cell? ⟨w.heap.size, 3, none⟩ = some (.int .i64 N.from_) ∧ W.cell? ⟨w.heap.size, 4, none⟩ = some (.int .i64 N.to_))
              (first | exact HSK.out _ BD1.out | exact HSK.out _ BD0.out)
              (first | (go_at_call 36; refine (CPX.out _).mono ?_; rintro e z1 ⟨rfl, hb⟩; have BD1 := Lib.hid (below_then BD0.out hb); clear hb))
            have HZ9 := Lib.hid (below_then hB9.out BD1.out)
            clear BD1 BD0 HSK e1 t9
            go_wp2
            go_loopw [10] (fun v10 wx => ∃ (i : Nat), i ≤ j ∧ v10 = .int .i64 (i : Int) ∧ Hid (Below w3.heap.size w3 wx) ∧ Hid (∀ u, u < i → q.cancel.getD u 0 ≠ x)) (fun v10 _ => j - (intOf v10).toNat)
            case atStart => exact ⟨0, by omega, rfl, HZ9, Lib.hid fun a ha => absurd ha (Nat.not_lt_zero _)⟩
            case round =>
              obtain ⟨i, hi, rfl, hB10, hno10⟩ := hrel
              have HBY := Lib.hid (below_then HB3.out hB10.out)
              have t9 := cell_kept hB10.out HTB.out.c9
              by_cases hit : i < j
              · have hsl := HE14.out.cancel.below HBY.out
                obtain ⟨bc1, oc1, q1, e1⟩ := hsl.int_at' hjt
                obtain ⟨bc2, oc2, q2, e2⟩ := hsl.int_at' (show i < nc by omega)
                injection q1 with q1; injection q1 with qa qb
                subst qa; subst qb
                injection q2 with q2; injection q2 with qa qb
                subst qa; subst qb
                rw [← HX.out] at e1
                obtain ⟨y, hy⟩ : ∃ y, y = q.cancel.getD i 0 := ⟨_, rfl⟩
                rw [← hy] at e2
                have HY := Lib.hid hy
                have i1 : (i : Int) < (j : Int) := by omega
                have i2 : (i : Int) < (nc : Int) := by omega
                have i0 : (0 : Int) ≤ (i : Int) := by omega
                clear hy hsl
                by_cases hxy : y = x
                · have z0 : (y == x) = true := by simpa using hxy
                  have HR := Lib.hid (show E = 5 from HCB.out j 5 hjt hno9.out (by
                    have hf : (!(q.cancel.take j).contains x) = false := by
                      rw [← Bool.not_eq_true, HF5.out]
                      intro h
                      exact h i hit (by rw [← HY.out]; exact hxy)
                    rw [HEJ.out, hf]; rfl) (by decide))
                  clear hxy
                  go_wp2
                  go_quiet (fail)
                  go_wp2
                  go_ret
                  exact ⟨ret1 HR.out.symm, below_drewN' HBY.out _⟩
                · have z0 : (y == x) = false := by simpa using hxy
                  have HR := Lib.hid (show ∀ u, u < i + 1 → q.cancel.getD u 0 ≠ x by
                    intro a ha
                    by_cases e : a = i
                    · rw [e, ← HY.out]; exact hxy
                    · exact hno10.out a (by omega))
                  clear hxy
                  go_wp2
                  go_quiet (fail)
                  go_wp2
                  go_roundw
                  case rel => exact ⟨i + 1, by omega, by go_num, Lib.hid (below_drewN' hB10.out _), HR⟩
                  case measure => simp [intOf]; omega
              · have inn : ¬ (i : Int) < (j : Int) := by omega
                have HI := Lib.hid (show i = j by omega)
                have HNX := Lib.hid (show ∀ a, a < j + 1 → cancelE n2 q.cancel a = 0 by
                  intro a ha
                  by_cases e : a = j
                  · rw [e, HEJ.out, HF5.out.2 (HI.out ▸ hno10.out)]; rfl
                  · exact hno9.out a (by omega))
                clear HI hit hi
                go_wp2
                go_roundw
                case rel => exact ⟨j + 1, by omega, by go_num, hB10, HNX⟩
                case measure => simp [intOf]; omega
        · have jn : ¬ (j : Int) < (nc : Int) := by omega
          have HJ := Lib.hid (show j = nc by omega)
          have HE9 := Lib.hid (HCG.out (HJ.out ▸ hno9.out))
          clear HJ hjt hj hno9
          obtain ⟨t0, t1, t2, t3, t4, t5, t6, t7, t8, t9', t10, t11, t12, t13⟩ := HTB.out.below hB9.out
          go_wp2_with fail
          refine (CK.out _).mono ?_
          rintro e w10 ⟨rfl, hb⟩
          have HZ := Lib.hid (below_then HBX.out hb)
          clear hb t0 t1 t2 t3 t4 t5 t6 t7 t8 t9' t10 t11 t12 t13
          cases f10 with
          | false =>
            have HR := Lib.hid (show E = 11 from HE9.out)
            go_wp2_with fail
            go_ret
            exact ⟨ret1 HR.out.symm, HZ.out⟩
          | true =>
            have HR := Lib.hid (show E = 0 from HE9.out)
            go_wp2_with fail
            go_ret
            exact ⟨ret1 HR.out.symm, HZ.out⟩
end
end Go.Proofs.YtaeeblceedklnaaGreatDoor
