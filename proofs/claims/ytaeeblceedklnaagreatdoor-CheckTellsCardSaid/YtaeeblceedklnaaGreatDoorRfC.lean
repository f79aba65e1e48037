/- The document's answer: bag Right, isPlace, isColour, Place. Printed by gen_rfC.py. -/
import Derived.Test.YtaeeblceedklnaaGreatDoorRfB
import Derived.Test.YtaeeblceedklnaaGreatDoorCkS
import Derived.Deep.RegionHeld3
namespace Go.Proofs.YtaeeblceedklnaaGreatDoor
open Go.RowKit
theorem riseB_step {l : Row} {k : Nat} {z : Int} (hk : k < l.length) : riseB z (l.drop k) = if (l.getD k (0, 0)).1 ≤ z ∨ (l.getD k (0, 0)).2 < 1 ∨ 1048576 < (l.getD k (0, 0)).2 then false else riseB (l.getD k (0, 0)).1 (l.drop (k + 1)) := by
  rw [List.drop_eq_getElem_cons hk, List.getD, List.getElem?_eq_getElem hk]
  rfl
set_option maxHeartbeats 2000000 in
theorem ref_Right (A : Option Addr) (n c : Nat) (l : Row) (w : World) (hA : Hid (Sl w (.slice A n c) n 2 (pairCells l))) :
    Calls Tryz.prog 53 #[.slice A n c] w fun e w' => e = .returned (.bool (rightB l)) ∧ ∃ q, w' = w.drewN q := by
  have hn := hA.out.bound
  have hl := Lib.hid (show l.length = n by have := hA.out.len; rw [pairCells_len] at this; omega)
  obtain ⟨R, hR⟩ : ∃ R, R = rightB l := ⟨_, rfl⟩
  rw [← hR]
  have HR := Lib.hid hR
  clear hR
  go_enter Tryz.func53, Tryz.ntmps53
  go_wp2
  go_loopw [3] (fun v wr => ∃ (k q : Nat) (z : Int), k ≤ n ∧ v = .int .i64 (k : Int) ∧ wr = w.drewN q ∧ Hid (riseB z (l.drop k) = R) ∧ -1 ≤ z ∧ Hid (k = 0 → z = -1) ∧ Hid (0 < k → z = (l.getD (k - 1) (0, 0)).1 ∧ 0 ≤ z)) (fun v _ => n - (RowKit.intOf v).toNat)
  case atStart => exact ⟨0, 0, -1, by omega, rfl, rfl, by show riseB (-1) l = R; exact HR.out.symm, by omega, fun _ => rfl, fun h => absurd h (by omega)⟩
  case round =>
    obtain ⟨k, q, z, hk, rfl, rfl, hr, hz, hz0, hz1⟩ := hrel
    by_cases hlt : k < n
    · have hst := Lib.hid (riseB_step (l := l) (k := k) (z := z) (by rw [hl.out]; exact hlt))
      have hpr : 0 < k → ∃ b1 o1, A = some ⟨b1, o1, none⟩ ∧ w.cell? ⟨b1, o1 + (k - 1) * 2, none⟩ = some (.int .i64 z) := by
        intro h0
        obtain ⟨b1, o1, e1, c1, _⟩ := hA.out.pair_at (k := k - 1) (by omega)
        rw [← (hz1.out h0).1] at c1
        exact ⟨b1, o1, e1, c1⟩
      have HPR := Lib.hid hpr
      obtain ⟨b1, o1, rfl, c1, c2⟩ := hA.out.pair_at hlt
      obtain ⟨x, hx⟩ : ∃ x, x = l.getD k (0, 0) := ⟨_, rfl⟩
      rw [← hx] at c1 c2 hst
      have HX := Lib.hid hx
      clear hx hpr
      obtain ⟨x1, x2⟩ := x
      simp only at c1 c2 hst
      have hlt2 : (k : Int) < (n : Int) := by omega
      have hk0 : (0 : Int) ≤ (k : Int) := by omega
      have bad : x1 ≤ z ∨ x2 < 1 ∨ 1048576 < x2 → Hid (R = false) := fun h => by
        show R = false
        rw [← hr.out, hst.out, if_pos h]
      have BAD := Lib.hid bad
      clear bad
      by_cases h1 : x1 < 0
      · have hf := BAD.out (.inl (by omega))
        have d1 : decide (x1 < 0) = true := by simpa using h1
        go_wp2
        go_quiet (fail)
        go_wp2
        go_ret
        exact ⟨ret_b hf.out.symm, _, drew2 _ _ _⟩
      have d1 : decide (x1 < 0) = false := by simpa using h1
      by_cases h2 : x2 < 1
      · have hf := BAD.out (.inr (.inl h2))
        have d2 : decide (x2 < 1) = true := by simpa using h2
        go_wp2
        go_quiet (fail)
        go_wp2
        go_ret
        exact ⟨ret_b hf.out.symm, _, drew2 _ _ _⟩
      have d2 : decide (x2 < 1) = false := by simpa using h2
      by_cases h3 : 1048576 < x2
      · have hf := BAD.out (.inr (.inr h3))
        have d3 : decide (1048576 < x2) = true := by simpa using h3
        go_wp2
        go_quiet (fail)
        go_wp2
        go_ret
        exact ⟨ret_b hf.out.symm, _, drew2 _ _ _⟩
      have d3 : decide (1048576 < x2) = false := by simpa using h3
      by_cases h0 : k = 0
      · have hz2 := hz0.out h0
        have hg : Hid (riseB x1 (l.drop (k + 1)) = R) := by
          show riseB x1 (l.drop (k + 1)) = R
          rw [← hr.out, hst.out, if_neg (by omega)]
        have d4 : decide (0 < k) = false := by simp; omega
        have H0 := Lib.hid h0
        clear h0 hz2
        go_wp2
        go_quiet (fail)
        go_wp2
        go_roundw
        case rel => exact ⟨k + 1, _, x1, by omega, by go_num, rfl, hg.out, by omega, fun h => absurd h (by omega), fun _ => ⟨by rw [Nat.add_sub_cancel, ← HX.out], by omega⟩⟩
        case measure => simp [RowKit.intOf]; omega
      · obtain ⟨b1', o1', e1, c3⟩ := HPR.out (by omega)
        injection e1 with e1; injection e1 with e1 e2
        subst e1; subst e2
        have d4 : decide (0 < k) = true := by simp; omega
        have hkk : IntKind.i64.wrap ((k : Int) - 1) = ((k - 1 : Nat) : Int) := by rw [IntKind.wrap_i64]; omega
        have hk9 : ((k - 1 : Nat) : Int) < (n : Int) := by omega
        have hk8 : (0 : Int) ≤ ((k - 1 : Nat) : Int) := by omega
        by_cases h4 : x1 ≤ z
        · have hf := BAD.out (.inl h4)
          have d5 : decide (x1 ≤ z) = true := by simpa using h4
          go_wp2
          go_quiet (fail)
          go_wp2
          go_ret
          exact ⟨ret_b hf.out.symm, _, drew2 _ _ _⟩
        · have hg : Hid (riseB x1 (l.drop (k + 1)) = R) := by
            show riseB x1 (l.drop (k + 1)) = R
            rw [← hr.out, hst.out, if_neg (by omega)]
          have d5 : decide (x1 ≤ z) = false := by simpa using h4
          go_wp2
          go_quiet (fail)
          go_wp2
          go_roundw
          case rel => exact ⟨k + 1, _, x1, by omega, by go_num, rfl, hg.out, by omega, fun h => absurd h (by omega), fun _ => ⟨by rw [Nat.add_sub_cancel, ← HX.out], by omega⟩⟩
          case measure => simp [RowKit.intOf]; omega
    · go_wp2
      go_ret
      have e1 : l.drop k = [] := List.drop_eq_nil_of_le (by rw [hl.out]; omega)
      have := hr.out
      rw [e1] at this
      exact ⟨ret_b this, _, rfl⟩
theorem take_any {α : Type} [Inhabited α] {l : List α} {f : α → ByteArray} {y : ByteArray} {j : Nat} (hj : j ≤ l.length) : (!(l.take j).any fun x => decide (f x = y)) = true ↔ ∀ u, u < j → f (l.getD u default) ≠ y := by
  rw [Bool.not_eq_true', ← Bool.not_eq_true, List.any_eq_true]
  constructor
  · intro h u hu e
    refine h ⟨l.getD u default, ?_, by simpa using e⟩
    have e2 : l.getD u default = l[u]'(by omega) := by simp [List.getD, show u < l.length by omega]
    rw [e2]
    exact List.mem_iff_getElem.2 ⟨u, by simp; omega, by simp⟩
  · rintro h ⟨x, hx, hy⟩
    obtain ⟨u, hu, rfl⟩ := List.mem_iff_getElem.1 hx
    have hu2 : u < j ∧ u < l.length := by simp at hu; omega
    refine h u hu2.1 ?_
    have e2 : l.getD u default = l[u] := by simp [List.getD, hu2.2]
    rw [e2]
    simpa using hy
section
variable {A1 A2 A3 : Option Addr} {n1 c1 n2 c2 n3 c3 : Nat} {N : Nt}
set_option maxRecDepth 100000 in
set_option maxHeartbeats 1000000 in
theorem rf_isPlace (a b k : Int) (w : World) :
    Calls Tryz.prog 36 #[netV A1 n1 c1 A2 n2 c2 A3 n3 c3 a b, .int .i64 k] w fun e w' => e = .returned (.bool (amongB n2 k)) ∧ Below w.heap.size w w' := by
  have HB := Lib.hid (alr w (.cells #[.slice A1 n1 c1, .slice A2 n2 c2, .slice A3 n3 c3, .int .i64 a, .int .i64 b] 26))
  by_cases h1 : 0 ≤ k
  · by_cases h2 : k < (n2 : Int)
    all_goals
      have HH := Lib.hid h2
      go_enter Tryz.func36, Tryz.ntmps36
      go_wp2
      go_ret
      exact ⟨ret1b (by unfold amongB; have := HH.out; first | (simp [h1, this]; done) | (simp [this]; done) | (simp; omega)), HB.out⟩
  · go_enter Tryz.func36, Tryz.ntmps36
    go_wp2
    go_ret
    exact ⟨ret1b (by unfold amongB; first | (simp; done) | (simp; omega)), HB.out⟩
set_option maxRecDepth 100000 in
set_option maxHeartbeats 1000000 in
theorem rf_isColour (a b k : Int) (w : World) :
    Calls Tryz.prog 52 #[netV A1 n1 c1 A2 n2 c2 A3 n3 c3 a b, .int .i64 k] w fun e w' => e = .returned (.bool (amongB n1 k)) ∧ Below w.heap.size w w' := by
  have HB := Lib.hid (alr w (.cells #[.slice A1 n1 c1, .slice A2 n2 c2, .slice A3 n3 c3, .int .i64 a, .int .i64 b] 26))
  by_cases h1 : 0 ≤ k
  · by_cases h2 : k < (n1 : Int)
    all_goals
      have HH := Lib.hid h2
      go_enter Tryz.func52, Tryz.ntmps52
      go_wp2
      go_ret
      exact ⟨ret1b (by unfold amongB; have := HH.out; first | (simp [h1, this]; done) | (simp [this]; done) | (simp; omega)), HB.out⟩
  · go_enter Tryz.func52, Tryz.ntmps52
    go_wp2
    go_ret
    exact ⟨ret1b (by unfold amongB; first | (simp; done) | (simp; omega)), HB.out⟩
set_option maxRecDepth 100000 in
set_option maxHeartbeats 8000000 in
theorem rf_Place (k : Int) (w : World) (hN : Hid (NetAt w A1 n1 c1 A2 n2 c2 A3 n3 c3 N)) : Calls Tryz.prog 12 #[netV A1 n1 c1 A2 n2 c2 A3 n3 c3 N.from_ N.to_, .int .i64 k] w fun e w' => e = .returned (.int .i64 (placeE N k)) ∧ Below w.heap.size w w' := by
  have hn1 := Nat.le_trans hN.out.cols.1 hN.out.cols.2.1
  have hn2 := Nat.le_trans hN.out.pls.1 hN.out.pls.2.1
  have HLC := Lib.hid hN.out.cols.2.2.1
  have HLP := Lib.hid hN.out.pls.2.2.1
  obtain ⟨w1, hw1⟩ : ∃ x, x = w.alloc (.cells #[.slice A1 n1 c1, .slice A2 n2 c2, .slice A3 n3 c3, .int .i64 N.from_, .int .i64 N.to_] 26) := ⟨_, rfl⟩
  have HB1 := Lib.hid (show Below w.heap.size w w1 by rw [hw1]; exact alr w _)
  have NB1 := Lib.hid (show NBox w1 w.heap.size A1 n1 c1 A2 n2 c2 A3 n3 c3 N.from_ N.to_ by rw [hw1]; exact NBox.new w A1 n1 c1 A2 n2 c2 A3 n3 c3 N.from_ N.to_ 26)
  have HW := Lib.hid hw1.symm
  clear hw1
  have HE := Lib.hid (show placeE N k = if amongB n2 k then firstE [(freeB (N.pls.getD k.toNat default).name, 1), (!(N.pls.take k.toNat).any fun x => decide (x.name = (N.pls.getD k.toNat default).name), 5), (amongB n1 (N.pls.getD k.toNat default).colour, 3), (rightB (N.pls.getD k.toNat default).first, 1),
      (!(N.pls.getD k.toNat default).first.any fun r => decide (sizeAt N.cols (N.pls.getD k.toNat default).colour ≤ r.1), 8)] else 3 by unfold placeE; rw [HLP.out, HLC.out])
  have CP := Lib.hid (fun W => rf_isPlace (A1 := A1) (n1 := n1) (c1 := c1) (A2 := A2) (n2 := n2) (c2 := c2) (A3 := A3) (n3 := n3) (c3 := c3) N.from_ N.to_ k W)
  obtain ⟨am, ham⟩ : ∃ y, y = amongB n2 k := ⟨_, rfl⟩
  rw [← ham] at CP HE
  have HAM := Lib.hid ham
  clear ham
  go_enter Tryz.func12, Tryz.ntmps12
  go_upto_region 1 with fail
  rw [HW.out]
  obtain ⟨x0, x1, x2, x3, x4⟩ := NB1.out
  go_wp2_with fail
  refine (CP.out w1).mono ?_
  rintro e w2 ⟨rfl, hb⟩
  have HC2 := Lib.hid hb
  have HB2 := Lib.hid (below_then HB1.out hb)
  clear hb x0 x1 x2 x3 x4 CP
  cases am with
  | false =>
    go_wp2_with fail
    go_ret
    exact ⟨ret1 (by rw [HE.out]; rfl), HB2.out⟩
  | true =>
  obtain ⟨hk0, hk1⟩ := among_iff.1 HAM.out.symm
  obtain ⟨j, rfl⟩ : ∃ j : Nat, k = j := ⟨k.toNat, by omega⟩
  have hj : j < n2 := by omega
  have HE2 := Lib.hid (HE.out.trans (if_pos rfl))
  rw [Int.toNat_natCast] at HE2
  obtain ⟨b2, off2, rfl, hat⟩ := hN.out.pls.2.2.2 (by omega)
  have HAT := Lib.hid hat
  obtain ⟨Af, nf, cf, hP⟩ := hat j hj
  obtain ⟨q, hq⟩ : ∃ q, q = N.pls.getD j default := ⟨_, rfl⟩
  rw [← hq] at hP HE2
  obtain ⟨x0, x1, x2, x3, x4⟩ := NB1.out.below HC2.out
  obtain ⟨p0, p1, p2, ps, _, _⟩ := hP.below HB2.out
  have PS := Lib.hid ps
  have PB := Lib.hid (And.intro (cell_new w2 #[.string q.name, .int .i64 q.colour, .slice Af nf cf] 45 0 _ rfl) (And.intro (cell_new w2 #[.string q.name, .int .i64 q.colour, .slice Af nf cf] 45 1 _ rfl) (cell_new w2 #[.string q.name, .int .i64 q.colour, .slice Af nf cf] 45 2 _ rfl)))
  have HB3 := Lib.hid (below_then HB2.out (alr w2 (.cells #[.string q.name, .int .i64 q.colour, .slice Af nf cf] 45)))
  have HC3 := Lib.hid (below_then HC2.out (alr w2 (.cells #[.string q.name, .int .i64 q.colour, .slice Af nf cf] 45)))
  have PS3 := Lib.hid (ps.below (alr w2 (.cells #[.string q.name, .int .i64 q.colour, .slice Af nf cf] 45)))
  obtain ⟨w3, hw3⟩ : ∃ y, y = w2.alloc (.cells #[.string q.name, .int .i64 q.colour, .slice Af nf cf] 45) := ⟨_, rfl⟩
  obtain ⟨gp, hgp⟩ : ∃ y, y = w2.heap.size := ⟨_, rfl⟩
  rw [← hw3] at HB3 HC3 PS3
  rw [← hw3, ← hgp] at PB
  have HW3 := Lib.hid hw3.symm
  have HGP := Lib.hid hgp.symm
  obtain ⟨f1, hf1⟩ : ∃ y, y = freeB q.name := ⟨_, rfl⟩
  obtain ⟨f2, hf2⟩ : ∃ y, y = !(N.pls.take j).any fun x => decide (x.name = q.name) := ⟨_, rfl⟩
  obtain ⟨f3, hf3⟩ : ∃ y, y = amongB n1 q.colour := ⟨_, rfl⟩
  obtain ⟨f4, hf4⟩ : ∃ y, y = rightB q.first := ⟨_, rfl⟩
  obtain ⟨f5, hf5⟩ : ∃ y, y = !q.first.any fun r => decide (sizeAt N.cols q.colour ≤ r.1) := ⟨_, rfl⟩
  rw [← hf1, ← hf2, ← hf3, ← hf4, ← hf5] at HE2
  have cF := fun W => rf_free q.name W
  rw [← hf1] at cF
  have CF := Lib.hid cF
  have cC := fun W => rf_isColour (A1 := A1) (n1 := n1) (c1 := c1) (A2 := some ⟨b2, off2, none⟩) (n2 := n2) (c2 := c2) (A3 := A3) (n3 := n3) (c3 := c3) N.from_ N.to_ q.colour W
  rw [← hf3] at cC
  have CC := Lib.hid cC
  have cR := fun W (h : Below w3.heap.size w3 W) => ref_Right Af nf cf q.first W (Lib.hid (PS3.out.below h))
  rw [← hf4] at cR
  have CR := Lib.hid cR
  have HF2 := Lib.hid (show f2 = true ↔ ∀ u, u < j → (N.pls.getD u default).name ≠ q.name by rw [hf2]; exact take_any (f := fun x : Pl => x.name) (by rw [HLP.out]; omega))
  have HF5 := Lib.hid hf5
  have k1 : (j : Int) < (n2 : Int) := by omega
  have k0 : (0 : Int) ≤ (j : Int) := by omega
  clear hat hP hq hw3 hgp hf1 hf2 hf3 hf4 hf5 cF cC cR ps HE
  go_upto_region 4 with fail
  rw [HW3.out, HGP.out]
  clear x0 x1 x2 x3 x4 p0 p1 p2
  obtain ⟨y0, y1, y2⟩ := PB.out
  go_wp2_with fail
  refine (CF.out w3).mono ?_
  rintro e w4 ⟨rfl, hb⟩
  have HD4 := Lib.hid hb
  clear hb y0 y1 y2
  cases f1 with
  | false =>
    have HZ := Lib.hid (below_then HB3.out HD4.out)
    go_wp2_with fail
    go_ret
    exact ⟨ret1 (by rw [HE2.out]; rfl), HZ.out⟩
  | true =>
  go_wp2_with fail
  go_loopw [6] (fun v6 wx => ∃ (u : Nat), u ≤ j ∧ v6 = .int .i64 (u : Int) ∧ Hid (Below w3.heap.size w3 wx) ∧ Hid (∀ a, a < u → (N.pls.getD a default).name ≠ q.name)) (fun v6 _ => j - (intOf v6).toNat)
  case atStart => exact ⟨0, by omega, rfl, HD4, Lib.hid fun a ha => absurd ha (Nat.not_lt_zero _)⟩
  case round =>
    obtain ⟨u, hu, rfl, hB, hno⟩ := hrel
    have HBW := Lib.hid (below_then HB3.out hB.out)
    by_cases hut : u < j
    · obtain ⟨A', n', c', hP2⟩ := HAT.out u (by omega)
      have e1 := cell_kept HBW.out hP2.c0
      have y0 := cell_kept hB.out PB.out.1
      obtain ⟨x0, x1, x2, x3, x4⟩ := NB1.out.below (below_then HC3.out hB.out)
      obtain ⟨z, hz⟩ : ∃ z, z = (N.pls.getD u default).name := ⟨_, rfl⟩
      rw [← hz] at e1
      have HZ := Lib.hid hz
      have u1 : (u : Int) < (j : Int) := by omega
      have u2 : (u : Int) < (n2 : Int) := by omega
      have u0 : (0 : Int) ≤ (u : Int) := by omega
      clear hz hP2
      rcases hzs : (z.toList == q.name.toList) with _ | _
      · have HR := Lib.hid (show ∀ a, a < u + 1 → (N.pls.getD a default).name ≠ q.name by
          intro a ha
          by_cases e : a = u
          · rw [e, ← HZ.out]
            have := hzs
            rw [same_beq] at this
            simpa using this
          · exact hno.out a (by omega))
        go_wp2
        go_quiet (fail)
        go_wp2
        go_roundw
        case rel => exact ⟨u + 1, by omega, by go_num, Lib.hid (below_drewN' hB.out _), HR⟩
        case measure => simp [intOf]; omega
      · have HR := Lib.hid (show f2 = false by
          rw [← Bool.not_eq_true, HF2.out]
          intro h
          have h2 := hzs
          rw [same_beq] at h2
          exact h u hut (by rw [← HZ.out]; exact of_decide_eq_true h2))
        go_wp2
        go_quiet (fail)
        go_wp2
        go_ret
        exact ⟨ret1 (by rw [HE2.out, HR.out]; rfl), below_drewN' HBW.out _⟩
    · have eu : u = j := by omega
      subst eu
      have ef2 := HF2.out.2 hno.out
      subst ef2
      obtain ⟨x0, x1, x2, x3, x4⟩ := NB1.out.below (below_then HC3.out hB.out)
      have y1 := cell_kept hB.out PB.out.2.1
      go_wp2_with fail
      refine (CC.out wr).mono ?_
      rintro e w5 ⟨rfl, hb⟩
      have HD5 := Lib.hid (below_then hB.out hb)
      have HZ5 := Lib.hid (below_then HBW.out hb)
      clear hb x0 x1 x2 x3 x4 y1
      cases f3 with
      | false =>
        go_wp2_with fail
        go_ret
        exact ⟨ret1 (by rw [HE2.out]; rfl), HZ5.out⟩
      | true =>
      have y2 := cell_kept HD5.out PB.out.2.2
      go_wp2_with fail
      refine (CR.out w5 HD5.out).mono ?_
      rintro e w6 ⟨rfl, t6, rfl⟩
      have HD6 := Lib.hid (below_drewN' HD5.out t6)
      have HZ6 := Lib.hid (below_drewN' HZ5.out t6)
      clear y2
      cases f4 with
      | false =>
        go_wp2_with fail
        go_ret
        exact ⟨ret1 (by rw [HE2.out]; rfl), HZ6.out⟩
      | true =>
      have hnf := PS3.out.bound
      have HNF := Lib.hid (show q.first.length = nf by have := PS3.out.len; rw [pairCells_len] at this; omega)
      go_wp2_with fail
      go_loopw [7] (fun v7 wx => ∃ (i : Nat), i ≤ nf ∧ v7 = .int .i64 (i : Int) ∧ Hid (Below w3.heap.size w3 wx) ∧ Hid (∀ a, a < i → ¬ sizeAt N.cols q.colour ≤ (q.first.getD a (0, 0)).1)) (fun v7 _ => nf - (intOf v7).toNat)
      case atStart => exact ⟨0, by omega, rfl, HD6, Lib.hid fun a ha => absurd ha (Nat.not_lt_zero _)⟩
      case round =>
        obtain ⟨i, hi, rfl, hB7, hno7⟩ := hrel
        have HBX := Lib.hid (below_then HB3.out hB7.out)
        by_cases hit : i < nf
        · obtain ⟨bf, of, rfl, e1, _⟩ := (PS3.out.below hB7.out).pair_at hit
          obtain ⟨x, hx⟩ : ∃ x, x = (q.first.getD i (0, 0)).1 := ⟨_, rfl⟩
          rw [← hx] at e1
          have HX := Lib.hid hx
          have y1 := cell_kept hB7.out PB.out.2.1
          have y2 := cell_kept hB7.out PB.out.2.2
          obtain ⟨x0, _, _, _, _⟩ := NB1.out.below (below_then HC3.out hB7.out)
          have HSK := Lib.hid (show ∀ W, Below wr.heap.size wr W → W.cell? ⟨gp, 2, none⟩ = some (.slice (some ⟨bf, of, none⟩) nf cf) ∧ W.cell? ⟨bf, of + i * 2, none⟩ = some (.int .i64 x) ∧ W.cell? ⟨w.heap.size, 0, none⟩ = some (.slice A1 n1 c1) ∧ W.cell? ⟨gp, 1, none⟩ = some (.int .i64 q.colour) from fun W h => ⟨cell_kept h y2, cell_kept h e1, cell_kept h x0, cell_kept h y1⟩)
          have cS := fun W (h : Below wr.heap.size wr W) => rf_Size A1 n1 c1 N.cols q.colour W (Lib.hid (hN.out.cols.below (below_then HBX.out h)))
          obtain ⟨sz, hsz⟩ : ∃ y, y = sizeAt N.cols q.colour := ⟨_, rfl⟩
          rw [← hsz] at cS hno7
          have CS := Lib.hid cS
          have HSZ := Lib.hid hsz
          have BD0 : Hid (Below wr.heap.size wr wr.drew) := Lib.hid (below_drewN' (Below.refl _ _) 1)
          have i1 : (i : Int) < (nf : Int) := by omega
          have i0 : (0 : Int) ≤ (i : Int) := by omega
          clear hx hsz cS
          by_cases hxs : sz ≤ x
          · have HR := Lib.hid (show f5 = false by
              rw [HF5.out, ← HSZ.out, Bool.not_eq_false', List.any_eq_true]
              have hl2 : i < q.first.length := by rw [HNF.out]; exact hit
              refine ⟨q.first.getD i (0, 0), ?_, by rw [← HX.out]; simpa using hxs⟩
              rw [List.getD, List.getElem?_eq_getElem hl2]
              exact List.getElem_mem hl2)
            go_wp2
            go_region_held3 (fun W => W.cell? ⟨gp, 2, none⟩ = some (.slice (some ⟨bf, of, none⟩) nf cf) ∧ W.cell? ⟨bf, of + i * 2, none⟩ = some (.int .i64 x) ∧ W.cell? ⟨w.heap.size, 0, none⟩ = some (.slice A1 n1 c1) ∧ W.cell? ⟨gp, 1, none⟩ = some (.int .i64 q.colour))
              (first | exact HSK.out _ BD1.out | exact HSK.out _ BD0.out)
              (first | (go_at_call 54; refine (CS.out _ BD0.out).mono ?_; rintro e x1 ⟨rfl, hb⟩; have BD1 := Lib.hid (below_then BD0.out hb); clear hb))
            have HZ := Lib.hid (below_then HBX.out BD1.out)
            go_wp2
            go_ret
            exact ⟨ret1 (by rw [HE2.out, HR.out]; rfl), HZ.out⟩
          · have HR := Lib.hid (show ∀ a, a < i + 1 → ¬ sizeAt N.cols q.colour ≤ (q.first.getD a (0, 0)).1 by
              intro a ha
              rw [← HSZ.out]
              by_cases e : a = i
              · rw [e, ← HX.out]; exact hxs
              · exact hno7.out a (by omega))
            go_wp2
            go_region_held3 (fun W => W.cell? ⟨gp, 2, none⟩ = some (.slice (some ⟨bf, of, none⟩) nf cf) ∧ W.cell? ⟨bf, of + i * 2, none⟩ = some (.int .i64 x) ∧ W.cell? ⟨w.heap.size, 0, none⟩ = some (.slice A1 n1 c1) ∧ W.cell? ⟨gp, 1, none⟩ = some (.int .i64 q.colour))
              (first | exact HSK.out _ BD1.out | exact HSK.out _ BD0.out)
              (first | (go_at_call 54; refine (CS.out _ BD0.out).mono ?_; rintro e x1 ⟨rfl, hb⟩; have BD1 := Lib.hid (below_then BD0.out hb); clear hb))
            have HZ := Lib.hid (below_then hB7.out BD1.out)
            go_wp2
            go_roundw
            case rel => exact ⟨i + 1, by omega, by go_num, HZ, Lib.hid (fun a ha => by have := HR.out a ha; omega)⟩
            case measure => simp [intOf]; omega
        · have ei : i = nf := by omega
          subst ei
          have HR := Lib.hid (show f5 = true by
            rw [HF5.out, Bool.not_eq_true', ← Bool.not_eq_true, List.any_eq_true]
            rintro ⟨r, hr, hr2⟩
            obtain ⟨a, ha, rfl⟩ := List.mem_iff_getElem.1 hr
            refine hno7.out a (by rw [HNF.out] at ha; exact ha) ?_
            rw [List.getD, List.getElem?_eq_getElem ha]
            simpa using hr2)
          have y2 := cell_kept hB7.out PB.out.2.2
          go_wp2_with fail
          go_ret
          exact ⟨ret1 (by rw [HE2.out, HR.out]; rfl), HBX.out⟩
end
end Go.Proofs.YtaeeblceedklnaaGreatDoor
