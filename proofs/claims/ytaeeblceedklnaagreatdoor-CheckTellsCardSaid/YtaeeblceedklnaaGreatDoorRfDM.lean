/- Joined: The document's answer: vars, arcs, Binds. Printed by gen_rfD.py. The document's answer: vars. Printed by gen_rfE.py. The document's answer: Binds. Printed by gen_rfG.py. The document's answer: kinds. Printed by gen_rfK.py. The document's answer: colours. Printed by gen_rfM.py. -/
import Derived.Test.YtaeeblceedklnaaGreatDoorRfC
import Derived.Test.YtaeeblceedklnaaGreatDoorExprF
import Derived.Test.YtaeeblceedklnaaGreatDoorCkF
import Derived.Test.YtaeeblceedklnaaGreatDoorCkG
namespace Go.Proofs.YtaeeblceedklnaaGreatDoor
open Go.RowKit
/-- The loop of errors: from k on. -/
theorem each_from {f : Nat → Int} {n k : Nat} (hk : k < n) (h : ∀ j, j < k → f j = 0) (he : f k ≠ 0) : (eachE f n).2 = f k := by
  have key : ∀ r p, (∀ j, p ≤ j → j < p + r → f j = 0) → ∀ m, seekE f p (r + m) = seekE f (p + r) m := by
    intro r
    induction r with
    | zero => intro p _ m; rw [Nat.zero_add, Nat.add_zero]
    | succ r ih =>
      intro p hp m
      rw [show r + 1 + m = (r + m) + 1 by omega, seekE_ok (hp p (Nat.le_refl _) (by omega)), ih (p + 1) (fun j h1 h2 => hp j (by omega) (by omega)) m]
      congr 1
      omega
  unfold eachE
  rw [show n = k + ((n - k - 1) + 1) by omega, key k 0 (fun j _ hj => h j (by omega)), Nat.zero_add, seekE_no he]
theorem each_none {f : Nat → Int} {n : Nat} (h : ∀ j, j < n → f j = 0) : (eachE f n).2 = 0 := eachE_zero.2 h
section
variable {A1 A2 A3 : Option Addr} {n1 c1 n2 c2 n3 c3 : Nat} {N : Nt}
set_option maxRecDepth 100000 in
set_option maxHeartbeats 8000000 in
theorem rf_arcs (l : List Ar) (A : Option Addr) (n c : Nat) (vars : Int) (w : World) (hN : Hid (NetAt w A1 n1 c1 A2 n2 c2 A3 n3 c3 N)) (hS : Hid (SlOf 4 ArAt w A n c l)) (hF : Hid (∀ k, k < n → sizeT (l.getD k default).expr ≤ 1000000)) :
    Calls Tryz.prog 76 #[netV A1 n1 c1 A2 n2 c2 A3 n3 c3 N.from_ N.to_, .slice A n c, .int .i64 vars] w fun e w' => e = .returned (.int .i64 (arcsE n2 vars l)) ∧ Below w.heap.size w w' := by
  have hn1 := Nat.le_trans hN.out.cols.1 hN.out.cols.2.1
  have hn2 := Nat.le_trans hN.out.pls.1 hN.out.pls.2.1
  have HLC := Lib.hid hN.out.cols.2.2.1
  have HLP := Lib.hid hN.out.pls.2.2.1
  obtain ⟨w1, hw1⟩ : ∃ x, x = w.alloc (.cells #[.slice A1 n1 c1, .slice A2 n2 c2, .slice A3 n3 c3, .int .i64 N.from_, .int .i64 N.to_] 26) := ⟨_, rfl⟩
  have HB1 := Lib.hid (show Below w.heap.size w w1 by rw [hw1]; exact alr w _)
  have NB1 := Lib.hid (show NBox w1 w.heap.size A1 n1 c1 A2 n2 c2 A3 n3 c3 N.from_ N.to_ by rw [hw1]; exact NBox.new w A1 n1 c1 A2 n2 c2 A3 n3 c3 N.from_ N.to_ 26)
  have HW := Lib.hid hw1.symm
  clear hw1
  have hn := Nat.le_trans hS.out.1 hS.out.2.1
  have HL := Lib.hid hS.out.2.2.1
  have HEA := Lib.hid (show arcsE n2 vars l = (eachE (arcE n2 vars l) n).2 by unfold arcsE; rw [HL.out])
  go_enter Tryz.func76, Tryz.ntmps76
  go_upto_region 1 with fail
  rw [HW.out]
  go_wp2_with fail
  go_loopw [7] (fun v7 wx => ∃ (k : Nat), k ≤ n ∧ v7 = .int .i64 (k : Int) ∧ Hid (Below w1.heap.size w1 wx) ∧ Hid (∀ j, j < k → arcE n2 vars l j = 0)) (fun v7 _ => n - (intOf v7).toNat)
  case atStart => exact ⟨0, by omega, rfl, Lib.hid (Below.refl _ _), Lib.hid fun j hj => absurd hj (Nat.not_lt_zero _)⟩
  case round =>
    obtain ⟨k, hk, rfl, hB, hno⟩ := hrel
    have HBW := Lib.hid (below_then HB1.out hB.out)
    by_cases hkt : k < n
    · obtain ⟨b, off, rfl, A', m', c', hA⟩ := (hS.out.below ArAt.stays HBW.out).at_ hkt
      have hfk := hF.out k hkt
      obtain ⟨q, hq⟩ : ∃ q, q = l.getD k default := ⟨_, rfl⟩
      rw [← hq] at hA hfk
      have HEK := Lib.hid (show arcE n2 vars l k = firstE [(amongB n2 q.place, 3), (rightT vars q.expr, 1)] by unfold arcE; rw [← hq])
      have e0 := hA.c0
      have e1 := hA.c1
      have e2 := hA.c2
      have e3 := hA.c3
      have HTR := Lib.hid hA.tr
      obtain ⟨x0, x1, x2, x3, x4⟩ := NB1.out.below hB.out
      have HSK := Lib.hid (show ∀ W, Below wr.heap.size wr W → W.cell? ⟨b, off + k * 4, none⟩ = some (.int .i64 q.place) ∧ W.cell? ⟨w.heap.size, 0, none⟩ = some (.slice A1 n1 c1) ∧ W.cell? ⟨w.heap.size, 1, none⟩ = some (.slice A2 n2 c2) ∧ W.cell? ⟨w.heap.size, 2, none⟩ = some (.slice A3 n3 c3) ∧ W.cell? ⟨w.heap.size, 3, none⟩ = some (.int .i64 N.from_) ∧ W.cell? ⟨w.heap.size, 4, none⟩ = some (.int .i64 N.to_) from fun W h => ⟨cell_kept h e0, cell_kept h x0, cell_kept h x1, cell_kept h x2, cell_kept h x3, cell_kept h x4⟩)
      have CE1 := Lib.hid (show ∀ W, Below wr.heap.size wr W → W.cell? ⟨b, off + k * 4 + 1, none⟩ = some (.int .i64 q.expr.kind) ∧ W.cell? ⟨b, off + k * 4 + 2, none⟩ = some (.int .i64 q.expr.num) ∧ W.cell? ⟨b, off + k * 4 + 3, none⟩ = some (.slice A' m' c') from fun W h => ⟨cell_kept h e1, cell_kept h e2, cell_kept h e3⟩)
      have cP := fun W => rf_isPlace (A1 := A1) (n1 := n1) (c1 := c1) (A2 := A2) (n2 := n2) (c2 := c2) (A3 := A3) (n3 := n3) (c3 := c3) N.from_ N.to_ q.place W
      have cR := fun W (h : Below wr.heap.size wr W) => r_Right vars q.expr A' m' c' W (Lib.hid (HTR.out.kept h)) hfk
      obtain ⟨f1, hf1⟩ : ∃ y, y = amongB n2 q.place := ⟨_, rfl⟩
      obtain ⟨f2, hf2⟩ : ∃ y, y = rightT vars q.expr := ⟨_, rfl⟩
      rw [← hf1] at cP HEK
      rw [← hf2] at cR HEK
      have CP := Lib.hid cP
      have CR := Lib.hid cR
      have BD0 : Hid (Below wr.heap.size wr wr.drew) := Lib.hid (below_drewN' (Below.refl _ _) 1)
      have k1 : (k : Int) < (n : Int) := by omega
      have k0 : (0 : Int) ≤ (k : Int) := by omega
      clear hA hq hf1 hf2 cP cR e1 e2 e3
      cases f1 with
      | false =>
        have HR := Lib.hid (show arcsE n2 vars l = 3 by
          have h3 : arcE n2 vars l k = 3 := by rw [HEK.out]; rfl
          rw [HEA.out, each_from hkt hno.out (by rw [h3]; decide), h3])
        go_wp2
        go_region_held3 (fun W => W.cell? ⟨b, off + k * 4, none⟩ = some (.int .i64 q.place) ∧ W.cell? ⟨w.heap.size, 0, none⟩ = some (.slice A1 n1 c1) ∧ W.cell? ⟨w.heap.size, 1, none⟩ = some (.slice A2 n2 c2) ∧ W.cell? ⟨w.heap.size, 2, none⟩ = some (.slice A3 n3 c3) ∧ W.cell? ⟨w.heap.size, 3, none⟩ = some (.int .i64 N.from_) ∧ W.cell? ⟨w.heap.size, 4, none⟩ = some (.int .i64 N.to_))
          (first | exact HSK.out _ BD1.out | exact HSK.out _ BD0.out)
          (first | (go_at_call 36; refine (CP.out _).mono ?_; rintro e z1 ⟨rfl, hb⟩; have BD1 := Lib.hid (below_then BD0.out hb); clear hb))
        have HZ := Lib.hid (below_then HBW.out BD1.out)
        go_wp2
        go_ret
        exact ⟨ret1 HR.out.symm, HZ.out⟩
      | true =>
        go_wp2
        go_region_held3 (fun W => W.cell? ⟨b, off + k * 4, none⟩ = some (.int .i64 q.place) ∧ W.cell? ⟨w.heap.size, 0, none⟩ = some (.slice A1 n1 c1) ∧ W.cell? ⟨w.heap.size, 1, none⟩ = some (.slice A2 n2 c2) ∧ W.cell? ⟨w.heap.size, 2, none⟩ = some (.slice A3 n3 c3) ∧ W.cell? ⟨w.heap.size, 3, none⟩ = some (.int .i64 N.from_) ∧ W.cell? ⟨w.heap.size, 4, none⟩ = some (.int .i64 N.to_))
          (first | exact HSK.out _ BD1.out | exact HSK.out _ BD0.out)
          (first | (go_at_call 36; refine (CP.out _).mono ?_; rintro e z1 ⟨rfl, hb⟩; have BD1 := Lib.hid (below_then BD0.out hb); clear hb))
        obtain ⟨e1, e2, e3⟩ := CE1.out _ BD1.out
        go_wp2_with fail
        refine (CR.out _ BD1.out).mono ?_
        rintro e z2 ⟨rfl, hb⟩
        have BD2 := Lib.hid (below_then BD1.out hb)
        have HZ := Lib.hid (below_then HBW.out BD2.out)
        have HZ1 := Lib.hid (below_then hB.out BD2.out)
        clear hb
        cases f2 with
        | false =>
          have HR := Lib.hid (show arcsE n2 vars l = 1 by
            have h3 : arcE n2 vars l k = 1 := by rw [HEK.out]; rfl
            rw [HEA.out, each_from hkt hno.out (by rw [h3]; decide), h3])
          go_wp2_with fail
          go_ret
          exact ⟨ret1 HR.out.symm, HZ.out⟩
        | true =>
          have HNX := Lib.hid (show ∀ j, j < k + 1 → arcE n2 vars l j = 0 by
            intro j hj
            by_cases e : j = k
            · rw [e, HEK.out]; rfl
            · exact hno.out j (by omega))
          go_wp2_with fail
          go_roundw
          case rel => exact ⟨k + 1, by omega, by go_num, HZ1, HNX⟩
          case measure => simp [intOf]; omega
    · have ek : k = n := by omega
      subst ek
      have HR := Lib.hid (show arcsE n2 vars l = 0 by rw [HEA.out]; exact each_none hno.out)
      go_wp2_with fail
      go_ret
      exact ⟨ret1 HR.out.symm, HBW.out⟩
end
end Go.Proofs.YtaeeblceedklnaaGreatDoor
namespace Go.Proofs.YtaeeblceedklnaaGreatDoor
open Go.RowKit
section
variable {A1 A2 A3 : Option Addr} {n1 c1 n2 c2 n3 c3 : Nat} {N : Nt}
set_option maxRecDepth 100000 in
set_option maxHeartbeats 8000000 in
theorem rf_vars (l : List Vr) (A : Option Addr) (n c : Nat) (w : World) (hN : Hid (NetAt w A1 n1 c1 A2 n2 c2 A3 n3 c3 N)) (hS : Hid (SlOf 2 VrAt w A n c l)) :
    Calls Tryz.prog 73 #[netV A1 n1 c1 A2 n2 c2 A3 n3 c3 N.from_ N.to_, .slice A n c] w fun e w' => e = .returned (.int .i64 (varsE n1 l)) ∧ Below w.heap.size w w' := by
  have hn1 := Nat.le_trans hN.out.cols.1 hN.out.cols.2.1
  have hn2 := Nat.le_trans hN.out.pls.1 hN.out.pls.2.1
  have HLC := Lib.hid hN.out.cols.2.2.1
  have HLP := Lib.hid hN.out.pls.2.2.1
  obtain ⟨w1, hw1⟩ : ∃ x, x = w.alloc (.cells #[.slice A1 n1 c1, .slice A2 n2 c2, .slice A3 n3 c3, .int .i64 N.from_, .int .i64 N.to_] 26) := ⟨_, rfl⟩
  have HB1 := Lib.hid (show Below w.heap.size w w1 by rw [hw1]; exact alr w _)
  have NB1 := Lib.hid (show NBox w1 w.heap.size A1 n1 c1 A2 n2 c2 A3 n3 c3 N.from_ N.to_ by rw [hw1]; exact NBox.new w A1 n1 c1 A2 n2 c2 A3 n3 c3 N.from_ N.to_ 26)
  have HW := Lib.hid hw1.symm
  clear hw1
  have hn := Nat.le_trans hS.out.1 hS.out.2.1
  have HL := Lib.hid hS.out.2.2.1
  have HEA := Lib.hid (show varsE n1 l = (eachE (varE n1 l) n).2 by unfold varsE; rw [HL.out])
  go_enter Tryz.func73, Tryz.ntmps73
  go_upto_region 1 with fail
  rw [HW.out]
  go_wp2_with fail
  go_loopw [5] (fun v5 wx => ∃ (k : Nat), k ≤ n ∧ v5 = .int .i64 (k : Int) ∧ Hid (Below w1.heap.size w1 wx) ∧ Hid (∀ j, j < k → varE n1 l j = 0)) (fun v5 _ => n - (intOf v5).toNat)
  case atStart => exact ⟨0, by omega, rfl, Lib.hid (Below.refl _ _), Lib.hid fun j hj => absurd hj (Nat.not_lt_zero _)⟩
  case round =>
    obtain ⟨k, hk, rfl, hB, hno⟩ := hrel
    have HBW := Lib.hid (below_then HB1.out hB.out)
    by_cases hkt : k < n
    · obtain ⟨b, off, rfl, hat⟩ := hS.out.2.2.2 (by omega)
      have HAT := Lib.hid hat
      have hA := hat k hkt
      obtain ⟨q, hq⟩ : ∃ q, q = l.getD k default := ⟨_, rfl⟩
      rw [← hq] at hA
      have HA0 := Lib.hid hA.c0
      have HA1 := Lib.hid hA.c1
      have e0 := cell_kept HBW.out hA.c0
      have HEK := Lib.hid (show varE n1 l k = firstE [(freeB q.name, 1), (!(l.take k).any fun x => decide (x.name = q.name), 5), (amongB n1 q.colour, 3)] by unfold varE; rw [← hq])
      have cF := fun W => rf_free q.name W
      have cC := fun W => rf_isColour (A1 := A1) (n1 := n1) (c1 := c1) (A2 := A2) (n2 := n2) (c2 := c2) (A3 := A3) (n3 := n3) (c3 := c3) N.from_ N.to_ q.colour W
      obtain ⟨f1, hf1⟩ : ∃ y, y = freeB q.name := ⟨_, rfl⟩
      obtain ⟨f2, hf2⟩ : ∃ y, y = !(l.take k).any fun x => decide (x.name = q.name) := ⟨_, rfl⟩
      obtain ⟨f3, hf3⟩ : ∃ y, y = amongB n1 q.colour := ⟨_, rfl⟩
      rw [← hf1] at cF
      rw [← hf3] at cC
      rw [← hf1, ← hf2, ← hf3] at HEK
      have CF := Lib.hid cF
      have CC := Lib.hid cC
      have HF2 := Lib.hid (show f2 = true ↔ ∀ u, u < k → (l.getD u default).name ≠ q.name by rw [hf2]; exact take_any (f := fun x : Vr => x.name) (by rw [HL.out]; omega))
      have HBAD := Lib.hid (show ∀ z : Int, varE n1 l k = z → z ≠ 0 → varsE n1 l = z by
        intro z h1 h2
        rw [HEA.out, each_from hkt hno.out (by rw [h1]; exact h2), h1])
      have k1 : (k : Int) < (n : Int) := by omega
      have k0 : (0 : Int) ≤ (k : Int) := by omega
      clear hat hA hq hf1 hf2 hf3 cF cC
      go_wp2_with fail
      refine (CF.out wr).mono ?_
      rintro e z1 ⟨rfl, hb⟩
      have HZ1 := Lib.hid (below_then hB.out hb)
      have HZW := Lib.hid (below_then HBW.out hb)
      clear hb e0
      cases f1 with
      | false =>
        have HR := Lib.hid (HBAD.out 1 (by rw [HEK.out]; rfl) (by decide))
        go_wp2_with fail
        go_ret
        exact ⟨ret1 HR.out.symm, HZW.out⟩
      | true =>
      go_wp2_with fail
      go_loopw [6] (fun v6 wx => ∃ (u : Nat), u ≤ k ∧ v6 = .int .i64 (u : Int) ∧ Hid (Below w1.heap.size w1 wx) ∧ Hid (∀ a, a < u → (l.getD a default).name ≠ q.name)) (fun v6 _ => k - (intOf v6).toNat)
      case atStart => exact ⟨0, by omega, rfl, HZ1, Lib.hid fun a ha => absurd ha (Nat.not_lt_zero _)⟩
      case round =>
        obtain ⟨u, hu, rfl, hB6, hno6⟩ := hrel
        have HB6 := Lib.hid (below_then HB1.out hB6.out)
        by_cases hut : u < k
        · have e1 := cell_kept HB6.out (HAT.out u (by omega)).c0
          have e0 := cell_kept HB6.out HA0.out
          obtain ⟨z, hz⟩ : ∃ z, z = (l.getD u default).name := ⟨_, rfl⟩
          rw [← hz] at e1
          have HZ := Lib.hid hz
          have u1 : (u : Int) < (k : Int) := by omega
          have u2 : (u : Int) < (n : Int) := by omega
          have u0 : (0 : Int) ≤ (u : Int) := by omega
          clear hz
          rcases hzs : (z.toList == q.name.toList) with _ | _
          · have HR := Lib.hid (show ∀ a, a < u + 1 → (l.getD a default).name ≠ q.name by
              intro a ha
              by_cases e : a = u
              · rw [e, ← HZ.out]
                have := hzs
                rw [same_beq] at this
                simpa using this
              · exact hno6.out a (by omega))
            go_wp2
            go_quiet (fail)
            go_wp2
            go_roundw
            case rel => exact ⟨u + 1, by omega, by go_num, Lib.hid (below_drewN' hB6.out _), HR⟩
            case measure => simp [intOf]; omega
          · have HR := Lib.hid (show f2 = false by
              rw [← Bool.not_eq_true, HF2.out]
              intro h
              have h2 := hzs
              rw [same_beq] at h2
              exact h u hut (by rw [← HZ.out]; exact of_decide_eq_true h2))
            have HR5 := Lib.hid (HBAD.out 5 (by rw [HEK.out, HR.out]; rfl) (by decide))
            go_wp2
            go_quiet (fail)
            go_wp2
            go_ret
            exact ⟨ret1 HR5.out.symm, below_drewN' HB6.out _⟩
        · have eu : u = k := by omega
          subst eu
          have ef2 := HF2.out.2 hno6.out
          subst ef2
          have e1 := cell_kept HB6.out HA1.out
          obtain ⟨x0, x1, x2, x3, x4⟩ := NB1.out.below hB6.out
          have HSK := Lib.hid (show ∀ W, Below wr.heap.size wr W → W.cell? ⟨b, off + u * 2 + 1, none⟩ = some (.int .i64 q.colour) ∧ W.cell? ⟨w.heap.size, 0, none⟩ = some (.slice A1 n1 c1) ∧ W.cell? ⟨w.heap.size, 1, none⟩ = some (.slice A2 n2 c2) ∧ W.cell? ⟨w.heap.size, 2, none⟩ = some (.slice A3 n3 c3) ∧ W.cell? ⟨w.heap.size, 3, none⟩ = some (.int .i64 N.from_) ∧ W.cell? ⟨w.heap.size, 4, none⟩ = some (.int .i64 N.to_) from fun W h => ⟨cell_kept h e1, cell_kept h x0, cell_kept h x1, cell_kept h x2, cell_kept h x3, cell_kept h x4⟩)
          have BD0 : Hid (Below wr.heap.size wr wr.drew) := Lib.hid (below_drewN' (Below.refl _ _) 1)
          cases f3 with
          | false =>
            have HR := Lib.hid (HBAD.out 3 (by rw [HEK.out]; rfl) (by decide))
            go_wp2
            go_region_held3 (fun W => W.cell? ⟨b, off + u * 2 + 1, none⟩ = some (.int .i64 q.colour) ∧ W.cell? ⟨w.heap.size, 0, none⟩ = some (.slice A1 n1 c1) ∧ W.cell? ⟨w.heap.size, 1, none⟩ = some (.slice A2 n2 c2) ∧ W.cell? ⟨w.heap.size, 2, none⟩ = some (.slice A3 n3 c3) ∧ W.cell? ⟨w.heap.size, 3, none⟩ = some (.int .i64 N.from_) ∧ W.cell? ⟨w.heap.size, 4, none⟩ = some (.int .i64 N.to_))
              (first | exact HSK.out _ BD1.out | exact HSK.out _ BD0.out)
              (first | (go_at_call 52; refine (CC.out _).mono ?_; rintro e z1 ⟨rfl, hb⟩; have BD1 := Lib.hid (below_then BD0.out hb); clear hb))
            have HZ := Lib.hid (below_then HB6.out BD1.out)
            go_wp2
            go_ret
            exact ⟨ret1 HR.out.symm, HZ.out⟩
          | true =>
            have HNX := Lib.hid (show ∀ j, j < u + 1 → varE n1 l j = 0 by
              intro j hj
              by_cases e : j = u
              · rw [e, HEK.out]; rfl
              · exact hno.out j (by omega))
            go_wp2
            go_region_held3 (fun W => W.cell? ⟨b, off + u * 2 + 1, none⟩ = some (.int .i64 q.colour) ∧ W.cell? ⟨w.heap.size, 0, none⟩ = some (.slice A1 n1 c1) ∧ W.cell? ⟨w.heap.size, 1, none⟩ = some (.slice A2 n2 c2) ∧ W.cell? ⟨w.heap.size, 2, none⟩ = some (.slice A3 n3 c3) ∧ W.cell? ⟨w.heap.size, 3, none⟩ = some (.int .i64 N.from_) ∧ W.cell? ⟨w.heap.size, 4, none⟩ = some (.int .i64 N.to_))
              (first | exact HSK.out _ BD1.out | exact HSK.out _ BD0.out)
              (first | (go_at_call 52; refine (CC.out _).mono ?_; rintro e z1 ⟨rfl, hb⟩; have BD1 := Lib.hid (below_then BD0.out hb); clear hb))
            have HZ := Lib.hid (below_then hB6.out BD1.out)
            go_wp2
            go_roundw
            case rel => exact ⟨u + 1, by omega, by go_num, HZ, HNX⟩
            case measure => simp [intOf]; omega
    · have ek : k = n := by omega
      subst ek
      have HR := Lib.hid (show varsE n1 l = 0 by rw [HEA.out]; exact each_none hno.out)
      go_wp2_with fail
      go_ret
      exact ⟨ret1 HR.out.symm, HBW.out⟩
end
end Go.Proofs.YtaeeblceedklnaaGreatDoor
namespace Go.Proofs.YtaeeblceedklnaaGreatDoor
open Go.RowKit
section
variable {A1 A2 A3 : Option Addr} {n1 c1 n2 c2 n3 c3 : Nat} {N : Nt}
set_option maxRecDepth 100000 in
set_option maxHeartbeats 4000000 in
theorem rf_Binds_in (k : Nat) (w : World) (hk : k < n3) (hN : Hid (NetAt w A1 n1 c1 A2 n2 c2 A3 n3 c3 N)) :
    Calls Tryz.prog 74 #[netV A1 n1 c1 A2 n2 c2 A3 n3 c3 N.from_ N.to_, .int .i64 (k : Int)] w fun e w' => e = .returned (.int .i64 (bindsG N.cols 1 (N.tks.getD k default).vars)) ∧ Below w.heap.size w w' := by
  have hn1 := Nat.le_trans hN.out.cols.1 hN.out.cols.2.1
  have hn2 := Nat.le_trans hN.out.pls.1 hN.out.pls.2.1
  have HLC := Lib.hid hN.out.cols.2.2.1
  have HLP := Lib.hid hN.out.pls.2.2.1
  obtain ⟨w1, hw1⟩ : ∃ x, x = w.alloc (.cells #[.slice A1 n1 c1, .slice A2 n2 c2, .slice A3 n3 c3, .int .i64 N.from_, .int .i64 N.to_] 26) := ⟨_, rfl⟩
  have HB1 := Lib.hid (show Below w.heap.size w w1 by rw [hw1]; exact alr w _)
  have NB1 := Lib.hid (show NBox w1 w.heap.size A1 n1 c1 A2 n2 c2 A3 n3 c3 N.from_ N.to_ by rw [hw1]; exact NBox.new w A1 n1 c1 A2 n2 c2 A3 n3 c3 N.from_ N.to_ 26)
  have HW := Lib.hid hw1.symm
  clear hw1
  have hn3 := Nat.le_trans hN.out.tks.1 hN.out.tks.2.1
  obtain ⟨b, off, rfl, Av, nv, cv, Ag, mg, cg, Ai, ni, ci, Ao, no, co, Ac, nc, cc, hE⟩ := hN.out.tks.at_ hk
  obtain ⟨q, hq⟩ : ∃ q, q = N.tks.getD k default := ⟨_, rfl⟩
  rw [← hq] at hE ⊢
  have C1 := Lib.hid hE.c1
  have hS := Lib.hid hE.vars
  have hlv := Lib.hid hE.vars.2.2.1
  have hv9 := Nat.le_trans hE.vars.1 hE.vars.2.1
  obtain ⟨R, hR⟩ : ∃ R, R = bindsG N.cols 1 q.vars := ⟨_, rfl⟩
  rw [← hR]
  have HR := Lib.hid hR.symm
  have k0 : (0 : Int) ≤ (k : Int) := by omega
  have kn : ¬ (k : Int) < 0 := by omega
  have k1 : (k : Int) < (n3 : Int) := by omega
  clear hR hq hE
  go_enter Tryz.func74, Tryz.ntmps74
  go_upto_region 1 with fail
  rw [HW.out]
  obtain ⟨x0, x1, x2, x3, x4⟩ := NB1.out
  go_wp2_with fail
  clear x0 x1 x2 x3 x4
  go_loopw [5, 6] (fun v5 v6 wr => ∃ (j : Nat) (x : Int), j ≤ nv ∧ 0 ≤ x ∧ x ≤ 1025 ∧ v5 = .int .i64 x ∧ v6 = .int .i64 (j : Int) ∧ Hid (bindsG N.cols x (q.vars.drop j) = R) ∧ Hid (Below w1.heap.size w1 wr)) (fun _ v6 _ => nv - (intOf v6).toNat)
  case atStart => exact ⟨0, 1, by omega, by omega, by omega, rfl, rfl, HR, Lib.hid (Below.refl _ _)⟩
  case round =>
    obtain ⟨j, x, hj, hx0, hx1, rfl, rfl, hP, hB⟩ := hrel
    have HBW := Lib.hid (below_then HB1.out hB.out)
    have x0 := (NB1.out.below hB.out).c0
    have x2 := (NB1.out.below hB.out).c2
    have c1' := cell_kept HBW.out C1.out
    by_cases hlt : j < nv
    · obtain ⟨b', off', rfl, hV⟩ := (hS.out.below VrAt.stays HBW.out).at_ hlt
      have hst := hP.out
      rw [drop_vr (by rw [hlv.out]; exact hlt), bindsG] at hst
      obtain ⟨v, hv⟩ : ∃ v, v = q.vars.getD j default := ⟨_, rfl⟩
      rw [← hv] at hst hV
      have e1 := hV.c1
      have HSK := Lib.hid (show ∀ W, Below wr.heap.size wr W → W.cell? ⟨w.heap.size, 0, none⟩ = some (.slice A1 n1 c1) ∧ W.cell? ⟨w.heap.size, 2, none⟩ = some (.slice (some ⟨b, off, none⟩) n3 c3) ∧ W.cell? ⟨b, off + k * 14 + 1, none⟩ = some (.slice (some ⟨b', off', none⟩) nv cv) ∧ W.cell? ⟨b', off' + j * 2 + 1, none⟩ = some (.int .i64 v.colour) from fun W h => ⟨cell_kept h x0, cell_kept h x2, cell_kept h c1', cell_kept h e1⟩)
      have BD0 : Hid (Below wr.heap.size wr wr.drew) := Lib.hid (below_drewN' (Below.refl _ _) 1)
      have cS := fun W (h : Below wr.heap.size wr W) => rf_Size A1 n1 c1 N.cols v.colour W (Lib.hid (hN.out.cols.below (below_then HBW.out h)))
      have hsr := sizeAt_range N.cols v.colour
      obtain ⟨s, hs⟩ : ∃ s, s = sizeAt N.cols v.colour := ⟨_, rfl⟩
      rw [← hs] at hst cS hsr
      have CS := Lib.hid cS
      obtain ⟨hs0, hs1⟩ := hsr
      have hlt2 : (j : Int) < (nv : Int) := by omega
      have hj0 : (0 : Int) ≤ (j : Int) := by omega
      clear hv hV hs cS
      by_cases h0 : s = 0
      · subst h0
        rw [if_pos rfl] at hst
        have HST := Lib.hid hst
        clear hst
        go_wp2
        go_region_held3 (fun W => W.cell? ⟨w.heap.size, 0, none⟩ = some (.slice A1 n1 c1) ∧ W.cell? ⟨w.heap.size, 2, none⟩ = some (.slice (some ⟨b, off, none⟩) n3 c3) ∧ W.cell? ⟨b, off + k * 14 + 1, none⟩ = some (.slice (some ⟨b', off', none⟩) nv cv) ∧ W.cell? ⟨b', off' + j * 2 + 1, none⟩ = some (.int .i64 v.colour))
          (first | exact HSK.out _ BD1.out | exact HSK.out _ BD0.out)
          (first | (go_at_call 54; refine (CS.out _ BD0.out).mono ?_; rintro e z1 ⟨rfl, hb⟩; have BD1 := Lib.hid (below_then BD0.out hb); clear hb))
        have HZ := Lib.hid (below_then HBW.out BD1.out)
        go_wp2
        go_ret
        exact ⟨ret1 HST.out, HZ.out⟩
      · rw [if_neg h0] at hst
        have y0 : (s == 0) = false := by simpa using h0
        have hm := mul_1025 ⟨hx0, hx1⟩ ⟨hs0, hs1⟩
        obtain ⟨z, hz⟩ : ∃ z, z = x * s := ⟨_, rfl⟩
        rw [← hz] at hst hm
        obtain ⟨hm0, hm1⟩ := hm
        have hz2 : IntKind.i64.wrap (x * s) = z := by rw [← hz]; exact IntWalk.i64_in _ ⟨by omega, by omega⟩
        have HST := Lib.hid hst
        clear hst h0 hz
        go_wp2
        go_region_held3 (fun W => W.cell? ⟨w.heap.size, 0, none⟩ = some (.slice A1 n1 c1) ∧ W.cell? ⟨w.heap.size, 2, none⟩ = some (.slice (some ⟨b, off, none⟩) n3 c3) ∧ W.cell? ⟨b, off + k * 14 + 1, none⟩ = some (.slice (some ⟨b', off', none⟩) nv cv) ∧ W.cell? ⟨b', off' + j * 2 + 1, none⟩ = some (.int .i64 v.colour))
          (first | exact HSK.out _ BD1.out | exact HSK.out _ BD0.out)
          (first | (go_at_call 54; refine (CS.out _ BD0.out).mono ?_; rintro e z1 ⟨rfl, hb⟩; have BD1 := Lib.hid (below_then BD0.out hb); clear hb))
        have HZ := Lib.hid (below_then hB.out BD1.out)
        go_wp2
        go_roundw
        case rel => exact ⟨j + 1, min z 1025, by omega, by omega, by omega, by first | rfl | go_num, by go_num, HST, HZ⟩
        case measure => simp [intOf]; omega
    · have e1 : q.vars.drop j = [] := List.drop_eq_nil_of_le (by rw [hlv.out]; omega)
      have hst := hP.out
      rw [e1, bindsG] at hst
      have HST := Lib.hid hst
      clear hst e1
      go_wp2
      go_ret
      exact ⟨ret1 HST.out, HBW.out⟩
set_option maxRecDepth 100000 in
set_option maxHeartbeats 1000000 in
theorem rf_Binds (k : Int) (w : World) (hN : Hid (NetAt w A1 n1 c1 A2 n2 c2 A3 n3 c3 N)) :
    Calls Tryz.prog 74 #[netV A1 n1 c1 A2 n2 c2 A3 n3 c3 N.from_ N.to_, .int .i64 k] w fun e w' => e = .returned (.int .i64 (bindsE N k)) ∧ Below w.heap.size w w' := by
  have hlt := hN.out.tks.2.2.1
  by_cases hk : 0 ≤ k ∧ k < (n3 : Int)
  · obtain ⟨j, rfl⟩ : ∃ j : Nat, k = j := ⟨k.toNat, by omega⟩
    have := rf_Binds_in j w (by omega) hN
    unfold bindsE
    rw [hlt, if_pos (among_iff.2 hk), Int.toNat_natCast]
    exact this
  · have hf : amongB n3 k = false := by rw [← Bool.not_eq_true, among_iff]; exact hk
    have HE := Lib.hid (show bindsE N k = 0 by unfold bindsE; rw [hlt, hf]; rfl)
    have hn3 := Nat.le_trans hN.out.tks.1 hN.out.tks.2.1
    have HB1 := Lib.hid (alr w (.cells #[.slice A1 n1 c1, .slice A2 n2 c2, .slice A3 n3 c3, .int .i64 N.from_, .int .i64 N.to_] 26))
    clear hf hlt
    by_cases h0 : k < 0
    · go_enter Tryz.func74, Tryz.ntmps74
      go_wp2
      go_ret
      exact ⟨ret1 HE.out.symm, HB1.out⟩
    · have h1 : (n3 : Int) ≤ k := by omega
      clear hk
      go_enter Tryz.func74, Tryz.ntmps74
      go_wp2
      go_ret
      exact ⟨ret1 HE.out.symm, HB1.out⟩
end
end Go.Proofs.YtaeeblceedklnaaGreatDoor
namespace Go.Proofs.YtaeeblceedklnaaGreatDoor
open Go.RowKit
set_option maxRecDepth 100000 in
set_option maxHeartbeats 16000000 in
theorem rf_kinds_in (nm : ByteArray) (gk gn jo sp af m0 m1 m2 : Int) (Av : Option Addr) (nv cv : Nat) (Ag : Option Addr) (mg cg : Nat) (Ai : Option Addr) (ni ci : Nat) (Ao : Option Addr) (no co : Nat) (Ac : Option Addr) (nc cc : Nat) (w : World) :
    Calls Tryz.prog 77 #[.agg #[.string nm, .slice Av nv cv, .int .i64 gk, .int .i64 gn, .slice Ag mg cg, .int .i64 jo, .int .i64 sp, .slice Ai ni ci, .slice Ao no co, .slice Ac nc cc, .int .i64 af, .int .i64 m0, .int .i64 m1, .int .i64 m2]] w fun e w' => e = .returned (.bool (knownK jo ni && (knownK sp no && (decide (0 ≤ af) && (decide (af ≤ 65536) && manyZ m0 m1 m2))))) ∧ Below w.heap.size w w' := by
  obtain ⟨x3, hx3⟩ : ∃ x, x = manyZ m0 m1 m2 := ⟨_, rfl⟩
  rw [← hx3]
  have H3 := Lib.hid hx3
  clear hx3
  obtain ⟨w1, hw1⟩ : ∃ x, x = w.alloc (.cells #[.string nm, .slice Av nv cv, .int .i64 gk, .int .i64 gn, .slice Ag mg cg, .int .i64 jo, .int .i64 sp, .slice Ai ni ci, .slice Ao no co, .slice Ac nc cc, .int .i64 af, .int .i64 m0, .int .i64 m1, .int .i64 m2] 53) := ⟨_, rfl⟩
  have b3 : w1.cell? ⟨w.heap.size, 5, none⟩ = some (.int .i64 jo) := by rw [hw1]; exact cell_new w _ _ 5 _ rfl
  have b4 : w1.cell? ⟨w.heap.size, 6, none⟩ = some (.int .i64 sp) := by rw [hw1]; exact cell_new w _ _ 6 _ rfl
  have b5 : w1.cell? ⟨w.heap.size, 7, none⟩ = some (.slice Ai ni ci) := by rw [hw1]; exact cell_new w _ _ 7 _ rfl
  have b6 : w1.cell? ⟨w.heap.size, 8, none⟩ = some (.slice Ao no co) := by rw [hw1]; exact cell_new w _ _ 8 _ rfl
  have b8 : w1.cell? ⟨w.heap.size, 10, none⟩ = some (.int .i64 af) := by rw [hw1]; exact cell_new w _ _ 10 _ rfl
  have b11 : w1.cell? ⟨w.heap.size, 11, none⟩ = some (.int .i64 m0) := by rw [hw1]; exact cell_new w _ _ 11 _ rfl
  have b12 : w1.cell? ⟨w.heap.size, 12, none⟩ = some (.int .i64 m1) := by rw [hw1]; exact cell_new w _ _ 12 _ rfl
  have b13 : w1.cell? ⟨w.heap.size, 13, none⟩ = some (.int .i64 m2) := by rw [hw1]; exact cell_new w _ _ 13 _ rfl
  have HB1 := Lib.hid (show Below w.heap.size w w1 by rw [hw1]; exact alr w _)
  have HW := Lib.hid hw1.symm
  clear hw1
  go_enter Tryz.func77, Tryz.ntmps77
  go_upto_region 1 with fail
  rw [HW.out]
  go_upto_region 2 with fail
  clear b11 b12 b13
  have AL := alr w1 (.cells #[.int .i64 m0, .int .i64 m1, .int .i64 m2] 51)
  have HB2 := Lib.hid (below_then HB1.out AL)
  have d3 := cell_kept AL b3
  have d4 := cell_kept AL b4
  have d5 := cell_kept AL b5
  have d6 := cell_kept AL b6
  have d8 := cell_kept AL b8
  have c0 := cell_new w1 #[.int .i64 m0, .int .i64 m1, .int .i64 m2] 51 0 _ rfl
  have c1 := cell_new w1 #[.int .i64 m0, .int .i64 m1, .int .i64 m2] 51 1 _ rfl
  have c2 := cell_new w1 #[.int .i64 m0, .int .i64 m1, .int .i64 m2] 51 2 _ rfl
  obtain ⟨w2, hw2⟩ : ∃ y, y = w1.alloc (.cells #[.int .i64 m0, .int .i64 m1, .int .i64 m2] 51) := ⟨_, rfl⟩
  obtain ⟨g2, hg2⟩ : ∃ y, y = w1.heap.size := ⟨_, rfl⟩
  rw [← hw2] at HB2 d3 d4 d5 d6 d8
  rw [← hw2, ← hg2] at c0 c1 c2
  rw [← hw2, ← hg2]
  have eT := fun (W : World) => eql_tri m0 m1 m2 W
  rw [tri_zero] at eT
  clear b3 b4 b5 b6 b8 AL hw2 hg2
  go_cut [4] (fun s4 wx => s4 = .bool x3 ∧ wx = w2)
  case first =>
    have HE := Lib.hid (show x3 = (decide (m0 = 0 ∧ m1 = 0 ∧ m2 = 0) || decide (1 ≤ m0 ∧ m0 ≤ m1 ∧ m1 ≤ 16 ∧ 1 ≤ m2 ∧ m2 ≤ m1)) from H3.out)
    obtain ⟨z, hz⟩ : ∃ z, z = decide (m0 = 0 ∧ m1 = 0 ∧ m2 = 0) := ⟨_, rfl⟩
    rw [← hz] at eT HE
    clear hz d3 d4 d5 d6 d8
    cases z with
    | true =>
      have HX := Lib.hid (show x3 = true by rw [HE.out]; rfl)
      go_wp2_with fail
      go_meet
      exact ⟨by rw [HX.out], rfl⟩
    | false =>
      have HX := Lib.hid (show x3 = decide (1 ≤ m0 ∧ m0 ≤ m1 ∧ m1 ≤ 16 ∧ 1 ≤ m2 ∧ m2 ≤ m1) by rw [HE.out, Bool.false_or])
      by_cases h1 : 1 ≤ m0
      · by_cases h2 : m0 ≤ m1
        · by_cases h3 : m1 ≤ 16
          · by_cases h4 : 1 ≤ m2
            · by_cases h5 : m2 ≤ m1
              all_goals
                have HY := Lib.hid h5
                go_wp2_with fail
                go_meet
                exact ⟨by rw [HX.out]; have := HY.out; simp [h1, h2, h3, h4, this], rfl⟩
            · have HY := Lib.hid h4
              go_wp2_with fail
              go_meet
              exact ⟨by rw [HX.out, decide_eq_false (show ¬ (1 ≤ m0 ∧ m0 ≤ m1 ∧ m1 ≤ 16 ∧ 1 ≤ m2 ∧ m2 ≤ m1) by have := HY.out; omega)], rfl⟩
          · have HY := Lib.hid h3
            go_wp2_with fail
            go_meet
            exact ⟨by rw [HX.out, decide_eq_false (show ¬ (1 ≤ m0 ∧ m0 ≤ m1 ∧ m1 ≤ 16 ∧ 1 ≤ m2 ∧ m2 ≤ m1) by have := HY.out; omega)], rfl⟩
        · have HY := Lib.hid h2
          go_wp2_with fail
          go_meet
          exact ⟨by rw [HX.out, decide_eq_false (show ¬ (1 ≤ m0 ∧ m0 ≤ m1 ∧ m1 ≤ 16 ∧ 1 ≤ m2 ∧ m2 ≤ m1) by have := HY.out; omega)], rfl⟩
      · have HY := Lib.hid h1
        go_wp2_with fail
        go_meet
        exact ⟨by rw [HX.out, decide_eq_false (show ¬ (1 ≤ m0 ∧ m0 ≤ m1 ∧ m1 ≤ 16 ∧ 1 ≤ m2 ∧ m2 ≤ m1) by have := HY.out; omega)], rfl⟩
  case rest =>
    obtain ⟨rfl, e7⟩ := hcut
    rw [e7]
    clear e7 eT c0 c1 c2
    have KJ := Lib.hid (show knownK jo ni = (decide (1 ≤ jo) && (decide (jo ≤ 3) && (!decide (jo = 3) || decide (ni ≤ 4)))) from rfl)
    have KS := Lib.hid (show knownK sp no = (decide (1 ≤ sp) && (decide (sp ≤ 3) && (!decide (sp = 3) || decide (no ≤ 4)))) from rfl)
    by_cases je : jo = 3
    ·
      subst je
      by_cases jn : 4 < ni
      ·
        go_wp2_with fail
        go_ret
        exact ⟨ret1b (by rw [KJ.out, KS.out]; first | (simp; done) | (simp; omega) | (cases x3 <;> simp <;> omega)), HB2.out⟩
      ·
        by_cases se : sp = 3
        ·
          subst se
          by_cases sn : 4 < no
          ·
            go_wp2_with fail
            go_ret
            exact ⟨ret1b (by rw [KJ.out, KS.out]; first | (simp; done) | (simp; omega) | (cases x3 <;> simp <;> omega)), HB2.out⟩
          ·
            by_cases a1 : 0 ≤ af
            ·
              by_cases a2 : af ≤ 65536
              ·
                go_wp2_with fail
                go_ret
                exact ⟨ret1b (by rw [KJ.out, KS.out]; first | (simp; done) | (simp; omega) | (cases x3 <;> simp <;> omega)), HB2.out⟩
              ·
                go_wp2_with fail
                go_ret
                exact ⟨ret1b (by rw [KJ.out, KS.out]; first | (simp; done) | (simp; omega) | (cases x3 <;> simp <;> omega)), HB2.out⟩
            ·
              go_wp2_with fail
              go_ret
              exact ⟨ret1b (by rw [KJ.out, KS.out]; first | (simp; done) | (simp; omega) | (cases x3 <;> simp <;> omega)), HB2.out⟩
        ·
          have sb : (sp == 3) = false := by simpa using se
          by_cases s1 : 1 ≤ sp
          ·
            by_cases s3 : sp ≤ 3
            ·
              by_cases a1 : 0 ≤ af
              ·
                by_cases a2 : af ≤ 65536
                ·
                  go_wp2_with fail
                  go_ret
                  exact ⟨ret1b (by rw [KJ.out, KS.out]; first | (simp; done) | (simp; omega) | (cases x3 <;> simp <;> omega)), HB2.out⟩
                ·
                  go_wp2_with fail
                  go_ret
                  exact ⟨ret1b (by rw [KJ.out, KS.out]; first | (simp; done) | (simp; omega) | (cases x3 <;> simp <;> omega)), HB2.out⟩
              ·
                go_wp2_with fail
                go_ret
                exact ⟨ret1b (by rw [KJ.out, KS.out]; first | (simp; done) | (simp; omega) | (cases x3 <;> simp <;> omega)), HB2.out⟩
            ·
              go_wp2_with fail
              go_ret
              exact ⟨ret1b (by rw [KJ.out, KS.out]; first | (simp; done) | (simp; omega) | (cases x3 <;> simp <;> omega)), HB2.out⟩
          ·
            go_wp2_with fail
            go_ret
            exact ⟨ret1b (by rw [KJ.out, KS.out]; first | (simp; done) | (simp; omega) | (cases x3 <;> simp <;> omega)), HB2.out⟩
    ·
      have jb : (jo == 3) = false := by simpa using je
      by_cases se : sp = 3
      ·
        subst se
        by_cases sn : 4 < no
        ·
          go_wp2_with fail
          go_ret
          exact ⟨ret1b (by rw [KJ.out, KS.out]; first | (simp; done) | (simp; omega) | (cases x3 <;> simp <;> omega)), HB2.out⟩
        ·
          by_cases j1 : 1 ≤ jo
          ·
            by_cases j3 : jo ≤ 3
            ·
              by_cases a1 : 0 ≤ af
              ·
                by_cases a2 : af ≤ 65536
                ·
                  go_wp2_with fail
                  go_ret
                  exact ⟨ret1b (by rw [KJ.out, KS.out]; first | (simp; done) | (simp; omega) | (cases x3 <;> simp <;> omega)), HB2.out⟩
                ·
                  go_wp2_with fail
                  go_ret
                  exact ⟨ret1b (by rw [KJ.out, KS.out]; first | (simp; done) | (simp; omega) | (cases x3 <;> simp <;> omega)), HB2.out⟩
              ·
                go_wp2_with fail
                go_ret
                exact ⟨ret1b (by rw [KJ.out, KS.out]; first | (simp; done) | (simp; omega) | (cases x3 <;> simp <;> omega)), HB2.out⟩
            ·
              go_wp2_with fail
              go_ret
              exact ⟨ret1b (by rw [KJ.out, KS.out]; first | (simp; done) | (simp; omega) | (cases x3 <;> simp <;> omega)), HB2.out⟩
          ·
            go_wp2_with fail
            go_ret
            exact ⟨ret1b (by rw [KJ.out, KS.out]; first | (simp; done) | (simp; omega) | (cases x3 <;> simp <;> omega)), HB2.out⟩
      ·
        have sb : (sp == 3) = false := by simpa using se
        by_cases j1 : 1 ≤ jo
        ·
          by_cases j3 : jo ≤ 3
          ·
            by_cases s1 : 1 ≤ sp
            ·
              by_cases s3 : sp ≤ 3
              ·
                by_cases a1 : 0 ≤ af
                ·
                  by_cases a2 : af ≤ 65536
                  ·
                    go_wp2_with fail
                    go_ret
                    exact ⟨ret1b (by rw [KJ.out, KS.out]; first | (simp; done) | (simp; omega) | (cases x3 <;> simp <;> omega)), HB2.out⟩
                  ·
                    go_wp2_with fail
                    go_ret
                    exact ⟨ret1b (by rw [KJ.out, KS.out]; first | (simp; done) | (simp; omega) | (cases x3 <;> simp <;> omega)), HB2.out⟩
                ·
                  go_wp2_with fail
                  go_ret
                  exact ⟨ret1b (by rw [KJ.out, KS.out]; first | (simp; done) | (simp; omega) | (cases x3 <;> simp <;> omega)), HB2.out⟩
              ·
                go_wp2_with fail
                go_ret
                exact ⟨ret1b (by rw [KJ.out, KS.out]; first | (simp; done) | (simp; omega) | (cases x3 <;> simp <;> omega)), HB2.out⟩
            ·
              go_wp2_with fail
              go_ret
              exact ⟨ret1b (by rw [KJ.out, KS.out]; first | (simp; done) | (simp; omega) | (cases x3 <;> simp <;> omega)), HB2.out⟩
          ·
            go_wp2_with fail
            go_ret
            exact ⟨ret1b (by rw [KJ.out, KS.out]; first | (simp; done) | (simp; omega) | (cases x3 <;> simp <;> omega)), HB2.out⟩
        ·
          go_wp2_with fail
          go_ret
          exact ⟨ret1b (by rw [KJ.out, KS.out]; first | (simp; done) | (simp; omega) | (cases x3 <;> simp <;> omega)), HB2.out⟩
end Go.Proofs.YtaeeblceedklnaaGreatDoor
namespace Go.Proofs.YtaeeblceedklnaaGreatDoor
open Go.RowKit
/-- Where the first wrong colour stands; below 0: none. -/
def colsR (L : List Col) : Int := if (colsE L).2 = 0 then -1 else (colsE L).1
theorem each_at {f : Nat → Int} {n k : Nat} (hk : k < n) (h : ∀ j, j < k → f j = 0) (he : f k ≠ 0) : eachE f n = ((k : Int), f k) := by
  have key : ∀ r p, (∀ j, p ≤ j → j < p + r → f j = 0) → ∀ m, seekE f p (r + m) = seekE f (p + r) m := by
    intro r
    induction r with
    | zero => intro p _ m; rw [Nat.zero_add, Nat.add_zero]
    | succ r ih =>
      intro p hp m
      rw [show r + 1 + m = (r + m) + 1 by omega, seekE_ok (hp p (Nat.le_refl _) (by omega)), ih (p + 1) (fun j h1 h2 => hp j (by omega) (by omega)) m]
      congr 1
      omega
  unfold eachE
  rw [show n = k + ((n - k - 1) + 1) by omega, key k 0 (fun j _ hj => h j (by omega)), Nat.zero_add, seekE_no he]
theorem colourE_ok {L : List Col} {k : Nat} (h : colourB L k = true) : colourE L k = 0 := by unfold colourE; rw [if_pos h]
theorem colourE_no {L : List Col} {k : Nat} (h : colourB L k = false) : colourE L k = 8 := by unfold colourE; rw [if_neg (by rw [h]; decide)]
theorem all_at {l : List ByteArray} : l.all freeB = true ↔ ∀ a, a < l.length → freeB (l.getD a ByteArray.empty) = true := by
  rw [List.all_eq_true]
  constructor
  · intro h a ha
    rw [List.getD, List.getElem?_eq_getElem ha]
    exact h _ (List.getElem_mem ha)
  · intro h x hx
    obtain ⟨a, ha, rfl⟩ := List.mem_iff_getElem.1 hx
    have := h a ha
    rw [List.getD, List.getElem?_eq_getElem ha] at this
    exact this
section
variable {A1 A2 A3 : Option Addr} {n1 c1 n2 c2 n3 c3 : Nat} {N : Nt}
set_option maxRecDepth 100000 in
set_option maxHeartbeats 8000000 in
theorem rf_colours (w : World) (hN : Hid (NetAt w A1 n1 c1 A2 n2 c2 A3 n3 c3 N)) :
    Calls Tryz.prog 37 #[netV A1 n1 c1 A2 n2 c2 A3 n3 c3 N.from_ N.to_] w fun e w' => e = .returned (.int .i64 (colsR N.cols)) ∧ Below w.heap.size w w' := by
  have hn1 := Nat.le_trans hN.out.cols.1 hN.out.cols.2.1
  have hn2 := Nat.le_trans hN.out.pls.1 hN.out.pls.2.1
  have HLC := Lib.hid hN.out.cols.2.2.1
  have HLP := Lib.hid hN.out.pls.2.2.1
  obtain ⟨w1, hw1⟩ : ∃ x, x = w.alloc (.cells #[.slice A1 n1 c1, .slice A2 n2 c2, .slice A3 n3 c3, .int .i64 N.from_, .int .i64 N.to_] 26) := ⟨_, rfl⟩
  have HB1 := Lib.hid (show Below w.heap.size w w1 by rw [hw1]; exact alr w _)
  have NB1 := Lib.hid (show NBox w1 w.heap.size A1 n1 c1 A2 n2 c2 A3 n3 c3 N.from_ N.to_ by rw [hw1]; exact NBox.new w A1 n1 c1 A2 n2 c2 A3 n3 c3 N.from_ N.to_ 26)
  have HW := Lib.hid hw1.symm
  clear hw1
  have hc1 : n1 ≤ c1 := hN.out.cols.1
  have hc9 : c1 ≤ 9223372036854775807 := hN.out.cols.2.1
  have HEA := Lib.hid (show ∀ k, k < n1 → (∀ j, j < k → colourE N.cols j = 0) → colourB N.cols k = false → colsR N.cols = (k : Int) by
    intro k hk hno hb
    have h8 := colourE_no hb
    unfold colsR colsE
    rw [HLC.out, each_at hk hno (by rw [h8]; decide), h8]
    rfl)
  have HEN := Lib.hid (show (∀ j, j < n1 → colourE N.cols j = 0) → colsR N.cols = -1 by
    intro hno
    unfold colsR colsE
    rw [HLC.out, if_pos (eachE_zero.2 hno)])
  go_enter Tryz.func37, Tryz.ntmps37
  go_upto_region 1 with fail
  rw [HW.out]
  go_wp2_with fail
  go_loopw [3] (fun v3 wx => ∃ (k : Nat), k ≤ n1 ∧ v3 = .int .i64 (k : Int) ∧ Hid (Below w1.heap.size w1 wx) ∧ Hid (∀ j, j < k → colourE N.cols j = 0)) (fun v3 _ => n1 - (intOf v3).toNat)
  case atStart => exact ⟨0, by omega, rfl, Lib.hid (Below.refl _ _), Lib.hid fun j hj => absurd hj (Nat.not_lt_zero _)⟩
  case round =>
    obtain ⟨k, hk, rfl, hB, hno⟩ := hrel
    have HBW := Lib.hid (below_then HB1.out hB.out)
    have x0 := (NB1.out.below hB.out).c0
    by_cases hkt : k < n1
    · obtain ⟨b, off, rfl, N', nn, nd, hA⟩ := hN.out.cols.at_ hkt
      obtain ⟨q, hq⟩ : ∃ q, q = N.cols.getD k default := ⟨_, rfl⟩
      rw [← hq] at hA
      have HA := Lib.hid hA
      have HQ := Lib.hid hq
      have HNL := Lib.hid hA.len
      have cR := rf_Right (some ⟨b, off, none⟩) (k + 1) c1 (N.cols.take (k + 1)) wr (Lib.hid ((hN.out.cols.below HBW.out).take (k := k + 1) (by omega)))
      have cF := fun W => rf_free q.name W
      obtain ⟨f1, hf1⟩ : ∃ y, y = (sizesF (N.cols.take (k + 1))).isSome := ⟨_, rfl⟩
      obtain ⟨f2, hf2⟩ : ∃ y, y = freeB q.name := ⟨_, rfl⟩
      have HBK := Lib.hid (show colourB N.cols k = (f1 && (f2 && (!decide (q.kind = 2) || q.names.all freeB))) by unfold colourB; rw [hf1, hf2, ← hq])
      rw [← hf1] at cR
      rw [← hf2] at cF
      have CR := Lib.hid cR
      have CF := Lib.hid cF
      have d1 : IntKind.i64.wrap ((k : Int) + 1) = ((k + 1 : Nat) : Int) := by rw [show (k : Int) + 1 = ((k + 1 : Nat) : Int) by omega]; exact IntWalk.i64_in _ (by omega)
      have k1 : (k : Int) < (n1 : Int) := by omega
      have k0 : (0 : Int) ≤ (k : Int) := by omega
      have k2 : (0 : Int) ≤ ((k + 1 : Nat) : Int) := by omega
      have k3 : ((k + 1 : Nat) : Int) ≤ (c1 : Int) := by omega
      have k4 : k + 1 ≤ c1 := by omega
      have k5 : (0 : Int) ≤ (k : Int) + 1 := by omega
      have k6 : (k : Int) + 1 ≤ (c1 : Int) := by omega
      clear hA hq hf1 hf2 cR cF
      go_upto_region 4 with fail
      go_cut [4] (fun s4 wx => s4 = .bool (f1 && f2) ∧ Hid (Below wr.heap.size wr wx))
      case first =>
        cases f1 with
        | false =>
          go_wp2_with fail
          refine CR.out.mono ?_
          rintro e z1 ⟨rfl, hb⟩
          have BD1 := Lib.hid hb
          clear hb
          go_wp2_with fail
          go_meet
          exact ⟨rfl, BD1⟩
        | true =>
          go_wp2_with fail
          refine CR.out.mono ?_
          rintro e z1 ⟨rfl, hb⟩
          have BD1 := Lib.hid hb
          have y0 := cell_kept hb x0
          have e0 := cell_kept (below_then HBW.out hb) HA.out.c0
          clear hb
          go_wp2_with fail
          refine (CF.out z1).mono ?_
          rintro e z2 ⟨rfl, hb⟩
          have BD2 := Lib.hid (below_then BD1.out hb)
          clear hb
          go_wp2_with fail
          go_meet
          exact ⟨rfl, BD2⟩
      case rest =>
        obtain ⟨rfl, hBc⟩ := hcut
        obtain ⟨f, hf⟩ : ∃ y, y = (f1 && f2) := ⟨_, rfl⟩
        have HBK2 := Lib.hid (show colourB N.cols k = (f && (!decide (q.kind = 2) || q.names.all freeB)) by rw [HBK.out, hf, Bool.and_assoc])
        rw [← hf]
        have HB1c := Lib.hid (below_then hB.out hBc.out)
        obtain ⟨hnl, hnn⟩ := HNL.out
        have HNL2 := Lib.hid hnl
        clear hf hnl x0 CR CF HBK d1 k2 k3 k4 k5 k6
        have HBAD := Lib.hid (fun h : colourB N.cols k = false => HEA.out k hkt hno.out h)
        have HNX := Lib.hid (fun h : colourB N.cols k = true => (show ∀ j, j < k + 1 → colourE N.cols j = 0 by
          intro j hj
          by_cases e : j = k
          · rw [e]; exact colourE_ok h
          · exact hno.out j (by omega)))
        go_wp2_with fail
        go_loopw [4, 5] (fun v4 v5 wx => ∃ (i : Nat) (y : Bool), i ≤ nn ∧ v5 = .int .i64 (i : Int) ∧ v4 = .bool y ∧ Hid (y = true ↔ (f = true ∧ ∀ a, a < i → freeB (q.names.getD a ByteArray.empty) = true)) ∧ Hid (q.kind ≠ 2 → i = 0) ∧ Hid (Below w1.heap.size w1 wx)) (fun _ v5 _ => nn - (intOf v5).toNat)
        case atStart => exact ⟨0, f, by omega, rfl, rfl, Lib.hid ⟨fun h => ⟨h, fun a ha => absurd ha (Nat.not_lt_zero _)⟩, fun h => h.1⟩, Lib.hid (fun _ => rfl), HB1c⟩
        case round =>
          obtain ⟨i, y, hi, rfl, rfl, hy, hz, hB4⟩ := hrel
          have HBX := Lib.hid (below_then HB1.out hB4.out)
          have x0 := (NB1.out.below hB4.out).c0
          have e1 := cell_kept HBX.out HA.out.c1
          have e4 := cell_kept HBX.out HA.out.c4
          by_cases hk2 : q.kind = 2
          · have kb : (q.kind == 2) = true := by simpa using hk2
            by_cases hit : i < nn
            · obtain ⟨bn, on, rfl, en0⟩ := HA.out.names.str_at hit
              have en := cell_kept HBX.out en0
              obtain ⟨z, hz2⟩ : ∃ z, z = q.names.getD i ByteArray.empty := ⟨_, rfl⟩
              rw [← hz2] at en
              have HZ := Lib.hid hz2
              have cF := fun W => rf_free z W
              obtain ⟨g, hg⟩ : ∃ y, y = freeB z := ⟨_, rfl⟩
              rw [← hg] at cF
              have CF := Lib.hid cF
              have HG := Lib.hid hg
              have HRR := Lib.hid (show ∀ v : Bool, v = (y && g) → (v = true ↔ (f = true ∧ ∀ a, a < i + 1 → freeB (q.names.getD a ByteArray.empty) = true)) by
                intro v hv
                rw [hv, Bool.and_eq_true, hy.out, HG.out, HZ.out]
                constructor
                · rintro ⟨⟨g1, g2⟩, g3⟩
                  refine ⟨g1, fun a ha => ?_⟩
                  by_cases e : a = i
                  · rw [e]; exact g3
                  · exact g2 a (by omega)
                · rintro ⟨g1, g2⟩
                  exact ⟨⟨g1, fun a ha => g2 a (by omega)⟩, g2 i (by omega)⟩)
              have HK2 := Lib.hid hk2
              have i1 : (i : Int) < (nn : Int) := by omega
              have i0 : (0 : Int) ≤ (i : Int) := by omega
              clear hz2 hg cF en0 hk2 hy
              cases y with
              | false =>
                go_wp2
                go_roundw
                case rel => exact ⟨i + 1, false, by omega, by go_num, rfl, Lib.hid (HRR.out _ rfl), Lib.hid (fun h => absurd HK2.out h), hB4⟩
                case measure => simp [intOf]; omega
              | true =>
                go_wp2_with fail
                refine (CF.out _).mono ?_
                rintro e z2 ⟨rfl, hb⟩
                have HB5 := Lib.hid (below_then hB4.out hb)
                clear hb x0 e1 e4 en
                go_wp2
                go_roundw
                case rel => exact ⟨i + 1, _, by omega, by go_num, rfl, Lib.hid (HRR.out _ (by simp)), Lib.hid (fun h => absurd HK2.out h), HB5⟩
                case measure => simp [intOf]; omega
            · have ei : i = nn := by omega
              have HBY := Lib.hid (show colourB N.cols k = y by
                rw [HBK2.out, Bool.eq_iff_iff, hy.out, Bool.and_eq_true, decide_eq_true hk2, Bool.not_true, Bool.false_or, all_at, HNL2.out, ei])
              clear hk2
              subst ei
              cases y with
              | false =>
                have HR := Lib.hid (HBAD.out HBY.out)
                go_wp2
                go_ret
                exact ⟨ret1 HR.out.symm, HBX.out⟩
              | true =>
                have HR := Lib.hid (HNX.out HBY.out)
                go_wp2
                go_roundw
                case rel => exact ⟨k + 1, by omega, by go_num, hB4, HR⟩
                case measure => simp [intOf]; omega
          · have kb : (q.kind == 2) = false := by simpa using hk2
            have ei0 := hz.out hk2
            subst ei0
            have HBY := Lib.hid (show colourB N.cols k = y by
              rw [HBK2.out, Bool.eq_iff_iff, hy.out, Bool.and_eq_true, decide_eq_false hk2, Bool.not_false, Bool.true_or]
              exact ⟨fun h => ⟨h.1, fun a ha => absurd ha (Nat.not_lt_zero _)⟩, fun h => ⟨h.1, rfl⟩⟩)
            clear hk2
            by_cases hn0 : 0 < nn
            · have hn1' : (0 : Int) < (nn : Int) := by omega
              cases y with
              | false =>
                have HR := Lib.hid (HBAD.out HBY.out)
                go_wp2
                go_ret
                exact ⟨ret1 HR.out.symm, HBX.out⟩
              | true =>
                have HR := Lib.hid (HNX.out HBY.out)
                go_wp2
                go_roundw
                case rel => exact ⟨k + 1, by omega, by go_num, hB4, HR⟩
                case measure => simp [intOf]; omega
            · have hn1' : ¬ (0 : Int) < (nn : Int) := by omega
              cases y with
              | false =>
                have HR := Lib.hid (HBAD.out HBY.out)
                go_wp2
                go_ret
                exact ⟨ret1 HR.out.symm, HBX.out⟩
              | true =>
                have HR := Lib.hid (HNX.out HBY.out)
                go_wp2
                go_roundw
                case rel => exact ⟨k + 1, by omega, by go_num, hB4, HR⟩
                case measure => simp [intOf]; omega
    · have ek : k = n1 := by omega
      subst ek
      have HR := Lib.hid (HEN.out hno.out)
      go_wp2_with fail
      go_ret
      exact ⟨ret1 HR.out.symm, HBW.out⟩
end
end Go.Proofs.YtaeeblceedklnaaGreatDoor
