/- The document's answer of layer 03: Most. -/
import Derived.Test.YtajcleobmgjhoaaGreatDoorBagRe0
namespace Go.Proofs.YtajcleobmgjhoaaGreatDoor
open Go.RowKit
def RMostP (a b : Row) (w : World) (e : Ending) (w' : World) : Prop :=
  Below w.heap.size w w' ∧ (((rightB a && rightB b) = false ∧ e = .returned (.slice none 0 0)) ∨
    ((rightB a && rightB b) = true ∧ ∃ v, e = .returned v ∧ RefBag (mostG a b) (a.length + b.length) w v w'))
set_option maxRecDepth 100000 in
set_option maxHeartbeats 4000000 in
theorem ref_Most (A : Option Addr) (n c : Nat) (l : Row) (A2 : Option Addr) (n2 c2 : Nat) (l2 : Row) (w : World) (hA : Hid (Sl w (.slice A n c) n 2 (pairCells l))) (hA2 : Hid (Sl w (.slice A2 n2 c2) n2 2 (pairCells l2))) (hmax : n < 100000000) (hmax2 : n2 < 100000000) :
    Calls Tryz.prog 54 #[.slice A n c, .slice A2 n2 c2] w (RMostP l l2 w) := by
  have hl := Lib.hid (show l.length = n by have := hA.out.len; rw [pairCells_len] at this; omega)
  have hl2 := Lib.hid (show l2.length = n2 by have := hA2.out.len; rw [pairCells_len] at this; omega)
  obtain ⟨r1, h1⟩ : ∃ r, rightB l = r := ⟨_, rfl⟩
  obtain ⟨r2, h2⟩ : ∃ r, rightB l2 = r := ⟨_, rfl⟩
  have HR1 := Lib.hid h1
  have HR2 := Lib.hid h2
  have c1 := fun q => Lib.hid (ref_Right A n c l (w.drewN q) hA)
  have c3 := fun q => Lib.hid (ref_Right A2 n2 c2 l2 (w.drewN q) hA2)
  rw [h1] at c1
  rw [h2] at c3
  clear h1 h2
  cases r1 with
  | false =>
    go_enter Tryz.func54, Tryz.ntmps54
    go_wp2_with fail
    refine (c1 0).out.mono ?_
    rintro e w1 ⟨rfl, q, rfl⟩
    go_wp2
    go_ret
    exact ⟨(by first | exact below_drewN' (Below.refl _ w) _ | exact below_drewN' (below_drewN' (Below.refl _ w) _) _), .inl ⟨by rw [HR1.out]; rfl, rfl⟩⟩
  | true =>
    cases r2 with
    | false =>
      go_enter Tryz.func54, Tryz.ntmps54
      go_wp2_with fail
      refine (c1 0).out.mono ?_
      rintro e w1 ⟨rfl, q, rfl⟩
      rw [drew2]
      go_wp2_with fail
      refine (c3 _).out.mono ?_
      rintro e w2 ⟨rfl, q2, rfl⟩
      go_wp2
      go_ret
      exact ⟨(by first | exact below_drewN' (Below.refl _ w) _ | exact below_drewN' (below_drewN' (Below.refl _ w) _) _), .inl ⟨by rw [HR1.out, HR2.out]; rfl, rfl⟩⟩
    | true =>
      have ok1 := Lib.hid ((rightB_iff l).1 HR1.out)
      have ok2 := Lib.hid ((rightB_iff l2).1 HR2.out)
      have hc1 := Lib.hid (pair_cells_one l)
      go_enter Tryz.func54, Tryz.ntmps54
      go_wp2_with fail
      refine (c1 0).out.mono ?_
      rintro e w1 ⟨rfl, q, rfl⟩
      rw [drew2]
      go_wp2_with fail
      refine (c3 _).out.mono ?_
      rintro e w2 ⟨rfl, q2, rfl⟩
      rw [drew2]
      clear c1 c3
      obtain ⟨w1, hw1⟩ : ∃ w1, w1 = w.drewN (q + q2) := ⟨_, rfl⟩
      have HB := Lib.hid (show Below w.heap.size w w1 by rw [hw1]; exact below_drewN' (Below.refl _ w) _)
      rw [← hw1]
      have S1 := Lib.hid (hA.out.below HB.out)
      have S2 := Lib.hid (hA2.out.below HB.out)
      clear hw1
      have hown := Lib.hid (World.ownsRow_made w1 (base := w1.heap.size) (e := 45) (size := 2) #[] 0 (Nat.le_refl _) (by decide) rfl)
      have HB0 := Lib.hid ((Below.refl w1.heap.size w1).alloc (Nat.le_refl _) (.cells #[] 45))
      have hsrc := Lib.hid (S1.out.below HB0.out)
      go_wp2_with (at_builtin; refine wpList_append_sl pairs_ty rfl (.tmp 15) (.tmp 16) rfl w1.heap.size rfl (by exact hown.out) rfl (by exact hsrc.out) hc1.out (by omega) (by omega) (by simp) ?_; intro v4 w4 hown4 hg4 hat4; rw [Nat.zero_add, List.nil_append] at hown4; obtain ⟨A4, c4, rfl, _, _⟩ := own_form hown4; have HO := Lib.hid hown4; have HG := Lib.hid hg4; clear hown4 hg4 hat4)
      have HB4 := Lib.hid (show Below w1.heap.size w1 w4 from below_grown HB0.out HG.out hown.out (Nat.le_refl _) (by simp))
      clear HG hown HB0 hsrc
      go_loopw [5, 6] (fun o v wr => ∃ (k j : Nat) (A' : Option Addr) (c' : Nat) (M : Row), k ≤ n2 ∧ v = .int .i64 (k : Int) ∧ o = .slice A' j c' ∧ j ≤ n + k ∧ Hid (j = M.length) ∧ Hid (RowG M (gk max l l2 k)) ∧ Hid (wr.ownsRow w1.heap.size 45 2 (.slice A' j c') j (pairCells M)) ∧ Hid (Below w1.heap.size w1 wr)) (fun _ v _ => n2 - (RowKit.intOf v).toNat)
      case atStart => exact ⟨0, n, A4, c4, l, by omega, rfl, rfl, by omega, hl.out.symm, (by show RowG l _; rw [gk_zero ok1.out fun x hx => by omega]; exact ok1.out.row), HO.out, HB4.out⟩
      case round =>
        obtain ⟨k, j, A', c', M, hk, rfl, rfl, hjk, hj, hg, hO, hB⟩ := hrel
        by_cases hlt : k < n2
        · obtain ⟨b1, o1, rfl, p1, p2⟩ := S2.out.pair_at hlt
          replace p1 := cell_kept hB.out p1
          replace p2 := cell_kept hB.out p2
          obtain ⟨x, hx⟩ : ∃ x, x = l2.getD k (0, 0) := ⟨_, rfl⟩
          rw [← hx] at p1 p2
          have h0 : ∀ i, 0 ≤ gk max l l2 k i := fun i => by have := (ok1.out.nonneg i).1; unfold gk; omega
          have hst := Lib.hid (fun (v : Int) (hv : v = max (getM l x.1) x.2) => gk_step (h := max) (a := l) (b := l2) ok2.out (by rw [hl2.out]; exact hlt) h0 hg.out hx hv)
          obtain ⟨x1, x2⟩ := x
          simp only at p1 p2 hst
          obtain ⟨u, hu⟩ : ∃ u, u = getM l x1 := ⟨_, rfl⟩
          obtain ⟨z, hz⟩ : ∃ z, z = max u x2 := ⟨_, rfl⟩
          have hcn : cntR l x1 = u := by rw [cnt_ok ok1.out, hu]
          have cC : ∀ t, Hid (Calls Tryz.prog 51 #[.slice A n c, .int .i64 x1] (wr.drewN t) fun e w' => e = .returned (.int .i64 u) ∧ ∃ q', w' = wr.drewN q') := fun t => by
            have h := ref_Count A n c l x1 (wr.drewN t) (Lib.hid (S1.out.below (below_drewN' hB.out t)))
            rw [hcn] at h
            exact h.mono fun e w' ⟨h1, q2, h2⟩ => ⟨h1, t + q2, by rw [h2, drew2]⟩
          have hS := Sl.of_own hO.out
          have cW : ∀ t, Hid (Calls Tryz.prog 64 #[.slice A' j c', .int .i64 x1, .int .i64 z] (wr.drewN t) fun e w' => ∃ A4 c4 j4 M4, e = .returned (.slice A4 j4 c4) ∧ j4 ≤ n + (k + 1) ∧ j4 = M4.length ∧ RowG M4 (gk max l l2 (k + 1)) ∧ w'.ownsRow w1.heap.size 45 2 (.slice A4 j4 c4) j4 (pairCells M4) ∧ Below w1.heap.size w1 w') := fun t => by
            refine (ref_with A' j c' M x1 z (wr.drewN t) (Lib.hid hS) (Lib.hid hg.out.1) (by omega)).mono ?_
            rintro e w' ⟨A4, c4, j4, rfl, h1, h2, h3⟩
            have hwl := withL_len M x1 z
            rw [← hj.out] at hwl
            exact ⟨A4, c4, j4, _, rfl, by omega, h1, hst.out z (by rw [hz, hu]), own_base h2 hB.out.size, below_then (below_drewN' hB.out t) h3⟩
          have hmx : max u x2 = z := hz.symm
          have hlt2 : (k : Int) < (n2 : Int) := by omega
          have hk0 : (0 : Int) ≤ (k : Int) := by omega
          clear hx h0 hst hu hz hcn hS
          go_wp2
          go_region_with (first
            | (go_at_call 51; refine (cC _).out.mono ?_; rintro e w' ⟨rfl, q', rfl⟩)
            | (go_at_call 64; refine (cW _).out.mono ?_; rintro e w' ⟨A4, c4, j4, M4, rfl, hj4, hl4, hr4, ho4, hb4⟩; have HR4 := Lib.hid hr4; have HO4 := Lib.hid ho4; have HB5 := Lib.hid hb4; have HL4 := Lib.hid hl4; clear hr4 ho4 hb4 hl4))
          all_goals
            clear cC cW p1 p2
            go_wp2
            go_roundw
            case rel => exact ⟨k + 1, j4, A4, c4, M4, by omega, by go_num, rfl, hj4, HL4.out, HR4.out, HO4.out, HB5.out⟩
            case measure => simp [RowKit.intOf]; omega
        · go_wp2
          go_ret
          have := hg.out
          rw [gk_end _ _ _ (by rw [hl2.out]; omega)] at this
          exact ⟨below_then HB.out hB.out, .inr ⟨by rw [HR1.out, HR2.out]; rfl, _, rfl, A', c', j, M, rfl, hj.out, by rw [hl.out, hl2.out]; omega, this, own_base hO.out HB.out.size⟩⟩
end Go.Proofs.YtajcleobmgjhoaaGreatDoor
