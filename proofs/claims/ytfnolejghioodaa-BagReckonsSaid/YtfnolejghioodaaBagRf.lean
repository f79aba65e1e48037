/- The document's answer of layer 03: Less. -/
import Derived.Test.YtfnolejghioodaaBagRe0
namespace Go.Proofs.Ytfnolejghioodaa
open Go.RowKit
def RLessP (a b : Row) (w : World) (e : Ending) (w' : World) : Prop :=
  Below w.heap.size w w' ∧ (((rightB a && rightB b) = false ∧ e = .returned (.tuple #[.slice none 0 0, .int .i64 1])) ∨
    ((rightB a && rightB b) = true ∧ inM b (getM a) = false ∧ e = .returned (.tuple #[.slice none 0 0, .int .i64 10])) ∨
    ((rightB a && rightB b) = true ∧ inM b (getM a) = true ∧ ∃ v, e = .returned (.tuple #[v, .int .i64 0]) ∧ RefBag (lessG a b) (a.length + b.length) w v w'))
set_option maxRecDepth 100000 in
set_option maxHeartbeats 4000000 in
theorem ref_Less (A : Option Addr) (n c : Nat) (l : Row) (A2 : Option Addr) (n2 c2 : Nat) (l2 : Row) (w : World) (hA : Hid (Sl w (.slice A n c) n 2 (pairCells l))) (hA2 : Hid (Sl w (.slice A2 n2 c2) n2 2 (pairCells l2))) (hmax : n < 100000000) (hmax2 : n2 < 100000000) :
    Calls Try.prog 25 #[.slice A n c, .slice A2 n2 c2] w (RLessP l l2 w) := by
  have hl := Lib.hid (show l.length = n by have := hA.out.len; rw [pairCells_len] at this; omega)
  have hl2 := Lib.hid (show l2.length = n2 by have := hA2.out.len; rw [pairCells_len] at this; omega)
  obtain ⟨r1, h1⟩ : ∃ r, rightB l = r := ⟨_, rfl⟩
  obtain ⟨r2, h2⟩ : ∃ r, rightB l2 = r := ⟨_, rfl⟩
  have HR1 := Lib.hid h1
  have HR2 := Lib.hid h2
  have c1 := fun q => Lib.hid (ref_Right A n c l (w.drewN q) hA)
  have c3 := fun q => Lib.hid (ref_Right A2 n2 c2 l2 (w.drewN q) hA2)
  rw [h1] at c1
  rw [h2] at c3
  clear h1 h2
  cases r1 with
  | false =>
    go_enter Try.func25, Try.ntmps25
    go_wp2_with fail
    refine (c1 0).out.mono ?_
    rintro e w1 ⟨rfl, q, rfl⟩
    go_wp2
    go_ret2
    exact ⟨(by first | exact below_drewN' (Below.refl _ w) _ | exact below_drewN' (below_drewN' (Below.refl _ w) _) _), .inl ⟨by rw [HR1.out]; rfl, rfl⟩⟩
  | true =>
    cases r2 with
    | false =>
      go_enter Try.func25, Try.ntmps25
      go_wp2_with fail
      refine (c1 0).out.mono ?_
      rintro e w1 ⟨rfl, q, rfl⟩
      rw [drew2]
      go_wp2_with fail
      refine (c3 _).out.mono ?_
      rintro e w2 ⟨rfl, q2, rfl⟩
      go_wp2
      go_ret2
      exact ⟨(by first | exact below_drewN' (Below.refl _ w) _ | exact below_drewN' (below_drewN' (Below.refl _ w) _) _), .inl ⟨by rw [HR1.out, HR2.out]; rfl, rfl⟩⟩
    | true =>
      have ok1 := Lib.hid ((rightB_iff l).1 HR1.out)
      have ok2 := Lib.hid ((rightB_iff l2).1 HR2.out)
      have hc1 := Lib.hid (pair_cells_one l)
      have c5 := fun q => Lib.hid (ref_Within A2 n2 c2 l2 A n c l (w.drewN q) hA2 hA)
      have e5 : withR l2 l = inM l2 (getM l) := by unfold withR; rw [HR1.out, HR2.out]; rfl
      obtain ⟨R5, h5⟩ : ∃ R, inM l2 (getM l) = R := ⟨_, rfl⟩
      rw [e5, h5] at c5
      have H5 := Lib.hid h5
      clear h5 e5
      cases R5 with
      | false =>
        go_enter Try.func25, Try.ntmps25
        go_wp2_with fail
        refine (c1 0).out.mono ?_
        rintro e w1 ⟨rfl, q, rfl⟩
        rw [drew2]
        go_wp2_with fail
        refine (c3 _).out.mono ?_
        rintro e w2 ⟨rfl, q2, rfl⟩
        rw [drew2]
        go_wp2_with fail
        refine (c5 _).out.mono ?_
        rintro e w3 ⟨rfl, q3, rfl⟩
        go_wp2
        go_ret2
        exact ⟨(by first | exact below_drewN' (Below.refl _ w) _ | exact below_drewN' (below_drewN' (Below.refl _ w) _) _), .inr (.inl ⟨by rw [HR1.out, HR2.out]; rfl, H5.out, rfl⟩)⟩
      | true =>
      have hle := Lib.hid (show ∀ i, getM l2 i ≤ getM l i from fun i => by
        by_cases h0 : getM l2 i = 0
        · rw [h0]; exact (ok1.out.nonneg i).1
        · exact inM_iff.1 H5.out _ (mem_getM h0))
      go_enter Try.func25, Try.ntmps25
      go_wp2_with fail
      refine (c1 0).out.mono ?_
      rintro e w1 ⟨rfl, q, rfl⟩
      rw [drew2]
      go_wp2_with fail
      refine (c3 _).out.mono ?_
      rintro e w2 ⟨rfl, q2, rfl⟩
      rw [drew2]
      go_wp2_with fail
      refine (c5 _).out.mono ?_
      rintro e w3 ⟨rfl, q3, rfl⟩
      rw [drew2]
      clear c1 c3 c5
      obtain ⟨w1, hw1⟩ : ∃ w1, w1 = w.drewN (q + q2 + q3) := ⟨_, rfl⟩
      have HB := Lib.hid (show Below w.heap.size w w1 by rw [hw1]; exact below_drewN' (Below.refl _ w) _)
      rw [← hw1]
      have S1 := Lib.hid (hA.out.below HB.out)
      have S2 := Lib.hid (hA2.out.below HB.out)
      clear hw1
      have hown := Lib.hid (World.ownsRow_made w1 (base := w1.heap.size) (e := 39) (size := 2) #[] 0 (Nat.le_refl _) (by decide) rfl)
      have HB0 := Lib.hid ((Below.refl w1.heap.size w1).alloc (Nat.le_refl _) (.cells #[] 39))
      have hsrc := Lib.hid (S1.out.below HB0.out)
      go_wp2_with (at_builtin; refine wpList_append_sl pairs_ty rfl (.tmp 20) (.tmp 21) rfl w1.heap.size rfl (by exact hown.out) rfl (by exact hsrc.out) hc1.out (by omega) (by omega) (by simp) ?_; intro v4 w4 hown4 hg4 hat4; rw [Nat.zero_add, List.nil_append] at hown4; obtain ⟨A4, c4, rfl, _, _⟩ := own_form hown4; have HO := Lib.hid hown4; have HG := Lib.hid hg4; clear hown4 hg4 hat4)
      have HB4 := Lib.hid (show Below w1.heap.size w1 w4 from below_grown HB0.out HG.out hown.out (Nat.le_refl _) (by simp))
      clear HG hown HB0 hsrc
      go_loopw [6, 7] (fun o v wr => ∃ (k j : Nat) (A' : Option Addr) (c' : Nat) (M : Row), k ≤ n2 ∧ v = .int .i64 (k : Int) ∧ o = .slice A' j c' ∧ j ≤ n + k ∧ Hid (j = M.length) ∧ Hid (RowG M (gk (· - ·) l l2 k)) ∧ Hid (wr.ownsRow w1.heap.size 39 2 (.slice A' j c') j (pairCells M)) ∧ Hid (Below w1.heap.size w1 wr)) (fun _ v _ => n2 - (RowKit.intOf v).toNat)
      case atStart => exact ⟨0, n, A4, c4, l, by omega, rfl, rfl, by omega, hl.out.symm, (by show RowG l _; rw [gk_zero ok1.out fun x hx => by show x - 0 = x; omega]; exact ok1.out.row), HO.out, HB4.out⟩
      case round =>
        obtain ⟨k, j, A', c', M, hk, rfl, rfl, hjk, hj, hg, hO, hB⟩ := hrel
        by_cases hlt : k < n2
        · obtain ⟨b1, o1, rfl, p1, p2⟩ := S2.out.pair_at hlt
          replace p1 := cell_kept hB.out p1
          replace p2 := cell_kept hB.out p2
          obtain ⟨x, hx⟩ : ∃ x, x = l2.getD k (0, 0) := ⟨_, rfl⟩
          rw [← hx] at p1 p2
          have h0 : ∀ i, 0 ≤ gk (· - ·) l l2 k i := fun i => by have h1 := (getM_take ok2.out k i).2; have h2 := hle.out i; unfold gk; show 0 ≤ getM l i - getM (l2.take k) i; omega
          have hst := Lib.hid (fun (v : Int) (hv : v = getM l x.1 - x.2) => gk_step (h := (· - ·)) (a := l) (b := l2) ok2.out (by rw [hl2.out]; exact hlt) h0 hg.out hx hv)
          have hmem : x ∈ l2 := by rw [hx, List.getD, List.getElem?_eq_getElem (by rw [hl2.out]; exact hlt)]; exact List.getElem_mem _
          obtain ⟨x1, x2⟩ := x
          simp only at p1 p2 hst
          obtain ⟨u, hu⟩ : ∃ u, u = getM l x1 := ⟨_, rfl⟩
          obtain ⟨z, hz⟩ : ∃ z, z = u - x2 := ⟨_, rfl⟩
          have hub : 0 ≤ u ∧ u ≤ 1048576 := by rw [hu]; exact ok1.out.nonneg x1
          have hx2b : 1 ≤ x2 ∧ x2 ≤ 1048576 := (ok2.out.2 _ hmem).2
          have hcn : cntR l x1 = u := by rw [cnt_ok ok1.out, hu]
          have cC : ∀ t, Hid (Calls Try.prog 13 #[.slice A n c, .int .i64 x1] (wr.drewN t) fun e w' => e = .returned (.int .i64 u) ∧ ∃ q', w' = wr.drewN q') := fun t => by
            have h := ref_Count A n c l x1 (wr.drewN t) (Lib.hid (S1.out.below (below_drewN' hB.out t)))
            rw [hcn] at h
            exact h.mono fun e w' ⟨h1, q2, h2⟩ => ⟨h1, t + q2, by rw [h2, drew2]⟩
          have hS := Sl.of_own hO.out
          have cW : ∀ t, Hid (Calls Try.prog 36 #[.slice A' j c', .int .i64 x1, .int .i64 z] (wr.drewN t) fun e w' => ∃ A4 c4 j4 M4, e = .returned (.slice A4 j4 c4) ∧ j4 ≤ n + (k + 1) ∧ j4 = M4.length ∧ RowG M4 (gk (· - ·) l l2 (k + 1)) ∧ w'.ownsRow w1.heap.size 39 2 (.slice A4 j4 c4) j4 (pairCells M4) ∧ Below w1.heap.size w1 w') := fun t => by
            refine (ref_with A' j c' M x1 z (wr.drewN t) (Lib.hid hS) (Lib.hid hg.out.1) (by omega)).mono ?_
            rintro e w' ⟨A4, c4, j4, rfl, h1, h2, h3⟩
            have hwl := withL_len M x1 z
            rw [← hj.out] at hwl
            exact ⟨A4, c4, j4, _, rfl, by omega, h1, hst.out z (by rw [hz, hu]), own_base h2 hB.out.size, below_then (below_drewN' hB.out t) h3⟩
          have hmx : IntKind.i64.wrap (u - x2) = z := by rw [IntWalk.i64_in _ (by omega), hz]
          have hlt2 : (k : Int) < (n2 : Int) := by omega
          have hk0 : (0 : Int) ≤ (k : Int) := by omega
          clear hx h0 hst hu hz hcn hS hmem hub hx2b
          go_wp2
          go_region_with (first
            | (go_at_call 13; refine (cC _).out.mono ?_; rintro e w' ⟨rfl, q', rfl⟩)
            | (go_at_call 36; refine (cW _).out.mono ?_; rintro e w' ⟨A4, c4, j4, M4, rfl, hj4, hl4, hr4, ho4, hb4⟩; have HR4 := Lib.hid hr4; have HO4 := Lib.hid ho4; have HB5 := Lib.hid hb4; have HL4 := Lib.hid hl4; clear hr4 ho4 hb4 hl4))
          all_goals
            clear cC cW p1 p2
            go_wp2
            go_roundw
            case rel => exact ⟨k + 1, j4, A4, c4, M4, by omega, by go_num, rfl, hj4, HL4.out, HR4.out, HO4.out, HB5.out⟩
            case measure => simp [RowKit.intOf]; omega
        · go_wp2
          go_ret2
          have := hg.out
          rw [gk_end _ _ _ (by rw [hl2.out]; omega)] at this
          exact ⟨below_then HB.out hB.out, .inr (.inr ⟨by rw [HR1.out, HR2.out]; rfl, H5.out, _, rfl, A', c', j, M, rfl, hj.out, by rw [hl.out, hl2.out]; omega, this, own_base hO.out HB.out.size⟩)⟩
end Go.Proofs.Ytfnolejghioodaa
