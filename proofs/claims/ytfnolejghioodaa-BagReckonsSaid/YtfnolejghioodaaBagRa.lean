/- The document's answer of layer 03: Of. -/
import Derived.Test.YtfnolejghioodaaBagZ
namespace Go.Proofs.Ytfnolejghioodaa
open Go.RowKit
theorem drewN_zero (w : World) : w.drewN 0 = w := rfl
set_option maxRecDepth 100000 in
set_option maxHeartbeats 2000000 in
theorem ref_Of (A : Option Addr) (n c : Nat) (l : List Int) (w : World) (hA : Hid (Sl w (.slice A n c) n 1 (intCells l))) (hmax : n < 100000000) :
    Calls Try.prog 18 #[.slice A n c] w fun e w' => ∃ A' c' j M, e = .returned (.slice A' j c') ∧ j = M.length ∧ j ≤ n ∧ RowG M (ofG l) ∧ w'.ownsRow w.heap.size 39 2 (.slice A' j c') j (pairCells M) ∧ Below w.heap.size w w' := by
  have hl := Lib.hid (show l.length = n by have := hA.out.len; rw [intCells_len] at this; omega)
  go_enter Try.func18, Try.ntmps18
  go_wp2
  go_loopw [3, 4] (fun o v wr => ∃ (k j : Nat) (A' : Option Addr) (c' : Nat) (M : Row), k ≤ n ∧ v = .int .i64 (k : Int) ∧ o = .slice A' j c' ∧ j ≤ k ∧ Hid (j = M.length) ∧ Hid (RowG M (ofG (l.take k))) ∧ Hid (wr.ownsRow w.heap.size 39 2 (.slice A' j c') j (pairCells M)) ∧ Hid (Below w.heap.size w wr)) (fun _ v _ => n - (RowKit.intOf v).toNat)
  case atStart => exact ⟨0, 0, none, 0, [], by omega, rfl, rfl, by omega, rfl, ⟨List.Pairwise.nil, fun p hp => (by cases hp), fun k hk => (by unfold ofG at hk; simp at hk; omega)⟩, World.ownsRow_nil _ _ _ _, Below.refl _ _⟩
  case round =>
    obtain ⟨k, j, A', c', M, hk, rfl, rfl, hjk, hj, hg, hO, hB⟩ := hrel
    by_cases hlt : k < n
    · obtain ⟨b1, o1, rfl, c1⟩ := hA.out.int_at hlt
      replace c1 := cell_kept hB.out c1
      obtain ⟨x, hx⟩ : ∃ x, x = l.getD k 0 := ⟨_, rfl⟩
      rw [← hx] at c1
      have hts := take_snocI (K := l) (k := k) (by rw [hl.out]; exact hlt)
      rw [← hx] at hts
      have hsn := fun i => ofG_snoc (l.take k) x i
      rw [← hts] at hsn
      obtain ⟨hok, hget⟩ := of_ok hg.out
      have hlt2 : (k : Int) < (n : Int) := by omega
      have hk0 : (0 : Int) ≤ (k : Int) := by omega
      have hS := Sl.of_own hO.out
      by_cases h0 : 0 ≤ x
      · obtain ⟨u, hu⟩ : ∃ u, u = getM M x := ⟨_, rfl⟩
        have hub := hok.nonneg x
        rw [← hu] at hub
        obtain ⟨u0, u1⟩ := hub
        obtain ⟨z, hz⟩ : ∃ z, z = min (u + 1) 1048576 := ⟨_, rfl⟩
        have hcn : cntR M x = u := by unfold cntR; rw [if_pos ((rightB_iff M).2 hok), hu]
        have cC : ∀ q, Hid (Calls Try.prog 13 #[.slice A' j c', .int .i64 x] (wr.drewN q) fun e w' => e = .returned (.int .i64 u) ∧ ∃ q', w' = wr.drewN q') := fun q => by
          have h := ref_Count A' j c' M x (wr.drewN q) (Lib.hid hS)
          rw [hcn] at h
          exact h.mono fun e w' ⟨h1, q2, h2⟩ => ⟨h1, q + q2, by rw [h2, drew2]⟩
        have cW : ∀ q, Hid (Calls Try.prog 36 #[.slice A' j c', .int .i64 x, .int .i64 z] (wr.drewN q) fun e w' => ∃ A4 c4 j4 M4, e = .returned (.slice A4 j4 c4) ∧ j4 ≤ k + 1 ∧ j4 = M4.length ∧ RowG M4 (ofG (l.take (k + 1))) ∧ w'.ownsRow w.heap.size 39 2 (.slice A4 j4 c4) j4 (pairCells M4) ∧ Below w.heap.size w w') := fun q => by
          refine (ref_with A' j c' M x z (wr.drewN q) (Lib.hid hS) (Lib.hid hok.1) (by omega)).mono ?_
          rintro e w' ⟨A4, c4, j4, rfl, h1, h2, h3⟩
          have hwl := withL_len M x z
          rw [← hj.out] at hwl
          refine ⟨A4, c4, j4, _, rfl, by omega, h1, ?_, own_base h2 hB.out.size, below_then (below_drewN' hB.out q) h3⟩
          have hrow := withL_row (b := M) (m := x) (n := z) hok.1 (fun p hp => by have := hok.2 p hp; omega)
          have e9 : (fun i => if i = x then z else getM M i) = ofG (l.take (k + 1)) := by
            funext i
            rw [hsn i]
            by_cases e : i = x
            · rw [if_pos e, if_pos ⟨e, h0⟩, hz, hu, hget]
            · rw [if_neg e, if_neg (fun h => e h.1), hget]
          rw [← e9]; exact hrow
        have hwrap : IntKind.i64.wrap (u + 1) = u + 1 := by rw [IntKind.wrap_i64]; omega
        have hmin : min (u + 1) 1048576 = z := hz.symm
        clear hx hts hsn hok hget hS hu hz hcn
        go_wp2
        go_region_with (first
          | (go_at_call 13; refine (cC _).out.mono ?_; rintro e w' ⟨rfl, q', rfl⟩)
          | (go_at_call 36; refine (cW _).out.mono ?_; rintro e w' ⟨A4, c4, j4, M4, rfl, hj4, hl4, hr4, ho4, hb4⟩; have HR4 := Lib.hid hr4; have HO4 := Lib.hid ho4; have HB4 := Lib.hid hb4; have HL4 := Lib.hid hl4; clear hr4 ho4 hb4 hl4))
        all_goals
          clear cC cW c1
          go_wp2
          go_roundw
          case rel => exact ⟨k + 1, j4, A4, c4, M4, by omega, by go_num, rfl, hj4, HL4.out, HR4.out, HO4.out, HB4.out⟩
          case measure => simp [RowKit.intOf]; omega
      · have hg2 := Lib.hid (show RowG M (ofG (l.take (k + 1))) by
          have e9 : ofG (l.take (k + 1)) = ofG (l.take k) := by
            funext i
            rw [hsn i, if_neg (fun h => h0 h.2)]
          rw [e9]; exact hg.out)
        clear hx hts hsn hok hget hS
        go_wp2
        go_roundw
        case rel => exact ⟨k + 1, j, A', c', M, by omega, by go_num, rfl, by omega, hj.out, hg2.out, hO.out, hB.out⟩
        case measure => simp [RowKit.intOf]; omega
    · go_wp2
      go_ret
      have e1 : l.take k = l := List.take_of_length_le (by rw [hl.out]; omega)
      have := hg.out
      rw [e1] at this
      exact ⟨A', c', j, M, rfl, hj.out, by omega, this, hO.out, hB.out⟩
end Go.Proofs.Ytfnolejghioodaa
