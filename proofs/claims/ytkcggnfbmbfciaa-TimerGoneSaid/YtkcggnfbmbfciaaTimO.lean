/- The law TimerGone, walked. -/
import Derived.Test.YtkcggnfbmbfciaaTimN
namespace Go.Proofs.Ytkcggnfbmbfciaa
open Go.RowKit
set_option maxRecDepth 100000 in
set_option maxHeartbeats 4000000 in
theorem law_TimerGone (A : Option Addr) (n c : Nat) (L : List (Int × Int)) (id at_ : Int) (w : World) (hL : Hid (Sl w (.slice A n c) n 2 (pairCells L))) (hn : n ≤ 9223372036854775807) (hLi : Hid (∀ p ∈ L, I64 p.1 ∧ I64 p.2)) (hid : I64 id) (hat : I64 at_) :
    Calls Try.prog 3 #[.slice A n c, .int .i64 id, .int .i64 at_] w fun e w' => e = .returned (.bool true) ∧ Below w.heap.size w w' := by
  have hlen := Lib.hid (show L.length = n by have := hL.out.len; rw [pairCells_len] at this; omega)
  go_enter Try.func3, Try.ntmps3
  go_wp2_with fail
  refine (law14_small w).mono ?_
  rintro e w1 ⟨rfl, hb1⟩
  have HB1 := Lib.hid hb1
  clear hb1
  go_wp2_with fail
  refine (ql_New w w1 HB1.out).mono ?_
  rintro e w2 ⟨g, rfl, h2⟩
  have H2 := Lib.hid h2
  clear h2
  by_cases hbig : 60 < n
  · have d1 : (60 : Int) < (n : Int) := by omega
    go_wp2
    go_ret
    exact ⟨rfl, H2.out.bel⟩
  · have d1 : (n : Int) ≤ 60 := by omega
    go_wp2
    go_loopw [9] (fun v wr => ∃ (k : Nat) (up : Nat), k ≤ n ∧ v = .int .i64 (k : Int) ∧ Hid (QL w up wr g (addL (L.take k)))) (fun v _ => n - (intOf v).toNat)
    case atStart => exact ⟨0, _, by omega, rfl, H2⟩
    case round =>
      obtain ⟨k, up, hk, rfl, hQ⟩ := hrel
      by_cases hlt : k < n
      · obtain ⟨b, off, rfl, p0, p1⟩ := (hL.out.below hQ.out.bel).pair_at hlt
        have hkl : k < L.length := by rw [hlen.out]; exact hlt
        have hst := Lib.hid (addL_step hkl)
        obtain ⟨x, hx⟩ : ∃ x, x = L.getD k (0, 0) := ⟨_, rfl⟩
        have hxi : I64 x.1 ∧ I64 x.2 := by
          refine hLi.out x ?_
          rw [hx, List.getD, List.getElem?_eq_getElem hkl]
          exact List.getElem_mem hkl
        rw [← hx] at p0 p1 hst
        have hSl : (addL (L.take k)).length < 4096 := by
          have h1 := addL_len (L.take k)
          have h2 := List.length_take_le k L
          omega
        obtain ⟨S, hS⟩ : ∃ S, S = addL (L.take k) := ⟨_, rfl⟩
        rw [← hS] at hQ hSl hst
        obtain ⟨px, py⟩ := x
        simp only at p0 p1 hxi hst
        have cA := fun q => Lib.hid (ql_Add (id := px) (at_ := py) (Lib.hid (hQ.out.drewN q)) hxi.1 hSl)
        have hlt2 : (k : Int) < (n : Int) := by omega
        have hk0 : (0 : Int) ≤ (k : Int) := by omega
        clear hx hS hSl hkl hxi
        go_wp2
        go_region_with (go_at_call 10; refine (cA _).out.mono ?_; rintro e w' ⟨rfl, h1, _⟩; rw [← hst.out] at h1; have HH := Lib.hid h1; clear h1)
        all_goals
          clear cA p0 p1
          go_wp2_with fail
          go_roundw
          case rel => exact ⟨k + 1, _, by omega, by go_num, HH⟩
          case measure => simp [intOf]; omega
      · have e1 : k = n := by omega
        have e2 : L.take k = L := by rw [e1, List.take_of_length_le]; rw [hlen.out]; exact Nat.le_refl _
        rw [e2] at hQ
        clear e1 e2 hL
        have hS1 := addL_srt L
        have hS2 := addL_all (P := fun p => I64 p.1 ∧ I64 p.2) hLi.out
        have hS3 := addL_len L
        rw [hlen.out] at hS3
        obtain ⟨S, hS⟩ : ∃ S, S = addL L := ⟨_, rfl⟩
        rw [← hS] at hQ hS1 hS2 hS3
        clear hS
        have hlD := delP_le id S
        have hlen1 : hasP id S = true → (delP id S).length + 1 = S.length := delP_len hS1
        have hlen0 : hasP id S = false → (delP id S).length = S.length := fun h => by rw [delP_none h]
        obtain ⟨g1, g2, g3, g4, g5, g6, g7⟩ := gone_law hS1 hS2 id at_ hid hat
        obtain ⟨S1, hSS1⟩ : ∃ S1, S1 = delP id S := ⟨_, rfl⟩
        rw [← hSS1] at g1 g2 g3 g4 g5 g6 g7 hlD hlen1 hlen0
        obtain ⟨S2, hSS2⟩ : ∃ S2, S2 = insP (id, at_) S1 := ⟨_, rfl⟩
        have hlI : S2.length = S1.length + 1 := by rw [hSS2]; exact (insP_perm _ _).length_eq
        rw [← hSS2] at g2 g3 g4 g5 g6 g7
        have hlD2 := delP_le id S2
        have a0 : addE id S1 = 0 := by unfold addE; rw [g1]; rfl
        have a5 : addE id S2 = 5 := by unfold addE; rw [g4]; rfl
        have a6 : ∀ t, addP id t S2 = S2 := fun t => by unfold addP; rw [g4]; rfl
        obtain ⟨S3, hSS3⟩ : ∃ S3, S3 = delP id S2 := ⟨_, rfl⟩
        rw [← hSS3] at g5 g6 g7 hlD2
        have hc1 : hasP id S = true → canE id S = 0 := fun h => by unfold canE; rw [h]; rfl
        have hc0 : hasP id S = false → canE id S = 3 := fun h => by unfold canE; rw [h]; rfl
        obtain ⟨l, hl⟩ : ∃ l, l = dueP 9223372036854775807 S3 := ⟨_, rfl⟩
        rw [← hl] at g5
        have G1 := Lib.hid g1
        have G2 := Lib.hid g2
        have G3 := Lib.hid g3
        have G4 := Lib.hid g4
        have G5 := Lib.hid g5
        have G6 := Lib.hid g6
        have G7 := Lib.hid g7
        have A0 := Lib.hid a0
        have A5 := Lib.hid a5
        have A6 := Lib.hid a6
        have E1 := Lib.hid hSS1
        have E3 := Lib.hid hSS3
        have EL := Lib.hid hl
        have HL1 := Lib.hid hlen1
        have HL0 := Lib.hid hlen0
        have HC1 := Lib.hid hc1
        have HC0 := Lib.hid hc0
        have hn0 : S1.length < 4096 := by omega
        have hn1 : S2.length < 4096 := by omega
        have hn3 : S3.length < 8192 := by omega
        have hnS : S.length < 8192 := by omega
        clear g1 g2 g3 g4 g5 g6 g7 a0 a5 a6 hSS1 hSS2 hSS3 hl hlen1 hlen0 hc1 hc0 hS1 hS2 hlI hlD hlD2
        rcases hh : hasP id S with _ | _
        all_goals
          first
            | (have hsl := HL1.out hh
               have hcn := Lib.hid (HC1.out hh)
               have d2 : ((S1.length : Int) != (S.length : Int) - 1) = false := by rw [← hsl]; simp)
            | (have hsl := HL0.out hh
               have hcn := Lib.hid (HC0.out hh)
               have d2 : ((S1.length : Int) != (S.length : Int)) = false := by rw [← hsl]; simp)
          have hcs := Lib.hid hsl
          have HH := Lib.hid hh
          clear hsl hh HL1 HL0 HC1 HC0
          go_wp2_with fail
          refine (ql_Len hQ).mono ?_
          rintro e w3 ⟨rfl, rfl⟩
          go_wp2_with fail
          refine (ql_At hQ hid).mono ?_
          rintro e w3 ⟨rfl, rfl⟩
          rw [HH.out]
          go_wp2_with fail
          refine (ql_Cancel hQ hid hnS).mono ?_
          rintro e w3 ⟨rfl, h3, _⟩
          rw [← E1.out] at h3
          have H3 := Lib.hid h3
          rw [hcn.out]
          clear h3
          go_wp2_with fail
          refine (ql_Len H3).mono ?_
          rintro e w4 ⟨rfl, rfl⟩
          go_wp2_with fail
          refine (ql_At H3 hid).mono ?_
          rintro e w4 ⟨rfl, rfl⟩
          rw [G1.out]
          go_wp2_with fail
          refine (ql_Add H3 hid hn0).mono ?_
          rintro e w4 ⟨rfl, h4, _⟩
          rw [G2.out] at h4
          have H4 := Lib.hid h4
          rw [A0.out]
          clear h4
          go_wp2_with fail
          refine (ql_At H4 hid).mono ?_
          rintro e w5 ⟨rfl, rfl⟩
          rw [G3.out, G4.out]
          go_wp2_with fail
          refine (ql_Add H4 hid hn1).mono ?_
          rintro e w5 ⟨rfl, h5, _⟩
          rw [A6.out] at h5
          have H5 := Lib.hid h5
          rw [A5.out]
          clear h5
          go_wp2_with fail
          refine (ql_Cancel H5 hid (by omega)).mono ?_
          rintro e w6 ⟨rfl, h6, _⟩
          rw [← E3.out] at h6
          have H6 := Lib.hid h6
          clear h6
          go_wp2_with fail
          refine (ql_Due H6 hn3 G7).mono ?_
          rintro e w7 ⟨B, d, rfl, hB, h7, _⟩
          rw [G6.out] at h7
          rw [← EL.out] at hB ⊢
          have hlw : l.length ≤ 9223372036854775807 := by
            obtain ⟨_, _, e1, hx1, hx2⟩ := own_form hB
            omega
          have HB := Lib.hid (Sl.of_own hB)
          have H7 := Lib.hid h7
          obtain ⟨ln, hln⟩ : ∃ ln, ln = l.length := ⟨_, rfl⟩
          have HLN := Lib.hid hln
          rw [← hln] at HB hlw ⊢
          clear hB h7 hln
          go_wp2_with fail
          go_loop [21] (fun v => ∃ k : Nat, k ≤ ln ∧ v = .int .i64 (k : Int)) (fun v => ln - (intOf v).toNat)
          case atStart => exact ⟨0, by omega, rfl⟩
          case round =>
            obtain ⟨k, hk, rfl⟩ := hrel
            by_cases hlt : k < ln
            · obtain ⟨b, off, rfl, p0⟩ := HB.out.int_at hlt
              have hlt2 : (k : Int) < (ln : Int) := by omega
              have hne : (l.getD k 0 == id) = false := by
                have hkl : k < l.length := by rw [← HLN.out]; exact hlt
                have hm : l.getD k 0 ∈ l := by rw [List.getD, List.getElem?_eq_getElem hkl]; exact List.getElem_mem hkl
                have := G5.out _ hm
                simpa using this
              obtain ⟨x, hx⟩ : ∃ x, x = l.getD k 0 := ⟨_, rfl⟩
              rw [← hx] at p0 hne
              clear hx
              go_wp2
              go_round
              case rel => exact ⟨k + 1, by omega, by go_num⟩
              case measure => simp [intOf]; omega
            · go_wp2_with fail
              refine (ql_Len H7).mono ?_
              rintro e w8 ⟨rfl, rfl⟩
              go_wp2
              go_ret
              exact ⟨rfl, H7.out.bel⟩
end Go.Proofs.Ytkcggnfbmbfciaa
