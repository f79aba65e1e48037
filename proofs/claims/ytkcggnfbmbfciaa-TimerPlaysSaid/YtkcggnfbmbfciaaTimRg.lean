/- The law TimerPlays, walked. -/
import Derived.Test.YtkcggnfbmbfciaaTimRf
import Derived.Deep.RegionHeld3
import Derived.Deep.DeepCutAuto
import Derived.Deep.CutBlock
namespace Go.Proofs.Ytkcggnfbmbfciaa
open Go.RowKit
theorem Sl.row3 {w : World} {A : Option Addr} {n c : Nat} {l : List (List Int)} (h : Sl w (.slice A n c) n 3 (rowCells l)) (hl : ∀ x ∈ l, x.length = 3) {k : Nat} (hk : k < n) :
    ∃ b off, A = some ⟨b, off, none⟩ ∧ (∀ j, j < 3 → w.cell? ⟨b, off + k * 3 + j, none⟩ = some (.int .i64 ((l.getD k []).getD j 0))) := by
  have hlen := h.len
  have hll : l.length = n := by
    have := flat_len intCells l (m := 3) (fun r hr => by rw [intCells_len]; exact hl r hr)
    unfold rowCells at hlen
    omega
  obtain ⟨b, off, e, hc⟩ := h.at_ (by omega)
  refine ⟨b, off, e, fun j hj => ?_⟩
  have hx : (l.getD k []).length = 3 := by
    rw [List.getD, List.getElem?_eq_getElem (by omega)]
    exact hl _ (List.getElem_mem _)
  have := hc (k * 3 + j) (.int .i64 ((l.getD k []).getD j 0)) (by
    unfold rowCells
    rw [flat_get intCells (by omega : 0 < 3) l (fun r hr => by rw [intCells_len]; exact hl r hr)]
    rw [show (k * 3 + j) / 3 = k by omega, show (k * 3 + j) % 3 = j by omega, List.getElem?_eq_getElem (by omega)]
    have e2 : l[k]'(by omega) = l.getD k [] := by rw [List.getD, List.getElem?_eq_getElem (by omega)]; rfl
    simp only [Option.bind_some, e2]
    rw [intCells_at (by omega)])
  rwa [← Nat.add_assoc] at this
set_option maxRecDepth 100000 in
set_option maxHeartbeats 8000000 in
theorem law_TimerPlays (A : Option Addr) (n c : Nat) (L : List (List Int)) (w : World) (hL : Hid (Sl w (.slice A n c) n 3 (rowCells L))) (hn : n ≤ 9223372036854775807) (hl3 : Hid (∀ x ∈ L, x.length = 3 ∧ ∀ y ∈ x, -9223372036854775808 ≤ y ∧ y ≤ 9223372036854775807)) (hlen : Hid (L.length = n)) :
    Calls Try.prog 7 #[.slice A n c] w fun e w' => e = .returned (.bool true) ∧ Below w.heap.size w w' := by
  go_enter Try.func7, Try.ntmps7
  go_wp2_with fail
  refine (law14_small w).mono ?_
  rintro e w1 ⟨rfl, hb1⟩
  have HB1 := Lib.hid hb1
  clear hb1
  go_wp2_with fail
  refine (tim_New w1).mono ?_
  rintro e w2 ⟨x, rfl, hx, hbx⟩
  have HX := Lib.hid hx
  have HBX := Lib.hid hbx
  clear hx hbx
  go_wp2_with fail
  refine (ref_New w2).mono ?_
  rintro e w3 ⟨rfl, hy, hby⟩
  have H3 := Lib.hid (pl_start HB1.out.size HB1.out HX.out HBX.out hy hby)
  clear hy hby HX HBX HB1
  obtain ⟨y, hyy⟩ : ∃ y, y = w2.heap.size := ⟨_, rfl⟩
  rw [← hyy] at H3 ⊢
  clear hyy
  by_cases hbig : 200 < n
  · have d1 : (200 : Int) < (n : Int) := by omega
    go_wp2
    go_ret
    exact ⟨rfl, H3.out.bel⟩
  · have d1 : (n : Int) ≤ 200 := by omega
    have d2 : n ≤ 200 := by omega
    go_wp2_with fail
    go_loopg [6] n (fun m v6 wr => ∃ (k : Nat) (ox : Nat → Prop) (B : Option Addr) (d : Nat) (S : List (Int × Int)), k ≤ n ∧ m = n - k ∧ v6 = .int .i64 (k : Int) ∧ Hid (Pl0 w wr x y ox B d S S) ∧ Hid (Sp S k))
    case atStart => exact ⟨0, _, none, 0, [], by omega, by omega, rfl, H3.out, ⟨⟨List.Pairwise.nil, List.nodup_nil⟩, (fun p hp => by cases hp), Nat.le_refl _⟩⟩
    case round =>
      obtain ⟨k, ox, B, d, S, hk, rfl, rfl, hP, hS⟩ := hrel
      by_cases hlt : k < n
      · obtain ⟨b, off, rfl, hrow⟩ := hL.out.row3 (fun x hx => (hl3.out x hx).1) hlt
        have hrw : ∀ j, j < 3 → wr.cell? ⟨b, off + k * 3 + j, none⟩ = some (.int .i64 ((L.getD k []).getD j 0)) := fun j hj => cell_kept hP.out.bel (hrow j hj)
        obtain ⟨r, hr⟩ : ∃ r, r = L.getD k [] := ⟨_, rfl⟩
        have hri : I64 (r.getD 1 0) := by
          have hx := hl3.out r (by rw [hr, List.getD, List.getElem?_eq_getElem (by rw [hlen.out]; exact hlt)]; exact List.getElem_mem _)
          refine hx.2 _ ?_
          rw [List.getD, List.getElem?_eq_getElem (by omega)]
          exact List.getElem_mem _
        rw [← hr] at hrw
        have c0 := hrw 0 (by omega)
        have c1 := hrw 1 (by omega)
        have c2 := hrw 2 (by omega)
        obtain ⟨s0, hs0⟩ : ∃ z, z = r.getD 0 0 := ⟨_, rfl⟩
        obtain ⟨s1, hs1⟩ : ∃ z, z = r.getD 1 0 := ⟨_, rfl⟩
        obtain ⟨s2, hs2⟩ : ∃ z, z = r.getD 2 0 := ⟨_, rfl⟩
        rw [← hs0, Nat.add_zero] at c0
        rw [← hs1] at c1 hri
        rw [← hs2] at c2
        have hlt2 : (k : Int) < (n : Int) := by omega
        have hk0 : (0 : Int) ≤ (k : Int) := by omega
        have HS0 := Lib.hid (hP.out.step #[.int .i64 s0, .int .i64 s1, .int .i64 s2])
        clear hrw hrow hr hs0 hs1 hs2
        go_upto_region 10 with fail
        generalize hW : wr.alloc _ = w4 at HS0 ⊢
        generalize hG : wr.heap.size = g at HS0 ⊢
        clear hW hG c0 c1 c2 hP
        obtain ⟨z0, z1, z2⟩ := HS0.out.cell
        go_upto_block 2 with fail
        generalize bits BinOp.and IntKind.i64 s0 3 = e0
        have hS2 := hS.out.2.2
        have hSS := Lib.hid hS.out.1
        have hSi := Lib.hid hS.out.2.1
        have hSl : S.length < 4096 := by omega
        have hSl8 : S.length < 8192 := by omega
        go_cut [8] (fun s8 wx => s8 = .bool true ∧ ∃ (ox' : Nat → Prop) (B' : Option Addr) (d' : Nat) (S' : List (Int × Int)), Hid (Pl w wx x y g #[.int .i64 s0, .int .i64 s1, .int .i64 s2] ox' B' d' S' S') ∧ Hid (Sp S' (k + 1)))
        case first =>
          by_cases e1 : e0 = 0 ∨ e0 = 1
          · have cX := fun q => Lib.hid (pl_AddX (id := s1) (at_ := s2) (Lib.hid (HS0.out.drewN q)) hri hSl)
            rcases e1 with rfl | rfl
            all_goals
              go_wp2
              go_region_held3 (fun W => W.cell? ⟨g, 1, none⟩ = some (.int .i64 s1) ∧ W.cell? ⟨g, 2, none⟩ = some (.int .i64 s2))
                (first | exact H6.out.cell.2 | exact H5.out.cell.2 | exact ⟨z1, z2⟩)
                (first
                  | (go_at_call 10; refine (cX _).out.mono ?_; rintro e w5 ⟨rfl, ox5, h5⟩; have H5 := Lib.hid h5; clear h5)
                  | (go_at_call 20; refine (pl_AddY H5 hSl).mono ?_; rintro e w6 ⟨rfl, B6, d6, h6⟩; have H6 := Lib.hid h6; clear h6))
              all_goals
                go_wp2
                go_meet
                exact ⟨rfl, _, _, _, _, H6, sp_add hS.out hri⟩
          · obtain ⟨n0, n1⟩ : e0 ≠ 0 ∧ e0 ≠ 1 := ⟨fun h => e1 (.inl h), fun h => e1 (.inr h)⟩
            have b0 : (e0 == 0) = false := by simpa using n0
            have b1 : (e0 == 1) = false := by simpa using n1
            clear e1 n0 n1
            by_cases e2 : e0 = 2
            · subst e2
              have cX := fun q => Lib.hid (pl_CancelX (id := s1) (Lib.hid (HS0.out.drewN q)) hri hSl8)
              go_wp2
              go_region_held3 (fun W => W.cell? ⟨g, 1, none⟩ = some (.int .i64 s1))
                (first | exact H6.out.cell.2.1 | exact H5.out.cell.2.1 | exact z1)
                (first
                  | (go_at_call 13; refine (cX _).out.mono ?_; rintro e w5 ⟨rfl, h5⟩; have H5 := Lib.hid h5; clear h5)
                  | (go_at_call 21; refine (pl_CancelY H5 hSS hSl8).mono ?_; rintro e w6 ⟨rfl, B6, d6, h6⟩; have H6 := Lib.hid h6; clear h6))
              all_goals
                go_wp2
                go_meet
                exact ⟨rfl, _, _, _, _, H6, sp_del hS.out⟩
            · by_cases e3 : e0 = 3
              · subst e3
                have cX := fun q => Lib.hid (pl_DueX (now := s2) (Lib.hid (HS0.out.drewN q)) hSl8 hSi)
                have hDF := due_len s2 S
                obtain ⟨D, hD⟩ : ∃ D, D = dueP s2 S := ⟨_, rfl⟩
                rw [← hD] at hDF
                have hDl : D.length ≤ 9223372036854775807 := by omega
                have HD := Lib.hid hD
                clear hD hDF
                go_wp2
                go_region_held3 (fun W => W.cell? ⟨g, 2, none⟩ = some (.int .i64 s2))
                  (first | exact H7.out.cell.2.2 | exact H6.out.cell.2.2 | exact H5.out.cell.2.2 | exact z2)
                  (first
                    | (go_at_call 14; refine (cX _).out.mono ?_; rintro e w5 ⟨B5, d5, rfl, h5, H5, hy5⟩; rw [← HD.out] at h5 ⊢)
                    | (go_at_call 22; refine (pl_DueY H5 hSl8 h5 hy5).mono ?_; rintro e w6 ⟨B6, d6, rfl, h6, h65, A6, c6, H6⟩; rw [← HD.out] at h6 ⊢)
                    | (go_at_call 18; refine (ref_Ints B5 B6 D.length D.length d5 d6 D D w6 h65 h6 hDl hDl).mono ?_; rintro e w7 ⟨rfl, q7, rfl⟩; have H7 := Lib.hid (H6.out.drewN q7)))
                all_goals
                  have dD : decide (D = D) = true := by simp
                  go_wp2
                  go_meet
                  exact ⟨rfl, _, _, _, _, H7, sp_left hS.out⟩
              · have b2 : (e0 == 2) = false := by simpa using e2
                have b3 : (e0 == 3) = false := by simpa using e3
                clear e2 e3
                go_wp2
                go_meet
                exact ⟨rfl, _, _, _, _, HS0, sp_same hS.out⟩
        case rest =>
          obtain ⟨rfl, ox', B', d', S', hP', hS'⟩ := hcut
          have hTl := hS'.out.2.2
          have hTs := Lib.hid hS'.out.1
          have hT4 : S'.length ≤ 4096 := by omega
          have hT9 : S'.length ≤ 9223372036854775806 := by omega
          have hT8 : S'.length < 8192 := by omega
          obtain ⟨y0, y1, _⟩ := hP'.out.cell
          clear HS0 hS hSS hSi hSl hSl8 hS2 z0 z1 z2 y0
          go_wp2_with fail
          refine (tim_Next x ox' S' wc (Lib.hid hP'.out.qx)).mono ?_
          rintro e w5 ⟨rfl, q5, rfl⟩
          have H5 := Lib.hid (hP'.out.drewN q5)
          go_wp2_with fail
          refine (ref_Next y w.heap.size d' B' S' _ (Lib.hid H5.out.qy) hT9).mono ?_
          rintro e w6 ⟨rfl, q6, rfl⟩
          have H6 := Lib.hid (hP'.out.drewN (q5 + q6))
          have y6 := H6.out.cell.2.1
          go_wp2_with fail
          refine (tim_At x ox' S' s1 _ (Lib.hid H6.out.qx) hri).mono ?_
          rintro e w7 ⟨rfl, rfl⟩
          go_wp2_with fail
          refine (ref_At y w.heap.size d' B' S' s1 _ (Lib.hid H6.out.qy) hTs hT9).mono ?_
          rintro e w8 ⟨rfl, rfl⟩
          generalize wc.drewN (q5 + q6) = wd at H6 y6 ⊢
          generalize (S'.head?.map (·.1)).getD 0 = na
          generalize (S'.head?.map (·.2)).getD 0 = nb
          generalize (!S'.isEmpty) = nc
          generalize atP s1 S' = nd
          generalize hasP s1 S' = ne
          have yq := H6.out.qy.cell
          have cA := fun q => Lib.hid (pl_All (Lib.hid (H6.out.drewN q)) hT8)
          have dS : decide (S' = S') = true := by simp
          clear y6 H5 hP'
          go_wp2_with fail
          go_region_held3 (fun W => W.cell? ⟨y, 0, none⟩ = some (.slice B' S'.length d'))
            (first | exact H9.out.qy.cell | exact H8.out.qy.cell | exact yq)
            (first
              | (go_at_call 11; refine (tim_QLen x ox' S' _ (Lib.hid (H6.out.drewN 1).qx)).mono ?_; rintro e w7 ⟨rfl, rfl⟩)
              | (go_at_call 15; refine (cA _).out.mono ?_; rintro e w8 ⟨B8, d8, rfl, h8, H8⟩)
              | (go_at_call 17; refine (ref_Pairs B8 B' S'.length S'.length d8 d' S' S' w8 h8 (Lib.hid (Sl.of_own H8.out.qy.row)) (by omega) (by omega)).mono ?_; rintro e w9 ⟨rfl, q9, rfl⟩; have H9 := Lib.hid (H8.out.drewN q9)))
          all_goals
            go_wp2
            go_roundg (n - (k + 1))
            case measure => omega
            case rel => exact ⟨k + 1, ox', B', d', S', by omega, rfl, by go_num, H9.out.base, hS'.out⟩
      · go_wp2
        go_ret
        exact ⟨rfl, hP.out.bel⟩
end Go.Proofs.Ytkcggnfbmbfciaa
