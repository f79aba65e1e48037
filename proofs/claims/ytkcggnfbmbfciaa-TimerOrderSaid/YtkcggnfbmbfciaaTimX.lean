/- The law TimerOrder, walked. -/
import Derived.Test.YtkcggnfbmbfciaaTimW
namespace Go.Proofs.Ytkcggnfbmbfciaa
open Go.RowKit
set_option maxRecDepth 100000 in
set_option maxHeartbeats 4000000 in
theorem law_TimerOrder (A : Option Addr) (n c : Nat) (L : List (Int × Int)) (now : Int) (w : World) (hL : Hid (Sl w (.slice A n c) n 2 (pairCells L))) (hn : n ≤ 9223372036854775807) (hLi : Hid (∀ p ∈ L, I64 p.1 ∧ I64 p.2)) :
    Calls Try.prog 5 #[.slice A n c, .int .i64 now] w fun e w' => e = .returned (.bool true) ∧ Below w.heap.size w w' := by
  have hlen := Lib.hid (show L.length = n by have := hL.out.len; rw [pairCells_len] at this; omega)
  go_enter Try.func5, Try.ntmps5
  go_wp2_with fail
  refine (law14_small w).mono ?_
  rintro e w1 ⟨rfl, hb1⟩
  have HB1 := Lib.hid hb1
  clear hb1
  go_wp2_with fail
  refine (tim_New w1).mono ?_
  rintro e w2 ⟨x, rfl, hx, hbx⟩
  have HX := Lib.hid (hx.mono (own' := fun k => w.heap.size ≤ k) fun k _ h => Nat.le_trans HB1.out.size h)
  have HBX := Lib.hid (below_then HB1.out hbx)
  clear hx hbx
  go_wp2_with fail
  refine (tim_New w2).mono ?_
  rintro e w3 ⟨y, rfl, hy, hby⟩
  have H3 := Lib.hid (two_start HBX.out.size HX.out HBX.out hy hby)
  clear hy hby HX
  by_cases hbig : 100 < n
  · have d1 : (100 : Int) < (n : Int) := by omega
    go_wp2
    go_ret
    exact ⟨rfl, H3.out.bel⟩
  · have d1 : (n : Int) ≤ 100 := by omega
    go_wp2
    go_loopw [8, 9] (fun v i wr => ∃ (k : Nat) (ox oy : Nat → Prop) (l : List (Int × Int)) (B : Option Addr) (d : Nat), k ≤ n ∧ i = .int .i64 (k : Int) ∧ v = .slice B l.length d ∧ Hid (Two w wr x y ox oy (addL (L.take k)) [] (.slice B l.length d) l ∧ l.Perm (addL (L.take k)))) (fun _ i _ => n - (intOf i).toNat)
    case atStart => exact ⟨0, _, _, [], none, 0, by omega, rfl, rfl, H3.out, .refl _⟩
    case round =>
      obtain ⟨k, ox, oy, l, B, d, hk, rfl, rfl, hT⟩ := hrel
      by_cases hlt : k < n
      · obtain ⟨b, off, rfl, z0, z1⟩ := hL.out.pair_at hlt
        have p0 := cell_kept hT.out.1.bel z0
        have p1 := cell_kept hT.out.1.bel z1
        have hkl : k < L.length := by rw [hlen.out]; exact hlt
        have hst := Lib.hid (addL_step hkl)
        obtain ⟨p, hp⟩ : ∃ p, p = L.getD k (0, 0) := ⟨_, rfl⟩
        have hxi : I64 p.1 ∧ I64 p.2 := by
          refine hLi.out p ?_
          rw [hp, List.getD, List.getElem?_eq_getElem hkl]
          exact List.getElem_mem hkl
        rw [← hp] at p0 p1 z0 z1 hst
        have hll := hT.out.2.length_eq
        have hSl : (addL (L.take k)).length < 4096 := by
          have h1 := addL_len (L.take k)
          have h2 := List.length_take_le k L
          omega
        have hl9 : l.length < 4096 := by omega
        have hkd : l.length ≤ d := by
          obtain ⟨_, _, e6, hx6, _⟩ := own_form hT.out.1.row
          injection e6 with _ _ e6
          omega
        obtain ⟨S, hS⟩ : ∃ S, S = addL (L.take k) := ⟨_, rfl⟩
        rw [← hS] at hT hSl hst
        obtain ⟨px, py⟩ := p
        simp only at p0 p1 z0 z1 hxi hst
        have Z0 := Lib.hid z0
        have Z1 := Lib.hid z1
        clear z0 z1
        have hT1 := Lib.hid hT.out.1
        have hT2 := Lib.hid hT.out.2
        have cA := fun q => Lib.hid (two_Add (id := px) (at_ := py) (Lib.hid (hT1.out.drewN q)) hxi.1 hSl)
        have hlt2 : (k : Int) < (n : Int) := by omega
        have hk0 : (0 : Int) ≤ (k : Int) := by omega
        obtain ⟨ln, hln⟩ : ∃ ln, ln = l.length := ⟨_, rfl⟩
        have HLN := Lib.hid hln
        rcases hh : hasP px S with _ | _
        · have he : addE px S = 0 := by unfold addE; rw [hh]; rfl
          have hpm := Lib.hid (perm_add (p := (px, py)) hT2.out hh)
          rw [he] at cA
          have hone := Lib.hid (show ∀ u ∈ [Value.int .i64 px, .int .i64 py], u.oneCell' = true by
            intro u hu
            simp only [List.mem_cons, List.not_mem_nil, or_false] at hu
            rcases hu with rfl | rfl <;> rfl)
          rw [← hln] at hl9 hkd
          rw [← hln]
          clear hp hS hSl hkl hxi hT hh he hll hln
          go_wp2
          go_region_with (go_at_call 10; refine (cA _).out.mono ?_; rintro e w' ⟨rfl, ox', h1⟩; have HH := Lib.hid h1; clear h1)
          all_goals
            clear cA p0 p1
            have c0 := cell_kept HH.out.bel Z0.out
            have c1 := cell_kept HH.out.bel Z1.out
            have hrow := HH.out.row
            rw [← HLN.out] at hrow
            have HR := Lib.hid hrow
            have hsz := HH.out.bel.size
            clear hrow
            go_wp2_with (at_builtin; refine wpList_append_sl pairs_ty rfl (.tmp 54) (.tmp 59) rfl w.heap.size rfl (by exact (HR.out.alloc _)) rfl (by exact Sl.new _ _ [Value.int .i64 px, .int .i64 py] 1 2 rfl (by omega)) hone.out (by omega) (by omega) (by simp; omega) ?_; intro v4 w4 hown4 hg4 hat4; obtain ⟨A4, c4, rfl, _, _⟩ := own_form hown4; have HG := Lib.hid (HH.out.app (v4 := .slice A4 (ln + 1) c4) (p := (px, py)) (by rw [← HLN.out]; exact hown4) (by rw [← HLN.out]; exact hg4) (by rw [← HLN.out]; rcases hat4 with h | h; exact .inl h; right; rw [h]; simp)); clear hown4 hg4 hat4 c0 c1)
            go_roundw
            case rel => exact ⟨k + 1, ox', oy, l ++ [(px, py)], A4, c4, by omega, by go_num, by rw [List.length_append, ← HLN.out]; rfl, by rw [hst.out, List.length_append, ← HLN.out]; exact ⟨HG.out, hpm.out⟩⟩
            case measure => simp [intOf]; omega
        · have he : addE px S = 5 := by unfold addE; rw [hh]; rfl
          have hs : addP px py S = S := by unfold addP; rw [hh]; rfl
          rw [he, hs] at cA
          rw [hs] at hst
          clear hp hS hSl hkl hxi hT hh he hs hll hln
          go_wp2
          go_region_with (go_at_call 10; refine (cA _).out.mono ?_; rintro e w' ⟨rfl, ox', h1⟩; have HH := Lib.hid h1; clear h1)
          all_goals
            clear cA p0 p1
            go_wp2_with fail
            go_roundw
            case rel => exact ⟨k + 1, ox', oy, l, B, d, by omega, by go_num, rfl, by rw [hst.out]; exact ⟨HH.out, hT2.out⟩⟩
            case measure => simp [intOf]; omega
      · have e1 : k = n := by omega
        have e2 : L.take k = L := by rw [e1, List.take_of_length_le]; rw [hlen.out]; exact Nat.le_refl _
        rw [e2] at hT
        clear e1 e2 hL
        have hS1 := addL_srt L
        have hS2 := addL_all (P := fun p => I64 p.1 ∧ I64 p.2) hLi.out
        have hS3 := addL_len L
        rw [hlen.out] at hS3
        obtain ⟨S, hS⟩ : ∃ S, S = addL L := ⟨_, rfl⟩
        rw [← hS] at hT hS1 hS2 hS3
        clear hS
        have hll := hT.out.2.length_eq
        have HND := Lib.hid (ids_nodup hT.out.2 hS1)
        have HLI : Hid (∀ p ∈ l, I64 p.1 ∧ I64 p.2) := fun p hp => hS2 p (hT.out.2.mem_iff.1 hp)
        have HSI : Hid (∀ p ∈ S, I64 p.1) := fun p hp => (hS2 p hp).1
        have HT1 := Lib.hid hT.out.1
        have HT2 := Lib.hid hT.out.2
        have HS1 := Lib.hid hS1
        have hkd : l.length ≤ d ∧ d ≤ 9223372036854775807 := by
          obtain ⟨_, _, e6, hx6, hx7⟩ := own_form hT.out.1.row
          injection e6 with _ _ e6
          omega
        obtain ⟨hkd, hkd2⟩ := hkd
        have hl9 : l.length < 4096 := by omega
        have hS9 : S.length < 4096 := by omega
        obtain ⟨ln, hln⟩ : ∃ ln, ln = l.length := ⟨_, rfl⟩
        have HLN := Lib.hid hln
        rw [← hln] at hkd hl9 ⊢
        clear hT hS1 hS2 hS3 hll hln
        go_wp2_with fail
        go_loopw [10] (fun i wr => ∃ (j : Nat) (oy : Nat → Prop) (T : List (Int × Int)), j ≤ ln ∧ i = .int .i64 ((j : Int) - 1) ∧ Hid (Two w wr x y ox oy S T (.slice B ln d) l) ∧ Hid (T.Perm (l.drop j))) (fun i _ => (intOf i + 1).toNat)
        case atStart => exact ⟨ln, oy, [], Nat.le_refl _, rfl, by rw [HLN.out]; exact HT1.out, by rw [HLN.out, List.drop_length]; exact List.Perm.refl _⟩
        case round =>
          obtain ⟨j, oy', T, hj, rfl, hW, hP⟩ := hrel
          by_cases h0 : j = 0
          · subst h0
            have hTS : T = S := by
              have h1 := hP.out
              rw [List.drop_zero] at h1
              have h2 : SrtP T := by
                obtain ⟨_, _, _, _, _, _, h3, _⟩ := hW.out.qy
                exact h3.2
              exact sorted_unique (h1.trans HT2.out) h2.1 HS1.out.1
            rw [hTS] at hW
            clear hP hTS HT1
            go_wp2_with fail
            refine (two_All hW (by omega)).mono ?_
            rintro e w4 ⟨A4, c4, rfl, hA4, hW4, hb4⟩
            go_wp2_with fail
            refine (two_All (x := y) (Lib.hid hW4.out.swap) (by omega)).mono ?_
            rintro e w5 ⟨A5, c5, rfl, hA5, hW5, hb5⟩
            have hA4' := Lib.hid (hA4.out.below hb5.out)
            go_wp2_with fail
            refine (ref_Pairs A4 A5 S.length S.length c4 c5 S S w5 hA4' hA5 (by omega) (by omega)).mono ?_
            rintro e w6 ⟨rfl, q6, rfl⟩
            have dS : decide (S = S) = true := by simp
            rw [dS]
            have hW6 := Lib.hid (hW5.out.drewN q6).swap
            clear hW4 hW5 hA4 hA5 hA4' hb4 hb5 dS
            go_wp2_with fail
            refine (two_Due hW6 (by omega) HSI).mono ?_
            rintro e w7 ⟨A7, c7, rfl, hA7, hW7, hO7⟩
            go_wp2_with fail
            refine (two_Due (x := y) (Lib.hid hW7.out.swap) (by omega) HSI).mono ?_
            rintro e w8 ⟨A8, c8, rfl, hA8, hW8, hO8⟩
            have hA7' := Lib.hid (Sl.of_own (own_off hA7.out hO8.out fun k hk hy => by
              have h1 := (hA7.out.lt k hk).1
              have h2 := (hW6.out.ly k hy).2
              omega))
            have hA8' := Lib.hid (Sl.of_own hA8.out)
            obtain ⟨D, hD⟩ : ∃ D, D = dueP now S := ⟨_, rfl⟩
            obtain ⟨F, hF⟩ : ∃ F, F = leftP now S := ⟨_, rfl⟩
            rw [← hD] at hA7' hA8' ⊢
            rw [← hF] at hW8
            have hDF := due_len now S
            rw [← hD, ← hF] at hDF
            have hDl : D.length ≤ 4096 := by omega
            have hFl : F.length < 8192 := by omega
            clear hD hF hDF hW7 hA7 hA8 hO7 hO8 hW6
            go_wp2_with fail
            refine (ref_Ints A7 A8 D.length D.length c7 c8 D D w8 hA7' hA8' (by omega) (by omega)).mono ?_
            rintro e w9 ⟨rfl, q9, rfl⟩
            have dS : decide (D = D) = true := by simp
            rw [dS]
            have hW9 := Lib.hid (hW8.out.drewN q9).swap
            clear hW8 hA7' hA8' dS
            go_wp2_with fail
            refine (two_All hW9 hFl).mono ?_
            rintro e w4 ⟨A4, c4, rfl, hA4, hW4, hb4⟩
            go_wp2_with fail
            refine (two_All (x := y) (Lib.hid hW4.out.swap) hFl).mono ?_
            rintro e w5 ⟨A5, c5, rfl, hA5, hW5, hb5⟩
            have hA4' := Lib.hid (hA4.out.below hb5.out)
            go_wp2_with fail
            refine (ref_Pairs A4 A5 F.length F.length c4 c5 F F w5 hA4' hA5 (by omega) (by omega)).mono ?_
            rintro e w6 ⟨rfl, q6, rfl⟩
            have dS : decide (F = F) = true := by simp
            rw [dS]
            have HB := Lib.hid (hW5.out.drewN q6).bel
            go_wp2
            go_ret
            exact ⟨rfl, HB.out⟩
          · obtain ⟨m, rfl⟩ : ∃ m, j = m + 1 := ⟨j - 1, by omega⟩
            have hml : m < l.length := by rw [← HLN.out]; omega
            have hno := back_no HND.out hml hP.out
            have hst := Lib.hid (back_step hml hP.out hno)
            have hrow := Sl.of_own hW.out.row
            rw [← HLN.out] at hrow
            obtain ⟨b, off, rfl, p0, p1⟩ := hrow.pair_at (k := m) (by omega)
            obtain ⟨p, hp⟩ : ∃ p, p = l.getD m (0, 0) := ⟨_, rfl⟩
            have hpi : I64 p.1 := by
              refine (HLI.out p ?_).1
              rw [hp, List.getD, List.getElem?_eq_getElem hml]
              exact List.getElem_mem hml
            rw [← hp] at p0 p1 hst hno
            obtain ⟨px, py⟩ := p
            simp only at p0 p1 hpi hst hno
            have hTl : T.length < 4096 := by
              have := hP.out.length_eq
              rw [List.length_drop, ← HLN.out] at this
              omega
            have he : addE px T = 0 := by unfold addE; rw [hno]; rfl
            have cA := fun q => Lib.hid (two_Add (x := y) (id := px) (at_ := py) (Lib.hid (hW.out.drewN q).swap) hpi hTl)
            rw [he] at cA
            have hm2 : (m : Int) < (ln : Int) := by omega
            have hm0 : (0 : Int) ≤ (m : Int) := by omega
            clear hp hml hno hrow hpi he hP h0
            go_wp2
            go_region_with (go_at_call 10; refine (cA _).out.mono ?_; rintro e w' ⟨rfl, oy2, h1⟩; have HH := Lib.hid h1.swap; clear h1)
            all_goals
              clear cA p0 p1
              go_wp2_with fail
              go_roundw
              case rel => exact ⟨m, oy2, _, by omega, rfl, HH, hst⟩
              case measure => simp [intOf]
end Go.Proofs.Ytkcggnfbmbfciaa
