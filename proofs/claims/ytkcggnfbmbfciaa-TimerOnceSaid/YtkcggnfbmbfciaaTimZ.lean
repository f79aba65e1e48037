/- The law TimerOnce, walked. -/
import Derived.Test.YtkcggnfbmbfciaaTimY
namespace Go.Proofs.Ytkcggnfbmbfciaa
open Go.RowKit
set_option maxRecDepth 100000 in
set_option maxHeartbeats 8000000 in
theorem law_TimerOnce (A B C : Option Addr) (n c m d r s : Nat) (L : List (Int × Int)) (K N : List Int) (w : World) (hL : Hid (Sl w (.slice A n c) n 2 (pairCells L))) (hn : n ≤ 9223372036854775807) (hLi : Hid (∀ p ∈ L, I64 p.1 ∧ I64 p.2))
    (hK : Hid (Sl w (.slice B m d) m 1 (intCells K))) (hm : m ≤ 9223372036854775807) (hKi : Hid (∀ x ∈ K, I64 x)) (hN : Hid (Sl w (.slice C r s) r 1 (intCells N))) (hr : r ≤ 9223372036854775807) :
    Calls Try.prog 4 #[.slice A n c, .slice B m d, .slice C r s] w fun e w' => e = .returned (.bool true) ∧ Below w.heap.size w w' := by
  have hlen := Lib.hid (show L.length = n by have := hL.out.len; rw [pairCells_len] at this; omega)
  have hlenK := Lib.hid (show K.length = m by have := hK.out.len; rw [intCells_len] at this; omega)
  have hlenN := Lib.hid (show N.length = r by have := hN.out.len; rw [intCells_len] at this; omega)
  go_enter Try.func4, Try.ntmps4
  go_wp2_with fail
  refine (law14_small w).mono ?_
  rintro e w1 ⟨rfl, hb1⟩
  have HB1 := Lib.hid hb1
  clear hb1
  go_wp2_with fail
  refine (ql_New w w1 HB1.out).mono ?_
  rintro e w2 ⟨g, rfl, h2⟩
  have H2 := Lib.hid h2
  clear h2
  by_cases hbig : n ≤ 100 ∧ m ≤ 100 ∧ r ≤ 50
  · obtain ⟨hb1, hb2, hb3⟩ := hbig
    have d1 : (n : Int) ≤ 100 := by omega
    have d2 : (m : Int) ≤ 100 := by omega
    have d3 : (r : Int) ≤ 50 := by omega
    go_wp2
    go_loopw [9, 10] (fun v i wr => ∃ (k : Nat) (up : Nat), k ≤ n ∧ i = .int .i64 (k : Int) ∧ v = .int .i64 ((addL (L.take k)).length : Int) ∧ Hid (QL w up wr g (addL (L.take k)))) (fun _ i _ => n - (intOf i).toNat)
    case atStart => exact ⟨0, _, by omega, rfl, rfl, H2⟩
    case round =>
      obtain ⟨k, up, hk, rfl, rfl, hQ⟩ := hrel
      by_cases hlt : k < n
      · obtain ⟨b, off, rfl, z0, z1⟩ := hL.out.pair_at hlt
        have p0 := cell_kept hQ.out.bel z0
        have p1 := cell_kept hQ.out.bel z1
        have hkl : k < L.length := by rw [hlen.out]; exact hlt
        have hst := Lib.hid (addL_step hkl)
        obtain ⟨p, hp⟩ : ∃ p, p = L.getD k (0, 0) := ⟨_, rfl⟩
        have hxi : I64 p.1 ∧ I64 p.2 := by
          refine hLi.out p ?_
          rw [hp, List.getD, List.getElem?_eq_getElem hkl]
          exact List.getElem_mem hkl
        rw [← hp] at p0 p1 hst
        have hSl : (addL (L.take k)).length ≤ 100 := by
          have h1 := addL_len (L.take k)
          have h2 := List.length_take_le k L
          omega
        obtain ⟨S, hS⟩ : ∃ S, S = addL (L.take k) := ⟨_, rfl⟩
        rw [← hS] at hQ hSl hst ⊢
        obtain ⟨px, py⟩ := p
        simp only at p0 p1 hxi hst
        have cA := fun q => Lib.hid (ql_Add (id := px) (at_ := py) (Lib.hid (hQ.out.drewN q)) hxi.1 (by omega))
        have hlt2 : (k : Int) < (n : Int) := by omega
        have hk0 : (0 : Int) ≤ (k : Int) := by omega
        clear hp hS hkl z0 z1
        rcases hh : hasP px S with _ | _
        · have he : addE px S = 0 := by unfold addE; rw [hh]; rfl
          have hls := Lib.hid (addP_len_no (at_ := py) hh)
          rw [he] at cA
          rw [← hst.out] at hls
          obtain ⟨sn, hsn⟩ : ∃ sn, sn = S.length := ⟨_, rfl⟩
          rw [← hsn] at hls hSl ⊢
          clear hxi hh he hsn
          go_wp2
          go_region_with (go_at_call 10; refine (cA _).out.mono ?_; rintro e w' ⟨rfl, h1, _⟩; rw [← hst.out] at h1; have HH := Lib.hid h1; clear h1)
          all_goals
            clear cA p0 p1
            go_wp2
            go_roundw
            case rel => exact ⟨k + 1, _, by omega, by go_num, by rw [hls.out]; go_num, HH⟩
            case measure => simp [intOf]; omega
        · have he : addE px S = 5 := by unfold addE; rw [hh]; rfl
          have hs : addP px py S = S := by unfold addP; rw [hh]; rfl
          rw [he, hs] at cA
          rw [hs] at hst
          clear hxi hh he hs
          go_wp2
          go_region_with (go_at_call 10; refine (cA _).out.mono ?_; rintro e w' ⟨rfl, h1, _⟩; have HH := Lib.hid h1; clear h1)
          all_goals
            clear cA p0 p1
            go_wp2
            go_roundw
            case rel => exact ⟨k + 1, _, by omega, by go_num, by rw [hst.out], by rw [hst.out]; exact HH⟩
            case measure => simp [intOf]; omega
      · have e1 : k = n := by omega
        have e2 : L.take k = L := by rw [e1, List.take_of_length_le]; rw [hlen.out]; exact Nat.le_refl _
        rw [e2] at hQ ⊢
        clear e1 e2 hL
        have hS1 := addL_srt L
        have hS2 := addL_all (P := fun p => I64 p.1 ∧ I64 p.2) hLi.out
        have hS3 := addL_len L
        rw [hlen.out] at hS3
        obtain ⟨S0, hS⟩ : ∃ S, S = addL L := ⟨_, rfl⟩
        rw [← hS] at hQ hS1 hS2 hS3 ⊢
        clear hS
        have HS1 := Lib.hid hS1
        have HS2 := Lib.hid hS2
        clear hS1 hS2
        go_wp2
        go_loopw [9, 11] (fun v i wr => ∃ (k : Nat), k ≤ m ∧ i = .int .i64 (k : Int) ∧ v = .int .i64 ((canL S0 (K.take k)).length : Int) ∧ Hid (QL w up wr g (canL S0 (K.take k)))) (fun _ i _ => m - (intOf i).toNat)
        case atStart => exact ⟨0, by omega, rfl, rfl, hQ⟩
        case round =>
          obtain ⟨k, hk, rfl, rfl, hQ⟩ := hrel
          by_cases hlt : k < m
          · obtain ⟨b, off, rfl, z0⟩ := hK.out.int_at hlt
            have p0 := cell_kept hQ.out.bel z0
            have hkl : k < K.length := by rw [hlenK.out]; exact hlt
            have hst := Lib.hid (canL_step (S := S0) hkl)
            obtain ⟨x, hx⟩ : ∃ x, x = K.getD k 0 := ⟨_, rfl⟩
            have hxi : I64 x := by
              refine hKi.out x ?_
              rw [hx, List.getD, List.getElem?_eq_getElem hkl]
              exact List.getElem_mem hkl
            rw [← hx] at p0 hst
            have hSl := canL_len (K.take k) S0
            have hSs := canL_srt (K.take k) S0 HS1.out
            obtain ⟨S, hS⟩ : ∃ S, S = canL S0 (K.take k) := ⟨_, rfl⟩
            rw [← hS] at hQ hSl hst hSs ⊢
            have cA := Lib.hid (ql_Cancel (id := x) hQ hxi (by omega))
            have hlt2 : (k : Int) < (m : Int) := by omega
            have hk0 : (0 : Int) ≤ (k : Int) := by omega
            clear hx hS hkl z0
            rcases hh : hasP x S with _ | _
            · have he : canE x S = 3 := by unfold canE; rw [hh]; rfl
              have hs : delP x S = S := delP_none hh
              rw [he, hs] at cA
              rw [hs] at hst
              clear hxi hh he hs hSs
              go_wp2_with fail
              refine cA.out.mono ?_
              rintro e w' ⟨rfl, h1, _⟩
              have HH := Lib.hid h1
              clear h1 cA p0
              go_wp2
              go_roundw
              case rel => exact ⟨k + 1, by omega, by go_num, by rw [hst.out], by rw [hst.out]; exact HH⟩
              case measure => simp [intOf]; omega
            · have he : canE x S = 0 := by unfold canE; rw [hh]; rfl
              have hls := Lib.hid (delP_len hSs hh)
              have hpos : 0 < S.length := by have := delP_len hSs hh; omega
              rw [he] at cA
              rw [← hst.out] at hls cA
              obtain ⟨sn, hsn⟩ : ∃ sn, sn = S.length := ⟨_, rfl⟩
              rw [← hsn] at hls hSl hpos ⊢
              clear hxi hh he hsn hSs
              go_wp2_with fail
              refine cA.out.mono ?_
              rintro e w' ⟨rfl, h1, _⟩
              have HH := Lib.hid h1
              clear h1 cA p0
              go_wp2
              go_roundw
              case rel => exact ⟨k + 1, by omega, by go_num, by rw [← hls.out]; go_num, HH⟩
              case measure => simp [intOf]; omega
          · have e1 : k = m := by omega
            have e2 : K.take k = K := by rw [e1, List.take_of_length_le]; rw [hlenK.out]; exact Nat.le_refl _
            rw [e2] at hQ ⊢
            clear e1 e2 hK
            have hS4 := canL_len K S0
            have hS5 := canL_srt K S0 HS1.out
            have hS6 : ∀ p ∈ canL S0 K, I64 p.1 ∧ I64 p.2 := fun p hp => HS2.out p (canL_sub K S0 p hp)
            obtain ⟨S, hS⟩ : ∃ S, S = canL S0 K := ⟨_, rfl⟩
            rw [← hS] at hQ hS4 hS5 hS6 ⊢
            have HS6 := Lib.hid hS6
            have hSn : S.length ≤ 100 := by omega
            clear hS hS4 hS5 hS6 HS1 HS2 hS3
            have hQu := Lib.hid hQ.out.cut
            obtain ⟨u, hu⟩ : ∃ u, u = wr := ⟨_, rfl⟩
            rw [← hu] at hQ hQu ⊢
            obtain ⟨sn, hsn⟩ : ∃ sn, sn = S.length := ⟨_, rfl⟩
            have HSN := Lib.hid hsn
            rw [← hsn] at hSn ⊢
            clear hQ hu hsn
            go_wp2_with fail
            refine (ql_Len hQu).mono ?_
            rintro e w3 ⟨rfl, rfl⟩
            rw [← HSN.out]
            go_wp2_with fail
            refine (ql_All2 hQu (by rw [← HSN.out]; omega)).mono ?_
            rintro e u2 ⟨D, d9, rfl, hAl, hQ2, hup⟩
            rw [← HSN.out] at hAl ⊢
            have hbelu := Lib.hid hQ2.bel
            have HO0 : Hid (OnceL w u2 u2 u.heap.size g S S (.slice none 0 0) []) := ⟨hQ2, hQ2.bel.size, fun _ _ _ => rfl, Nat.le_refl _, World.ownsRow_nil _ _ _ _, rfl, fun _ h => h⟩
            clear hQ2
            go_wp2
            go_loopw [13, 14, 15, 16, 17, 18] (fun v i _ _ _ _ wr => ∃ (k : Nat) (T : List (Int × Int)) (tl : List Int) (F : Option Addr) (f : Nat), k ≤ r ∧ i = .int .i64 (k : Int) ∧ v = .slice F tl.length f ∧ Hid (OnceL w u2 wr u.heap.size g S T (.slice F tl.length f) tl)) (fun _ i _ _ _ _ _ => r - (intOf i).toNat)
            case atStart => exact ⟨0, S, [], none, 0, by omega, rfl, rfl, HO0⟩
            case round =>
              obtain ⟨k, T, tl, F, f, hk, rfl, rfl, hO⟩ := hrel
              have hTl := hO.out.len
              rw [← HSN.out] at hTl
              by_cases hlt : k < r
              · obtain ⟨b, off, rfl, z0⟩ := hN.out.int_at hlt
                have p0 := cell_kept hO.out.q.bel z0
                obtain ⟨x, hx⟩ : ∃ x, x = N.getD k 0 := ⟨_, rfl⟩
                rw [← hx] at p0 z0
                have Z0 := Lib.hid z0
                have hTi : Hid (∀ p ∈ T, I64 p.1) := fun p hp => (HS6.out p (hO.out.sub p hp)).1
                have cD := Lib.hid (ql_Due (now := x) (Lib.hid hO.out.q) (by omega) hTi)
                have hbeh := fun (w3 : World) (dv : Value) a b c => Lib.hid (hO.out.behind hup (d := dv) (now := x) (w3 := w3) a b c)
                have hDl := due_len x T
                obtain ⟨l, hl⟩ : ∃ l, l = dueP x T := ⟨_, rfl⟩
                obtain ⟨R, hR⟩ : ∃ R, R = leftP x T := ⟨_, rfl⟩
                rw [← hl] at cD hbeh hDl
                rw [← hR] at cD hbeh hDl
                have hhd : Hid (∀ i t R', R = (i, t) :: R' → x < t) := fun i t R' e => left_head (R := R') (hR.symm.trans e)
                obtain ⟨tn, htn⟩ : ∃ tn, tn = tl.length := ⟨_, rfl⟩
                obtain ⟨ln, hln⟩ : ∃ ln, ln = l.length := ⟨_, rfl⟩
                have HTN := Lib.hid htn
                have HLN := Lib.hid hln
                have hfc : tn ≤ f := by
                  obtain ⟨_, _, e6, hx6, _⟩ := own_form hO.out.row
                  injection e6 with _ _ e6
                  omega
                rw [← hln] at cD hDl
                rw [← htn] at hTl ⊢
                have hlt2 : (k : Int) < (r : Int) := by omega
                have hk0 : (0 : Int) ≤ (k : Int) := by omega
                have hrow0 := Lib.hid hO.out.row
                clear hx z0 hl hR hTi hO hln htn
                go_wp2_with fail
                refine cD.out.mono ?_
                rintro e w3 ⟨E, e9, rfl, q1, q2, q3⟩
                have HD := hbeh w3 (.slice E ln e9) q2 q3 (by rw [← HLN.out]; exact q1)
                have hr3 := HD.out.row
                rw [← HTN.out] at hr3
                have hsr := Sl.of_own HD.out.told
                rw [← HLN.out] at hsr
                have HR3 := Lib.hid hr3
                have HSR := Lib.hid hsr
                have hsz3 := HD.out.size
                clear q1 q2 q3 cD hbeh hr3 hsr p0
                go_wp2_with (at_builtin; refine wpList_append_sl ints_ty rfl (.tmp 100) (.tmp 101) rfl u2.heap.size rfl (by exact HR3.out) rfl (by exact HSR.out) (int_one l) (by omega) (by omega) (by omega) ?_; intro v4 w4 hown4 hg4 hat4; obtain ⟨A4, c4, rfl, _, _⟩ := own_form hown4; have HO4 := Lib.hid (HD.out.app (v4 := .slice A4 (tn + ln) c4) (w4 := w4) hup (by rw [← HTN.out, ← HLN.out]; exact hown4) (by rw [← HTN.out]; exact hg4)); clear hown4 hg4 hat4)
                refine (ql_Next (Lib.hid HO4.out.q)).mono ?_
                rintro e w5 ⟨rfl, q5, rfl⟩
                have HO5 := Lib.hid (HO4.out.drewN q5)
                have p5 := cell_kept HO5.out.q.bel Z0.out
                have HL5 : Hid (tn + ln = (tl ++ l).length) := by
                  show _ = _
                  rw [List.length_append, ← HTN.out, ← HLN.out]
                clear HO4 HD HR3 HSR
                rcases hRR : R with _ | ⟨⟨i1, t1⟩, R'⟩
                · rw [hRR] at HO5
                  clear hRR hhd
                  go_wp2
                  go_roundw
                  case rel => exact ⟨k + 1, [], tl ++ l, A4, c4, by omega, by go_num, by rw [HL5.out], by rw [← HL5.out]; exact HO5⟩
                  case measure => simp [intOf]; omega
                · have hlt5 := hhd.out i1 t1 R' hRR
                  have hd5 : decide (t1 ≤ x) = false := by simp; omega
                  rw [hRR] at HO5
                  clear hRR hhd
                  go_wp2
                  go_roundw
                  case rel => exact ⟨k + 1, _, tl ++ l, A4, c4, by omega, by go_num, by rw [HL5.out], by rw [← HL5.out]; exact HO5⟩
                  case measure => simp [intOf]; omega
              · have hall := Lib.hid (Sl.of_own (hO.out.all hAl.out))
                have htd := Sl.of_own hO.out.row
                have hTi : Hid (∀ p ∈ T, I64 p.1) := fun p hp => (HS6.out p (hO.out.sub p hp)).1
                obtain ⟨dm, lm⟩ := due_all (now := 9223372036854775807) (S := T) fun p hp => (HS6.out p (hO.out.sub p hp)).2.2
                have HDM := Lib.hid dm
                have HLM := Lib.hid lm
                have hTl9 : T.length < 8192 := by omega
                have hdue := Lib.hid hO.out.due
                obtain ⟨tn, htn⟩ : ∃ tn, tn = tl.length := ⟨_, rfl⟩
                have HTN := Lib.hid htn
                rw [← htn] at htd hTl ⊢
                have htn9 : tn ≤ f := by
                  obtain ⟨_, _, e6, hx6, _⟩ := own_form hO.out.row
                  injection e6 with _ _ e6
                  omega
                have HTD := Lib.hid htd
                clear dm lm htn htd
                go_wp2
                go_loopw [19] (fun v wx => ∃ (j q : Nat), j ≤ tn ∧ v = .int .i64 (j : Int) ∧ wx = wr.drewN q) (fun v _ => tn - (intOf v).toNat)
                case atStart => exact ⟨0, 0, by omega, rfl, rfl⟩
                case round =>
                  obtain ⟨j, q, hj, rfl, rfl⟩ := hrel
                  by_cases hjl : j < tn
                  · obtain ⟨b1, o1, rfl, c1⟩ := HTD.out.int_at hjl
                    obtain ⟨b2, o2, rfl, c2, _⟩ := hall.out.pair_at (k := j) (by omega)
                    have hq := once_told hdue.out (k := j) (by rw [← HTN.out]; exact hjl)
                    rw [hq] at c1
                    obtain ⟨x, hx⟩ : ∃ x, x = (S.getD j (0, 0)).1 := ⟨_, rfl⟩
                    rw [← hx] at c1 c2
                    have hj2 : (j : Int) < (tn : Int) := by omega
                    have hj0 : (0 : Int) ≤ (j : Int) := by omega
                    have hj3 : (j : Int) < (sn : Int) := by omega
                    have hj4 : decide ((sn : Int) ≤ (j : Int)) = false := by simp; omega
                    have hj5 : decide (sn ≤ j) = false := by simp; omega
                    clear hq hx
                    go_wp2
                    go_quiet (fail)
                    go_wp2
                    go_roundw
                    case rel => exact ⟨j + 1, _, by omega, by go_num, rfl⟩
                    case measure => simp [intOf]; omega
                  · have cD := Lib.hid (ql_Due (now := 9223372036854775807) (Lib.hid (hO.out.q.drewN q)) hTl9 hTi)
                    have hbeh := fun (w3 : World) (dv : Value) a b c => Lib.hid ((hO.out.drewN q).behind hup (d := dv) (now := 9223372036854775807) (w3 := w3) a b c)
                    rw [HDM.out, HLM.out] at cD hbeh
                    obtain ⟨l, hl⟩ : ∃ l, l = T.map (·.1) := ⟨_, rfl⟩
                    have hll : l.length = T.length := by rw [hl, List.length_map]
                    rw [← hl] at cD hbeh
                    have HLE := Lib.hid hl
                    obtain ⟨ln, hln⟩ : ∃ ln, ln = l.length := ⟨_, rfl⟩
                    have HLN := Lib.hid hln
                    rw [← hln] at cD hll
                    have HLL := Lib.hid hll
                    have hs9 : tn + ln = sn := by omega
                    have HS9 := Lib.hid hs9
                    have d9 : ((tn : Int) + (ln : Int) == (sn : Int)) = true := by simp; omega
                    have hle9 : ln ≤ 100 := by omega
                    have htn10 : tn ≤ 100 := by omega
                    clear hl hln hll hs9
                    go_wp2_with fail
                    refine cD.out.mono ?_
                    rintro e w5 ⟨E, e9, rfl, q1, q2, q3⟩
                    have HD := hbeh w5 (.slice E ln e9) q2 q3 (by rw [← HLN.out]; exact q1)
                    have hall5 := Lib.hid (Sl.of_own (HD.out.all hAl.out))
                    have hrest := Sl.of_own HD.out.told
                    rw [← HLN.out] at hrest
                    have hR5 := Lib.hid hrest
                    have hQ5 := Lib.hid q2
                    clear q1 q2 q3 cD hbeh hrest
                    go_wp2
                    go_loopw [21] (fun v wx => ∃ (i q : Nat), i ≤ ln ∧ v = .int .i64 (i : Int) ∧ wx = w5.drewN q) (fun v _ => ln - (intOf v).toNat)
                    case atStart => exact ⟨0, 0, by omega, rfl, rfl⟩
                    case round =>
                      obtain ⟨i, qq, hi, rfl, rfl⟩ := hrel
                      by_cases hil : i < ln
                      · obtain ⟨b1, o1, rfl, c1⟩ := hR5.out.int_at hil
                        obtain ⟨b2, o2, rfl, c2, _⟩ := hall5.out.pair_at (k := tn + i) (by have := HS9.out; omega)
                        have hq := once_rest hdue.out (k := i) (by rw [← HLL.out]; exact hil)
                        rw [← HLE.out, ← HTN.out] at hq
                        rw [hq] at c1
                        obtain ⟨x, hx⟩ : ∃ x, x = (S.getD (tn + i) (0, 0)).1 := ⟨_, rfl⟩
                        rw [← hx] at c1 c2
                        obtain ⟨z, hz⟩ : ∃ z, z = tn + i := ⟨_, rfl⟩
                        rw [← hz] at c2
                        have hz9 : z < sn := by have := HS9.out; omega
                        have wz : IntKind.i64.wrap ((tn : Int) + (i : Int)) = (z : Int) := by
                          rw [show (tn : Int) + (i : Int) = (z : Int) by omega]; exact IntWalk.i64_in _ (by omega)
                        have hi2 : (i : Int) < (ln : Int) := by omega
                        have hi0 : (0 : Int) ≤ (i : Int) := by omega
                        have hz0 : (0 : Int) ≤ (z : Int) := by omega
                        have hz3 : (z : Int) < (sn : Int) := by omega
                        have hz4 : decide ((sn : Int) ≤ (z : Int)) = false := by simp; omega
                        have hz5 : decide (sn ≤ z) = false := by simp; omega
                        clear hq hx hz d9
                        go_wp2
                        go_quiet (fail)
                        go_wp2
                        go_roundw
                        case rel => exact ⟨i + 1, _, by omega, by go_num, rfl⟩
                        case measure => simp [intOf]; omega
                      · go_wp2_with fail
                        refine (ql_Len (Lib.hid (hQ5.out.drewN qq))).mono ?_
                        rintro e w8 ⟨rfl, rfl⟩
                        go_wp2
                        go_ret
                        exact ⟨rfl, (hQ5.out.drewN qq).bel⟩
  · by_cases h1 : 100 < n
    · have d1 : (100 : Int) < (n : Int) := by omega
      go_wp2
      go_ret
      exact ⟨rfl, H2.out.bel⟩
    · have d1 : (n : Int) ≤ 100 := by omega
      by_cases h2 : 100 < m
      · have d2 : (100 : Int) < (m : Int) := by omega
        go_wp2
        go_ret
        exact ⟨rfl, H2.out.bel⟩
      · have d2 : (m : Int) ≤ 100 := by omega
        have d3 : (50 : Int) < (r : Int) := by omega
        go_wp2
        go_ret
        exact ⟨rfl, H2.out.bel⟩
end Go.Proofs.Ytkcggnfbmbfciaa
