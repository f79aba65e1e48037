/- The walk of law 05 TokenMore. -/
import Derived.Test.YtcbmaclhocdejaaDoorTokX
import Derived.Test.YtcbmaclhocdejaaDoorTokJ
import Derived.BigQuiet
namespace Go.Proofs.YtcbmaclhocdejaaDoor
open Go.RowKit
theorem Below.two {w w1 w2 : World} (h : Below w.heap.size w w1) (h2 : Below w1.heap.size w1 w2) : Below w.heap.size w w2 := below_then h h2
set_option maxRecDepth 100000 in
set_option maxHeartbeats 40000000 in
theorem law_TokenMore (s t : ByteArray) (w : World) (ht : Hid (TabOk w)) (hs7 : s.size ≤ 9223372036854775807) (ht7 : t.size ≤ 9223372036854775807) :
    Calls Tryd.prog 4 #[.string s, .string t] w fun e w' => e = .returned (.bool true) ∧ Below w.heap.size w w' := by
  have hl := Lib.hid (show s.data.toList.length = s.size by simp)
  have hlt := Lib.hid (show t.data.toList.length = t.size by simp)
  by_cases h4 : (2048 : Int) < (s.size : Int)
  · go_enter Tryd.func4, Tryd.ntmps4
    go_wp2_with (go_at_call 7; refine (law_small _ ht).mono ?_; rintro e w1 ⟨rfl, hb1⟩)
    go_ret
    exact ⟨rfl, hb1⟩
  · by_cases h5 : (2048 : Int) < (t.size : Int)
    · go_enter Tryd.func4, Tryd.ntmps4
      go_wp2_with (go_at_call 7; refine (law_small _ ht).mono ?_; rintro e w1 ⟨rfl, hb1⟩)
      go_ret
      exact ⟨rfl, hb1⟩
    · have ca := fun W => Lib.hid (tok_Lex s W (by omega))
      have cb := fun W => Lib.hid (tok_Lex t W (by omega))
      have hcat : (s ++ ⟨#[10]⟩ ++ t).data.toList = s.data.toList ++ 10 :: t.data.toList := by simp
      have cc := fun W => Lib.hid (tok_Lex (s ++ ⟨#[10]⟩ ++ t) W (by rw [Lib.size_eq, hcat, List.length_append, List.length_cons, hl.out, hlt.out]; omega))
      rw [hcat, lex_two (by rw [hl.out]; omega) (by rw [hlt.out]; omega), hl.out] at cc
      have xa := lex_at (s := s.data.toList) (by rw [hl.out]; omega)
      have xb := lex_at (s := t.data.toList) (by rw [hlt.out]; omega)
      rw [hl.out] at xa
      rw [hlt.out] at xb
      have xt := lex_tok_at (s := t.data.toList) (by rw [hlt.out]; omega)
      rw [hlt.out] at xt
      obtain ⟨RA, hA⟩ : ∃ R, R = lexR s.data.toList := ⟨_, rfl⟩
      obtain ⟨RB, hB⟩ : ∃ R, R = lexR t.data.toList := ⟨_, rfl⟩
      rw [← hA] at ca cc xa
      rw [← hB] at cb cc xb xt
      clear hA hB hcat
      obtain ⟨TA, pa, ea⟩ := RA
      obtain ⟨TB, pb, eb⟩ := RB
      simp only at xa xb xt
      have XT := Lib.hid xt
      clear xt
      go_enter Tryd.func4, Tryd.ntmps4
      go_wp2_with fail
      refine (law_small _ ht).mono ?_
      rintro e w1 ⟨rfl, hb1⟩
      have HB1 := Lib.hid hb1
      clear hb1
      go_wp2_with fail
      refine (ca _).out.mono ?_
      rintro e w2 ⟨v2, rfl, hsl2, hb2⟩
      have HB2 := Lib.hid (below_then HB1.out hb2)
      have HA2 := Lib.hid hsl2
      clear HB1 hb2 hsl2
      go_wp2_with fail
      refine (cb _).out.mono ?_
      rintro e w3 ⟨v3, rfl, hsl3, hb3⟩
      have HB3 := Lib.hid (below_then HB2.out hb3)
      have HA3 := Lib.hid (HA2.out.below hb3)
      have HT3 := Lib.hid hsl3
      clear HB2 hb3 HA2 hsl3
      by_cases hea : ea = 0
      · by_cases heb : eb = 0
        · subst hea
          subst heb
          have e : Go.Proofs.YtcbmaclhocdejaaDoor.two (TA, pa, (0 : Int)) (moved (s.size + 1) (TB, pb, (0 : Int))) = (TA ++ TB.map (Tok.move (s.size + 1)), pb + (s.size + 1), 0) := rfl
          rw [e] at cc
          clear e
          obtain ⟨na, hna⟩ : ∃ n, n = TA.length := ⟨_, rfl⟩
          obtain ⟨nb, hnb⟩ : ∃ n, n = TB.length := ⟨_, rfl⟩
          have hnc : (TA ++ TB.map (Tok.move (s.size + 1))).length = na + nb := by rw [List.length_append, List.length_map, hna, hnb]
          rw [← hna] at xa
          rw [← hnb] at xb
          obtain ⟨TC, hTC⟩ : ∃ T, T = TA ++ TB.map (Tok.move (s.size + 1)) := ⟨_, rfl⟩
          rw [← hTC] at cc hnc
          have HTC := Lib.hid hTC
          have HNA := Lib.hid hna
          have HNB := Lib.hid hnb
          have HNC := Lib.hid hnc
          clear hTC hna hnb hnc
          go_wp2_with fail
          refine (cc _).out.mono ?_
          rintro e w4 ⟨v4, rfl, hsl4, hb4⟩
          have HB4 := Lib.hid (below_then HB3.out hb4)
          have hsa0 : Sl w4 v2 na 3 (toksCells TA) := by rw [HNA.out]; exact HA3.out.below hb4
          have hsb0 : Sl w4 v3 nb 3 (toksCells TB) := by rw [HNB.out]; exact HT3.out.below hb4
          have hsc0 : Sl w4 v4 (na + nb) 3 (toksCells TC) := by rw [← HNC.out]; exact hsl4
          clear HB3 hb4 HA3 HT3 hsl4 ca cb cc
          obtain ⟨A, c, rfl, hnc, hc, hsa⟩ := hsa0.form
          obtain ⟨A2, c2, rfl, hnc2, hc2, hsb⟩ := hsb0.form
          obtain ⟨A3, c3, rfl, hnc3, hc3, hsc⟩ := hsc0.form
          have HSA := Lib.hid hsa
          have HSB := Lib.hid hsb
          have HSC := Lib.hid hsc
          clear hsa hsb hsc hsa0 hsb0 hsc0
          obtain ⟨n, hn⟩ : ∃ n, n = na + nb := ⟨_, rfl⟩
          rw [← hn] at HSC hnc3 HNC ⊢
          have hwr : IntKind.i64.wrap ((na : Int) + (nb : Int)) = (n : Int) := by rw [IntWalk.i64_in _ (by omega)]; omega
          have HNN := Lib.hid hn
          clear hn
          go_wp2_with fail
          go_loopg [15] (n + 1) (fun f v15 wr => ∃ k : Nat, k ≤ n ∧ v15 = .int .i64 k ∧ n < k + f ∧ Below w4.heap.size w4 wr)
          case atStart => exact ⟨0, by omega, rfl, by omega, Below.refl _ _⟩
          case round =>
            obtain ⟨k, hk, rfl, hf, hb⟩ := hrel
            obtain ⟨f, rfl⟩ : ∃ f, gk = f + 1 := ⟨gk - 1, by omega⟩
            have hsz := hb.size
            by_cases hlt : k < n
            · have hlt2 : (k : Int) < (n : Int) := by omega
              have hkc : k < TC.length := by rw [HNC.out]; exact hlt
              obtain ⟨b, off, rfl, _, h0, h1, h2⟩ := (HSC.out.below hb).tok (k := k) hkc
              by_cases hka : k < na
              · have hka2 : (k : Int) < (na : Int) := by omega
                have hkA : k < TA.length := by rw [← HNA.out]; exact hka
                obtain ⟨b2, off2, rfl, hb2lt, g0, g1, g2⟩ := (HSA.out.below hb).tok (k := k) hkA
                have he : TC[k] = TA[k] := by
                  have h : TC[k]? = TA[k]? := by rw [HTC.out, List.getElem?_append_left hkA]
                  rw [List.getElem?_eq_getElem hkc, List.getElem?_eq_getElem hkA] at h
                  exact Option.some.inj h
                rw [he] at h0 h1 h2
                obtain ⟨⟨kd, tx, a⟩, hu⟩ : ∃ u, u = TA[k] := ⟨_, rfl⟩
                rw [← hu] at h0 h1 h2 g0 g1 g2
                simp only at h0 h1 h2 g0 g1 g2
                have hne : b2 ≠ wr.heap.size := by omega
                clear he hu
                have HB := Lib.hid hb
                clear hb
                go_wp2_with fail
                go_quiet (fail)
                go_wp2_with fail
                go_roundg f
                case measure => omega
                case rel => exact ⟨k + 1, by omega, rfl, by omega, below_drewN' (HB.out.alloc hsz _) _⟩
              · have hka2 : (na : Int) ≤ (k : Int) := by omega
                obtain ⟨j, hj⟩ : ∃ j, k = na + j := ⟨k - na, by omega⟩
                have hnn := HNN.out
                have hkB : j < TB.length := by rw [← HNB.out]; omega
                have hjb : (j : Int) < (nb : Int) := by omega
                obtain ⟨b2, off2, rfl, hb2lt, g0, g1, g2⟩ := (HSB.out.below hb).tok (k := j) hkB
                have he : TC[k] = TB[j].move (s.size + 1) := by
                  have h : TC[k]? = (TB[j]?).map (Tok.move (s.size + 1)) := by
                    rw [HTC.out, List.getElem?_append_right (by rw [← HNA.out]; omega), List.getElem?_map, ← HNA.out, hj, Nat.add_sub_cancel_left]
                  rw [List.getElem?_eq_getElem hkc, List.getElem?_eq_getElem hkB] at h
                  exact Option.some.inj h
                have hta := XT.out TB[j] (List.getElem_mem hkB)
                rw [he] at h0 h1 h2
                obtain ⟨⟨kd, tx, a⟩, hu⟩ : ∃ u, u = TB[j] := ⟨_, rfl⟩
                rw [← hu] at h0 h1 h2 g0 g1 g2 hta
                simp only [Tok.move] at h0 h1 h2 g0 g1 g2 hta
                have hne : b2 ≠ wr.heap.size := by omega
                have hw0 : IntKind.i64.wrap ((k : Int) - (na : Int)) = (j : Int) := by rw [IntWalk.i64_in _ (by omega)]; omega
                have hw1 : IntKind.i64.wrap ((a : Int) + (s.size : Int)) = ((a + s.size : Nat) : Int) := by rw [IntWalk.i64_in _ (by omega)]; omega
                clear he hu hj hnn
                have HB := Lib.hid hb
                clear hb
                go_wp2_with fail
                all_goals first
                  | (rename_i hx; exact absurd hx (by simp; omega))
                  | (go_roundg f
                     case measure => omega
                     case rel => exact ⟨k + 1, by omega, rfl, by omega, (HB.out.alloc hsz _).alloc (by simp; omega) _⟩)
            · have hge : (n : Int) ≤ (k : Int) := by omega
              have HB := Lib.hid hb
              clear hb
              go_wp2
              go_ret
              exact ⟨rfl, below_then HB4.out HB.out⟩
        · subst hea
          have e : Go.Proofs.YtcbmaclhocdejaaDoor.two (TA, pa, (0 : Int)) (moved (s.size + 1) (TB, pb, eb)) = ([], pb + (s.size + 1), eb) := by
            show (if (0 : Int) = 0 then (if eb = 0 then _ else _) else _) = _
            rw [if_pos rfl, if_neg heb]; rfl
          rw [e] at cc
          have he2 : (eb != 0) = true := by simpa using heb
          go_wp2_with fail
          refine (cc _).out.mono ?_
          rintro e w4 ⟨v4, rfl, hsl4, hb4⟩
          have HB4 := Lib.hid (below_then HB3.out hb4)
          clear HB3 hb4 hsl4 ca cb cc HA3 HT3
          go_wp2
          go_ret
          exact ⟨ret1b (by simp; try omega), HB4.out⟩
      · have e : Go.Proofs.YtcbmaclhocdejaaDoor.two (TA, pa, ea) (moved (s.size + 1) (TB, pb, eb)) = ([], pa, ea) := by
          show (if ea = 0 then _ else _) = _
          rw [if_neg hea]
        rw [e] at cc
        have he2 : (ea != 0) = true := by simpa using hea
        go_wp2_with fail
        refine (cc _).out.mono ?_
        rintro e w4 ⟨v4, rfl, hsl4, hb4⟩
        have HB4 := Lib.hid (below_then HB3.out hb4)
        clear HB3 hb4 hsl4 ca cb cc HA3 HT3
        go_wp2
        go_ret
        exact ⟨ret1b (by simp), HB4.out⟩
end Go.Proofs.YtcbmaclhocdejaaDoor
