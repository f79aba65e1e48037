/- The walk of law 05 TokenPlaces. -/
import Derived.Test.YtcbmaclhocdejaaDoorTokT
import Derived.Test.YtcbmaclhocdejaaDoorTokJ
import Derived.BigQuiet
namespace Go.Proofs.YtcbmaclhocdejaaDoor
open Go.RowKit
set_option maxRecDepth 100000 in
set_option maxHeartbeats 40000000 in
theorem law_TokenPlaces (s : ByteArray) (w : World) (ht : Hid (TabOk w)) (hs7 : s.size ≤ 9223372036854775807) :
    Calls Tryd.prog 5 #[.string s] w fun e w' => e = .returned (.bool true) ∧ Below w.heap.size w w' := by
  have hl := Lib.hid (show s.data.toList.length = s.size by simp)
  by_cases h4 : (4096 : Int) < (s.size : Int)
  · go_enter Tryd.func5, Tryd.ntmps5
    go_wp2_with (go_at_call 7; refine (law_small _ ht).mono ?_; rintro e w1 ⟨rfl, hb1⟩)
    go_ret
    exact ⟨rfl, hb1⟩
  · have hs : s.size ≤ 9223372036854775805 := by omega
    obtain ⟨R, hR⟩ : ∃ R, R = lexR s.data.toList := ⟨_, rfl⟩
    have cl := fun W => Lib.hid (tok_Lex s W hs)
    rw [← hR] at cl
    have hpl : PlOk s.data.toList 0 R.1 := by
      rw [hR, lexR_O _ (by rw [hl.out]; omega)]
      exact lexO_places s.data.toList _ 0 (by omega)
    have HPL := Lib.hid hpl
    obtain ⟨T, hT⟩ : ∃ T, T = R.1 := ⟨_, rfl⟩
    clear hpl hR
    go_enter Tryd.func5, Tryd.ntmps5
    go_wp2_with fail
    refine (law_small _ ht).mono ?_
    rintro e w1 ⟨rfl, hb1⟩
    have HB1 := Lib.hid hb1
    clear hb1
    go_wp2_with fail
    refine (cl _).out.mono ?_
    rintro e w2 ⟨v2, rfl, hsl2, hb2⟩
    have HB2 := Lib.hid (below_then HB1.out hb2)
    rw [← hT] at hsl2 HPL
    clear HB1 hb2 hT
    obtain ⟨A, c, rfl, hnc, hc, hsl⟩ := hsl2.form
    have HS := Lib.hid hsl
    clear hsl hsl2
    obtain ⟨n, hn⟩ : ∃ n, n = T.length := ⟨_, rfl⟩
    rw [← hn] at HS hnc ⊢
    have HN := Lib.hid hn
    clear hn
    obtain ⟨B, hB⟩ : ∃ B, B = w2.heap.size := ⟨_, rfl⟩
    have HBB := Lib.hid hB
    clear hB
    go_wp2_with fail
    go_loopg [7, 8] (n + 1) (fun f v7 v8 wr => ∃ k en : Nat, k ≤ n ∧ v7 = .int .i64 en ∧ v8 = .int .i64 k ∧ n < k + f ∧ PlOk s.data.toList en (T.drop k) ∧ Below B w2 wr)
    case atStart => exact ⟨0, 0, by omega, rfl, rfl, by omega, HPL.out, Below.refl _ _⟩
    case round =>
      obtain ⟨k, en, hk, rfl, rfl, hf, hpl, hb⟩ := hrel
      obtain ⟨f, rfl⟩ : ∃ f, gk = f + 1 := ⟨gk - 1, by omega⟩
      have HB := Lib.hid hb
      clear hb
      by_cases hlt : k < n
      · have hlt2 : (k : Int) < (n : Int) := by omega
        have hkl : k < T.length := by rw [← HN.out]; exact hlt
        have hb0 : Below w2.heap.size w2 wr := by rw [← HBB.out]; exact HB.out
        obtain ⟨b, off, rfl, hbs, h0, h1, h2⟩ := (HS.out.below hb0).tok (k := k) hkl
        rw [List.drop_eq_getElem_cons hkl] at hpl
        obtain ⟨q1, ⟨q2, q3, q4, q5, q6, q7, q8⟩, q9⟩ := hpl
        obtain ⟨t, ht2⟩ : ∃ t, t = T[k] := ⟨_, rfl⟩
        rw [← ht2] at h0 h1 h2 q1 q2 q3 q4 q5 q6 q7 q8 q9
        obtain ⟨kd, tx, a⟩ := t
        simp only at h0 h1 h2 q1 q2 q3 q4 q5 q6 q7 q8 q9
        have Q9 := Lib.hid q9
        have hex : s.extract a (a + tx.size) = tx := by
          have h : (s.extract a (a + tx.size)).data.toList = tx.data.toList := by rw [Lib.extract_data, Nat.add_sub_cancel_left]; exact q4.symm
          exact ByteArray.ext (Array.toList_inj.1 h)
        have h1i : (1 : Int) ≤ (tx.size : Int) := by omega
        have h3i : a + tx.size ≤ s.size := by rw [← hl.out]; exact q3
        have h3j : (a : Int) + (tx.size : Int) ≤ (s.size : Int) := by omega
        have h4j : (en : Int) ≤ (a : Int) := by omega
        have d1 : decide (a < en) = false := by simp; omega
        have d1i : decide ((a : Int) < (en : Int)) = false := by simp; omega
        have d2 : decide ((tx.size : Int) < 1) = false := by simp; omega
        obtain ⟨E, hE⟩ : ∃ E, E = a + tx.size := ⟨_, rfl⟩
        have hwr : IntKind.i64.wrap ((a : Int) + (tx.size : Int)) = (E : Int) := by rw [IntWalk.i64_in _ (by omega)]; omega
        have d3 : decide (s.size < E) = false := by simp; omega
        have d3i : decide ((s.size : Int) < (E : Int)) = false := by simp; omega
        rw [← hE] at hex
        have haE : a ≤ E := by omega
        have hEs : E ≤ s.size := by omega
        have HE := Lib.hid hE
        clear hE
        have d4 : decide (kd < 1) = false := by simp; omega
        have d5 : decide (3 < kd) = false := by simp; omega
        clear q3 q4 q9 hb0 hbs ht2
        obtain ⟨no, hno⟩ : ∃ x, x = numOk tx.data.toList := ⟨_, rfl⟩
        obtain ⟨nm, hnm⟩ : ∃ x, x = nameOk tx.data.toList := ⟨_, rfl⟩
        have cq := fun W => Lib.hid (tok_Number tx W (by omega))
        have cm := fun W => Lib.hid (col_Name tx W (by omega))
        rw [← hno] at cq
        rw [← hnm] at cm
        rw [← hno] at q7
        rw [← hnm] at q8
        clear hno hnm
        have hBr : B ≤ wr.heap.size := by rw [HBB.out]; have := HB.out.size; rw [← HBB.out]; rw [HBB.out]; exact this
        have fin : ∀ m, (∃ k' en' : Nat, k' ≤ n ∧ Value.int .i64 (E : Int) = .int .i64 en' ∧ Value.int .i64 ((k : Int) + 1) = .int .i64 k' ∧ n < k' + f ∧ PlOk s.data.toList en' (T.drop k') ∧ Below B w2 ((wr.alloc (.cells #[.int .i64 kd, .string tx, .int .i64 a] 29)).drewN m)) := by
          intro m
          refine ⟨k + 1, E, by omega, rfl, rfl, by omega, ?_, below_drewN' (HB.out.alloc hBr _) m⟩
          rw [HE.out]; exact Q9.out
        have FIN := Lib.hid fin
        clear fin Q9
        have hkd := Lib.hid (show kd = 1 ∨ kd = 2 ∨ kd = 3 by omega)
        have Q7 := Lib.hid q7
        have Q8 := Lib.hid q8
        clear q5 q6 q7 q8
        go_wp2_with fail
        go_quiet (fail)
        clear d1 d1i d2 d3 d3i d4 d5 h1i h3i h3j h4j hex
        go_wp2_with ((go_at_call 10; refine (cq _).out.mono ?_; rintro e w' ⟨rfl, rfl⟩))
        rcases hkd.out with rfl | rfl | rfl
        all_goals
          have e7 := Q7.out
          have e8 := Q8.out
          simp at e7 e8
          subst e7
          subst e8
          go_quiet ((go_at_call 11; exact quiet_pure (cm _).out ⟨_, rfl⟩))
          go_wp2_with fail
          go_roundg f
          case measure => omega
          case rel => simpa only [World.drewN_drewN] using FIN.out _
      · have hge : (n : Int) ≤ (k : Int) := by omega
        go_wp2
        go_ret
        refine ⟨rfl, below_then HB2.out ?_⟩
        rw [← HBB.out]; exact HB.out
end Go.Proofs.YtcbmaclhocdejaaDoor
