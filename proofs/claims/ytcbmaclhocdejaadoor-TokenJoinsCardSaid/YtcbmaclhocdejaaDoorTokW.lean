/- The walk of law 05 TokenJoins. -/
import Derived.Test.YtcbmaclhocdejaaDoorTokV
import Derived.Test.YtcbmaclhocdejaaDoorTokJ
import Derived.BigQuiet
namespace Go.Proofs.YtcbmaclhocdejaaDoor
open Go.RowKit
set_option maxRecDepth 100000 in
set_option maxHeartbeats 40000000 in
theorem law_TokenJoins (s : ByteArray) (w : World) (ht : Hid (TabOk w)) (hs7 : s.size ≤ 9223372036854775807) :
    Calls Tryd.prog 3 #[.string s] w fun e w' => e = .returned (.bool true) ∧ Below w.heap.size w w' := by
  have hl := Lib.hid (show s.data.toList.length = s.size by simp)
  by_cases h4 : (4096 : Int) < (s.size : Int)
  · go_enter Tryd.func3, Tryd.ntmps3
    go_wp2_with (go_at_call 7; refine (law_small _ ht).mono ?_; rintro e w1 ⟨rfl, hb1⟩)
    go_ret
    exact ⟨rfl, hb1⟩
  · have hs : s.size ≤ 9223372036854775805 := by omega
    have hsl : s.data.toList.length ≤ 4096 := by rw [hl.out]; omega
    have cl := fun W => Lib.hid (tok_Lex s W hs)
    by_cases he : (lexR s.data.toList).2.2 = 0
    · obtain ⟨ms, j1, j2, j3, j4, j5⟩ := lex_join hsl he
      rw [hl.out] at j3
      obtain ⟨T, hT⟩ : ∃ T, T = (lexR s.data.toList).1 := ⟨_, rfl⟩
      rw [← hT] at j1 j2 j4 j5
      have hR : lexR s.data.toList = (T, s.size, 0) := by rw [hT, ← j3, ← he]
      rw [hR] at cl
      obtain ⟨n, hn⟩ : ∃ n, n = T.length := ⟨_, rfl⟩
      have hn2 : ms.length = n := by have := congrArg List.length j2; rw [hn]; simpa using this
      have jb := joinL_key j2
      obtain ⟨J, hJ⟩ : ∃ J : ByteArray, J = ⟨(joinL T).toArray⟩ := ⟨_, rfl⟩
      have hJs : J.size ≤ 9223372036854775805 := by rw [hJ]; simp [ByteArray.size]; omega
      have cj := fun W (v : Value) (h : Hid (Sl W v T.length 3 (toksCells T))) => Lib.hid (tok_Join v T W h (Lib.hid (by omega)) (Lib.hid (by omega)))
      have cj2 := fun W (v : Value) (h : Hid (Sl W v ms.length 3 (toksCells ms))) => Lib.hid (tok_Join v ms W h (Lib.hid (by omega)) (Lib.hid (by rw [jb]; omega)))
      rw [jb] at cj2
      rw [← hJ] at cj cj2
      have cl2 := fun W => Lib.hid (tok_Lex J W hJs)
      have hJd : J.data.toList = joinL T := by rw [hJ]
      rw [hJd, j1] at cl2
      have hj2n : n ≤ 4096 := by omega
      have KA := Lib.hid (fun k (hk : k < T.length) => key_at j2 hk)
      have HN := Lib.hid hn
      have HN2 := Lib.hid hn2
      clear j1 j2 j3 j4 j5 jb hJ hJs hJd hR hT he
      go_enter Tryd.func3, Tryd.ntmps3
      go_wp2_with fail
      refine (law_small _ ht).mono ?_
      rintro e w1 ⟨rfl, hb1⟩
      have HB1 := Lib.hid hb1
      clear hb1
      go_wp2_with fail
      refine (cl _).out.mono ?_
      rintro e w2 ⟨v2, rfl, hsl2, hb2⟩
      have HB2 := Lib.hid (below_then HB1.out hb2)
      have HS2 := Lib.hid hsl2
      clear HB1 hb2 hsl2
      go_wp2_with fail
      refine (cj _ _ HS2).out.mono ?_
      rintro e w3 ⟨rfl, hb3⟩
      have HB3 := Lib.hid (below_then HB2.out hb3)
      have HS3 := Lib.hid (HS2.out.below hb3)
      clear HB2 hb3 HS2
      go_wp2_with fail
      refine (cl2 _).out.mono ?_
      rintro e w4 ⟨v4, rfl, hsl4, hb4⟩
      have HB4 := Lib.hid (below_then HB3.out hb4)
      have HS4 := Lib.hid (HS3.out.below hb4)
      have HM4 := Lib.hid hsl4
      clear HB3 hb4 HS3 hsl4 cl cl2 cj
      have hsa0 : Sl w4 v2 n 3 (toksCells T) := by rw [HN.out]; exact HS4.out
      have hsb0 : Sl w4 v4 n 3 (toksCells ms) := by rw [← HN2.out]; exact HM4.out
      obtain ⟨A, c, rfl, hnc, hc, hsa⟩ := hsa0.form
      have HSA := Lib.hid hsa
      obtain ⟨A2, c2, rfl, hnc2, hc2, hsb⟩ := hsb0.form
      have HSB := Lib.hid hsb
      clear hsa hsb HS4 HM4 hsa0 hsb0 hn hn2
      go_wp2_with fail
      go_loopg [11] (n + 1) (fun f v11 wr => ∃ k : Nat, k ≤ n ∧ v11 = .int .i64 k ∧ n < k + f ∧ Below w4.heap.size w4 wr)
      case atStart => exact ⟨0, by omega, rfl, by omega, Below.refl _ _⟩
      case round =>
        obtain ⟨k, hk, rfl, hf, hb⟩ := hrel
        obtain ⟨f, rfl⟩ : ∃ f, gk = f + 1 := ⟨gk - 1, by omega⟩
        by_cases hlt : k < n
        · have hlt2 : (k : Int) < (n : Int) := by omega
          have hkl : k < T.length := by rw [← HN.out]; exact hlt
          have hkm : k < ms.length := by rw [HN2.out]; exact hlt
          obtain ⟨_, ka, kb⟩ := KA.out k hkl
          obtain ⟨b, off, rfl, _, h0, h1, _⟩ := (HSA.out.below hb).tok (k := k) hkl
          obtain ⟨b2, off2, rfl, _, g0, g1, _⟩ := (HSB.out.below hb).tok (k := k) hkm
          rw [ka] at g0
          rw [kb] at g1
          obtain ⟨kd, hkd⟩ : ∃ x, x = T[k].kind := ⟨_, rfl⟩
          obtain ⟨tx, htx⟩ : ∃ x, x = T[k].text := ⟨_, rfl⟩
          rw [← hkd] at h0 g0
          rw [← htx] at h1 g1
          clear ka kb hkd htx
          have HB := Lib.hid hb
          clear hb
          go_wp2_with fail
          go_quiet (fail)
          go_wp2_with fail
          go_roundg f
          case measure => omega
          case rel => exact ⟨k + 1, by omega, rfl, by omega, below_drewN' HB.out _⟩
        · have hge : (n : Int) ≤ (k : Int) := by omega
          have HB := Lib.hid hb
          have HM5 : Hid (Sl wr (.slice A2 n c2) ms.length 3 (toksCells ms)) := Lib.hid (by rw [HN2.out]; exact HSB.out.below hb)
          clear hb
          go_wp2_with fail
          refine (cj2 _ _ HM5).out.mono ?_
          rintro e w5 ⟨rfl, hb5⟩
          go_wp2
          go_ret
          exact ⟨ret1b (by simp), below_then (below_then HB4.out HB.out) hb5⟩
    · obtain ⟨f1, f2⟩ := lex_fail hsl he
      obtain ⟨R, hR⟩ : ∃ R, R = lexR s.data.toList := ⟨_, rfl⟩
      rw [← hR] at cl he f1 f2
      rw [hl.out] at f2
      obtain ⟨T, p, er⟩ := R
      simp only at he f1 f2
      subst f1
      have he2 : (er != 0) = true := by simpa using he
      have hp : (p : Int) < (s.size : Int) := by omega
      clear hR
      go_enter Tryd.func3, Tryd.ntmps3
      go_wp2_with fail
      refine (law_small _ ht).mono ?_
      rintro e w1 ⟨rfl, hb1⟩
      have HB1 := Lib.hid hb1
      clear hb1
      go_wp2_with fail
      refine (cl _).out.mono ?_
      rintro e w2 ⟨v2, rfl, hsl2, hb2⟩
      have HB2 := Lib.hid (below_then HB1.out hb2)
      obtain ⟨A, c, rfl, hnc, hc, _⟩ := hsl2.form
      clear HB1 hb2 hsl2
      go_wp2
      go_ret
      exact ⟨ret1b (by simp; try omega), HB2.out⟩
end Go.Proofs.YtcbmaclhocdejaaDoor
