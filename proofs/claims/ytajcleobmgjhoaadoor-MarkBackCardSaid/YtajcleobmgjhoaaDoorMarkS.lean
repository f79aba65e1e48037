/- Law MarkMore: the walk. -/
import Derived.Test.YtajcleobmgjhoaaDoorMarkR
import Derived.Test.YtajcleobmgjhoaaDoorMarkP
namespace Go.Proofs.YtajcleobmgjhoaaDoor
open Go.RowKit
theorem MCmp.val {a b : List Row} {z : Int} (ha : OkL a) (hb : OkL b) (h : MCmp a b z) : z = 0 ∨ z = 1 ∨ z = -1 := by
  rcases h with ⟨_, e⟩ | ⟨_, e⟩
  · rw [e, cmpI]; split <;> (try split) <;> omega
  · exact e.val ha hb
structure MoS (w : World) (A0 : Option Addr) (n0 c0 : Nat) (X0 : List Bg) (A1 : Option Addr) (n1 c1 : Nat) (X1 : List Bg) (A2 : Option Addr) (n2 c2 : Nat) (X2 : List Bg) (lb : Nat) (W : World) : Prop where
  bel : Below w.heap.size w W
  m0 : Mk W A0 n0 c0 X0
  m1 : Mk W A1 n1 c1 X1
  m2 : Mk W A2 n2 c2 X2
  q0 : W.cell? ⟨lb, 0, none⟩ = some (.slice A0 n0 c0)
  q1 : W.cell? ⟨lb, 1, none⟩ = some (.slice A1 n1 c1)
  q2 : W.cell? ⟨lb, 2, none⟩ = some (.slice A2 n2 c2)
theorem MoS.go {w : World} {A0 : Option Addr} {n0 c0 : Nat} {X0 : List Bg} {A1 : Option Addr} {n1 c1 : Nat} {X1 : List Bg} {A2 : Option Addr} {n2 c2 : Nat} {X2 : List Bg} {lb : Nat} {W W' : World} (h : MoS w A0 n0 c0 X0 A1 n1 c1 X1 A2 n2 c2 X2 lb W) (hb : Below W.heap.size W W') : MoS w A0 n0 c0 X0 A1 n1 c1 X1 A2 n2 c2 X2 lb W' :=
  ⟨below_then h.bel hb, h.m0.below hb, h.m1.below hb, h.m2.below hb, cell_kept hb h.q0, cell_kept hb h.q1, cell_kept hb h.q2⟩
theorem okl_of {xs : List Bg} (h : ∀ b ∈ xs, rightB b.l = true) : OkL (rowsB xs) := fun r hr => by
  obtain ⟨b, hb, rfl⟩ := List.mem_map.1 hr
  exact (rightB_iff b.l).1 (h b hb)
set_option maxRecDepth 100000 in
set_option maxHeartbeats 40000000 in
theorem law_MarkMore (hT : Hid Text1) (A0 : Option Addr) (n0 c0 : Nat) (X0 : List Bg) (A1 : Option Addr) (n1 c1 : Nat) (X1 : List Bg) (A2 : Option Addr) (n2 c2 : Nat) (X2 : List Bg) (w : World) (H0 : Hid (Mk w A0 n0 c0 X0)) (z0 : Hid (∀ b ∈ X0, b.n ≤ 8796093022208)) (H1 : Hid (Mk w A1 n1 c1 X1)) (z1 : Hid (∀ b ∈ X1, b.n ≤ 8796093022208)) (H2 : Hid (Mk w A2 n2 c2 X2)) (z2 : Hid (∀ b ∈ X2, b.n ≤ 8796093022208)) :
    Calls Tryd.prog 3 #[.slice A0 n0 c0, .slice A1 n1 c1, .slice A2 n2 c2] w fun e w' => e = .returned (.bool true) ∧ Below w.heap.size w w' := by
  have b0 := H0.out.sl.bound
  have b1 := H1.out.sl.bound
  have b2 := H2.out.sl.bound
  go_enter Tryd.func3, Tryd.ntmps3
  go_wp2_with fail
  refine (law09_small' hT w).mono ?_
  rintro e w1 ⟨rfl, hb⟩
  have ha := below_then hb ((Below.refl _ w1).alloc (Nat.le_refl _) (.cells #[.slice A0 n0 c0, .slice A1 n1 c1, .slice A2 n2 c2] 23))
  have S := Lib.hid (show MoS w A0 n0 c0 X0 A1 n1 c1 X1 A2 n2 c2 X2 w1.heap.size (w1.alloc (.cells #[.slice A0 n0 c0, .slice A1 n1 c1, .slice A2 n2 c2] 23)) from ⟨ha, H0.out.below ha, H1.out.below ha, H2.out.below ha, cell_new w1 _ _ 0 _ rfl, cell_new w1 _ _ 1 _ rfl, cell_new w1 _ _ 2 _ rfl⟩)
  clear ha hb H0 H1 H2
  obtain ⟨lb, hlb⟩ : ∃ lb, lb = w1.heap.size := ⟨_, rfl⟩
  rw [← hlb] at S
  have HLB := Lib.hid hlb
  clear hlb
  go_wp2
  rw [← HLB.out]
  obtain ⟨W0, hW0⟩ : ∃ W0, W0 = w1.alloc (.cells #[.slice A0 n0 c0, .slice A1 n1 c1, .slice A2 n2 c2] 23) := ⟨_, rfl⟩
  rw [← hW0] at S ⊢
  clear hW0 HLB
  refine wp_loop_rounds 4 ?_
  rw [rounds_succ]
  have q0 := S.out.q0
  have q1 := S.out.q1
  have q2 := S.out.q2
  obtain ⟨F0, hF0⟩ : ∃ F, F = fewB X0 := ⟨_, rfl⟩
  have cF := law_Few A0 n0 c0 X0 W0 (Lib.hid S.out.m0) z0
  rw [← hF0] at cF
  have CF := Lib.hid cF
  have HF0 := Lib.hid hF0
  clear hF0 cF
  cases F0 with
  | false =>
    go_wp2_with fail
    refine CF.out.mono ?_
    rintro e w' ⟨rfl, rfl⟩
    go_wp2
    go_ret
    exact ⟨rfl, S.out.bel⟩
  | true =>
    go_wp2_with fail
    refine CF.out.mono ?_
    rintro e w' ⟨rfl, rfl⟩
    have K0 := Lib.hid (few_ok HF0.out.symm)
    clear CF HF0
    clear q0 q1 q2
    go_wp2
    go_loopw [11] (fun v wr => ∃ (k : Nat), k ≤ n0 ∧ v = .int .i64 (k : Int) ∧ Hid (MoS w A0 n0 c0 X0 A1 n1 c1 X1 A2 n2 c2 X2 lb wr) ∧ Hid (∀ b ∈ X0.take k, rightB b.l = true)) (fun v _ => n0 - (RowKit.intOf v).toNat)
    case atStart => exact ⟨0, by omega, rfl, S.out, fun b hb => by simp at hb⟩
    case round =>
      clear S
      obtain ⟨k, hk, rfl, S, hz0⟩ := hrel
      have q0 := S.out.q0
      have q1 := S.out.q1
      have q2 := S.out.q2
      by_cases hlt : k < n0
      · obtain ⟨b1, o1, g, e0, e1, _, e3, _, e4⟩ := S.out.m0.at_ hlt
        have cR := bag_Right g.A g.n g.c g.l wr (Lib.hid (S.out.m0.bag g e3).sl)
        obtain ⟨R, hR⟩ : ∃ R, R = rightB g.l := ⟨_, rfl⟩
        rw [← hR] at cR
        have hst := Lib.hid (show R = true → ∀ b ∈ X0.take (k + 1), rightB b.l = true from fun h b hb => by
          rw [e4] at hb
          rcases List.mem_append.1 hb with hb | hb
          · exact hz0.out b hb
          · rw [List.mem_singleton] at hb
            subst hb
            rw [← hR]; exact h)
        obtain ⟨gA, gn, gc, gl⟩ := g
        simp only at e1 cR
        have CR := Lib.hid cR
        have hlt2 : (k : Int) < (n0 : Int) := by omega
        have hk0 : (0 : Int) ≤ (k : Int) := by omega
        subst e0
        clear e3 e4 hR cR
        cases R with
        | false =>
          go_wp2_with fail
          refine CR.out.mono ?_
          rintro e w2 ⟨rfl, hb⟩
          have S2 := Lib.hid (S.out.go hb)
          clear hb
          go_wp2
          go_ret
          exact ⟨rfl, S2.out.bel⟩
        | true =>
          go_wp2_with fail
          refine CR.out.mono ?_
          rintro e w2 ⟨rfl, hb⟩
          have S2 := Lib.hid (S.out.go hb)
          clear hb
          go_wp2
          go_roundw
          case rel => exact ⟨k + 1, by omega, by go_num, S2.out, hst.out (by first | rfl | trivial)⟩
          case measure => simp [RowKit.intOf]; omega
      ·
        have O0 := Lib.hid (show OkL (rowsB X0) from okl_of (by
          have h := hz0.out
          rw [List.take_of_length_le (by have := S.out.m0.len; omega)] at h
          exact h))
        have Y0 := Lib.hid (show ∀ b ∈ X0, b.n < 100000 from fun b hb => by have := K0.out.2 b hb; omega)
        have hge : (n0 : Int) ≤ (k : Int) := by omega
        clear hz0 hlt
        obtain ⟨W1, hWW⟩ : ∃ W, W = wr := ⟨_, rfl⟩
        rw [← hWW] at S q0 q1 q2
        rw [← hWW]
        clear hWW
        go_wp2
        clear hge hk q0 q1 q2
        rw [rounds_succ]
        have q0 := S.out.q0
        have q1 := S.out.q1
        have q2 := S.out.q2
        obtain ⟨F1, hF1⟩ : ∃ F, F = fewB X1 := ⟨_, rfl⟩
        have cF := law_Few A1 n1 c1 X1 W1 (Lib.hid S.out.m1) z1
        rw [← hF1] at cF
        have CF := Lib.hid cF
        have HF1 := Lib.hid hF1
        clear hF1 cF
        cases F1 with
        | false =>
          go_wp2_with fail
          refine CF.out.mono ?_
          rintro e w' ⟨rfl, rfl⟩
          go_wp2
          go_ret
          exact ⟨rfl, S.out.bel⟩
        | true =>
          go_wp2_with fail
          refine CF.out.mono ?_
          rintro e w' ⟨rfl, rfl⟩
          have K1 := Lib.hid (few_ok HF1.out.symm)
          clear CF HF1
          clear q0 q1 q2
          go_wp2
          go_loopw [11] (fun v wr => ∃ (k : Nat), k ≤ n1 ∧ v = .int .i64 (k : Int) ∧ Hid (MoS w A0 n0 c0 X0 A1 n1 c1 X1 A2 n2 c2 X2 lb wr) ∧ Hid (∀ b ∈ X1.take k, rightB b.l = true)) (fun v _ => n1 - (RowKit.intOf v).toNat)
          case atStart => exact ⟨0, by omega, rfl, S.out, fun b hb => by simp at hb⟩
          case round =>
            clear S
            obtain ⟨k, hk, rfl, S, hz1⟩ := hrel
            have q0 := S.out.q0
            have q1 := S.out.q1
            have q2 := S.out.q2
            by_cases hlt : k < n1
            · obtain ⟨b1, o1, g, e0, e1, _, e3, _, e4⟩ := S.out.m1.at_ hlt
              have cR := bag_Right g.A g.n g.c g.l wr (Lib.hid (S.out.m1.bag g e3).sl)
              obtain ⟨R, hR⟩ : ∃ R, R = rightB g.l := ⟨_, rfl⟩
              rw [← hR] at cR
              have hst := Lib.hid (show R = true → ∀ b ∈ X1.take (k + 1), rightB b.l = true from fun h b hb => by
                rw [e4] at hb
                rcases List.mem_append.1 hb with hb | hb
                · exact hz1.out b hb
                · rw [List.mem_singleton] at hb
                  subst hb
                  rw [← hR]; exact h)
              obtain ⟨gA, gn, gc, gl⟩ := g
              simp only at e1 cR
              have CR := Lib.hid cR
              have hlt2 : (k : Int) < (n1 : Int) := by omega
              have hk0 : (0 : Int) ≤ (k : Int) := by omega
              subst e0
              clear e3 e4 hR cR
              cases R with
              | false =>
                go_wp2_with fail
                refine CR.out.mono ?_
                rintro e w2 ⟨rfl, hb⟩
                have S2 := Lib.hid (S.out.go hb)
                clear hb
                go_wp2
                go_ret
                exact ⟨rfl, S2.out.bel⟩
              | true =>
                go_wp2_with fail
                refine CR.out.mono ?_
                rintro e w2 ⟨rfl, hb⟩
                have S2 := Lib.hid (S.out.go hb)
                clear hb
                go_wp2
                go_roundw
                case rel => exact ⟨k + 1, by omega, by go_num, S2.out, hst.out (by first | rfl | trivial)⟩
                case measure => simp [RowKit.intOf]; omega
            ·
              have O1 := Lib.hid (show OkL (rowsB X1) from okl_of (by
                have h := hz1.out
                rw [List.take_of_length_le (by have := S.out.m1.len; omega)] at h
                exact h))
              have Y1 := Lib.hid (show ∀ b ∈ X1, b.n < 100000 from fun b hb => by have := K1.out.2 b hb; omega)
              have hge : (n1 : Int) ≤ (k : Int) := by omega
              clear hz1 hlt
              obtain ⟨W2, hWW⟩ : ∃ W, W = wr := ⟨_, rfl⟩
              rw [← hWW] at S q0 q1 q2
              rw [← hWW]
              clear hWW
              go_wp2
              clear hge hk q0 q1 q2
              rw [rounds_succ]
              have q0 := S.out.q0
              have q1 := S.out.q1
              have q2 := S.out.q2
              obtain ⟨F2, hF2⟩ : ∃ F, F = fewB X2 := ⟨_, rfl⟩
              have cF := law_Few A2 n2 c2 X2 W2 (Lib.hid S.out.m2) z2
              rw [← hF2] at cF
              have CF := Lib.hid cF
              have HF2 := Lib.hid hF2
              clear hF2 cF
              cases F2 with
              | false =>
                go_wp2_with fail
                refine CF.out.mono ?_
                rintro e w' ⟨rfl, rfl⟩
                go_wp2
                go_ret
                exact ⟨rfl, S.out.bel⟩
              | true =>
                go_wp2_with fail
                refine CF.out.mono ?_
                rintro e w' ⟨rfl, rfl⟩
                have K2 := Lib.hid (few_ok HF2.out.symm)
                clear CF HF2
                clear q0 q1 q2
                go_wp2
                go_loopw [11] (fun v wr => ∃ (k : Nat), k ≤ n2 ∧ v = .int .i64 (k : Int) ∧ Hid (MoS w A0 n0 c0 X0 A1 n1 c1 X1 A2 n2 c2 X2 lb wr) ∧ Hid (∀ b ∈ X2.take k, rightB b.l = true)) (fun v _ => n2 - (RowKit.intOf v).toNat)
                case atStart => exact ⟨0, by omega, rfl, S.out, fun b hb => by simp at hb⟩
                case round =>
                  clear S
                  obtain ⟨k, hk, rfl, S, hz2⟩ := hrel
                  have q0 := S.out.q0
                  have q1 := S.out.q1
                  have q2 := S.out.q2
                  by_cases hlt : k < n2
                  · obtain ⟨b1, o1, g, e0, e1, _, e3, _, e4⟩ := S.out.m2.at_ hlt
                    have cR := bag_Right g.A g.n g.c g.l wr (Lib.hid (S.out.m2.bag g e3).sl)
                    obtain ⟨R, hR⟩ : ∃ R, R = rightB g.l := ⟨_, rfl⟩
                    rw [← hR] at cR
                    have hst := Lib.hid (show R = true → ∀ b ∈ X2.take (k + 1), rightB b.l = true from fun h b hb => by
                      rw [e4] at hb
                      rcases List.mem_append.1 hb with hb | hb
                      · exact hz2.out b hb
                      · rw [List.mem_singleton] at hb
                        subst hb
                        rw [← hR]; exact h)
                    obtain ⟨gA, gn, gc, gl⟩ := g
                    simp only at e1 cR
                    have CR := Lib.hid cR
                    have hlt2 : (k : Int) < (n2 : Int) := by omega
                    have hk0 : (0 : Int) ≤ (k : Int) := by omega
                    subst e0
                    clear e3 e4 hR cR
                    cases R with
                    | false =>
                      go_wp2_with fail
                      refine CR.out.mono ?_
                      rintro e w2 ⟨rfl, hb⟩
                      have S2 := Lib.hid (S.out.go hb)
                      clear hb
                      go_wp2
                      go_ret
                      exact ⟨rfl, S2.out.bel⟩
                    | true =>
                      go_wp2_with fail
                      refine CR.out.mono ?_
                      rintro e w2 ⟨rfl, hb⟩
                      have S2 := Lib.hid (S.out.go hb)
                      clear hb
                      go_wp2
                      go_roundw
                      case rel => exact ⟨k + 1, by omega, by go_num, S2.out, hst.out (by first | rfl | trivial)⟩
                      case measure => simp [RowKit.intOf]; omega
                  ·
                    have O2 := Lib.hid (show OkL (rowsB X2) from okl_of (by
                      have h := hz2.out
                      rw [List.take_of_length_le (by have := S.out.m2.len; omega)] at h
                      exact h))
                    have Y2 := Lib.hid (show ∀ b ∈ X2, b.n < 100000 from fun b hb => by have := K2.out.2 b hb; omega)
                    have hge : (n2 : Int) ≤ (k : Int) := by omega
                    clear hz2 hlt
                    obtain ⟨W3, hWW⟩ : ∃ W, W = wr := ⟨_, rfl⟩
                    rw [← hWW] at S q0 q1 q2
                    rw [← hWW]
                    clear hWW
                    go_wp2
                    clear hge hk q0 q1 q2
                    rw [rounds_succ]
                    go_wp2_with fail
                    refine (mark_Compare A0 n0 c0 X0 A1 n1 c1 X1 _ (Lib.hid S.out.m0) (Lib.hid S.out.m1) Y0 Y1).mono ?_
                    rintro e w4 ⟨⟨z, rfl, hz⟩, hb⟩
                    replace S := Lib.hid (S.out.go hb)
                    have HZ := Lib.hid hz
                    have hv := hz.val O0.out O1.out
                    clear hb hz
                    go_wp2_with fail
                    refine (mark_Compare A1 n1 c1 X1 A0 n0 c0 X0 _ (Lib.hid S.out.m1) (Lib.hid S.out.m0) Y1 Y0).mono ?_
                    rintro e w5 ⟨⟨y, rfl, hy⟩, hb⟩
                    replace S := Lib.hid (S.out.go hb)
                    have hyz := HZ.out.swap O0.out O1.out hy
                    subst hyz
                    clear hb hy
                    obtain ⟨sm, hsm⟩ : ∃ s, s = allF sameR (rowsB X0) (rowsB X1) := ⟨_, rfl⟩
                    have hsz := HZ.out.same O0.out O1.out
                    rw [← hsm] at hsz
                    have cS := Lib.hid (mark_Same A0 n0 c0 X0 A1 n1 c1 X1 w5 (Lib.hid S.out.m0) (Lib.hid S.out.m1))
                    rw [← hsm] at cS
                    clear hsm
                    obtain ⟨wi, hwi⟩ : ∃ s, s = allF withR (rowsB X0) (rowsB X1) := ⟨_, rfl⟩
                    have HWI := Lib.hid hwi
                    have hle := Lib.hid (show wi = true → z ≤ 0 from fun h => HZ.out.le O0.out O1.out (by rw [← HWI.out]; exact h))
                    clear hwi
                    rcases hv with rfl | rfl | rfl
                    · have hs0 : sm = true := hsz.1 rfl
                      subst hs0
                      clear hsz
                      go_wp2_with fail
                      refine cS.out.mono ?_
                      rintro e w6 ⟨rfl, hb⟩
                      replace S := Lib.hid (S.out.go hb)
                      clear hb cS
                      have cX := mark_Within A0 n0 c0 X0 A1 n1 c1 X1 _ (Lib.hid S.out.m0) (Lib.hid S.out.m1) Y0 Y1
                      rw [← HWI.out] at cX
                      have CX := Lib.hid cX
                      clear cX
                      cases wi with
                      | false =>
                        go_wp2_with fail
                        refine CX.out.mono ?_
                        rintro e w10 ⟨rfl, hb⟩
                        replace S := Lib.hid (S.out.go hb)
                        clear hb CX
                        have cX := mark_Within A0 n0 c0 X0 A1 n1 c1 X1 _ (Lib.hid S.out.m0) (Lib.hid S.out.m1) Y0 Y1
                        rw [← HWI.out] at cX
                        have CX := Lib.hid cX
                        clear cX
                        go_wp2_with fail
                        refine CX.out.mono ?_
                        rintro e w11 ⟨rfl, hb⟩
                        replace S := Lib.hid (S.out.go hb)
                        clear hb CX
                        go_wp2
                        go_ret
                        exact ⟨rfl, S.out.bel⟩
                      | true =>
                        go_wp2_with fail
                        refine CX.out.mono ?_
                        rintro e w10 ⟨rfl, hb⟩
                        replace S := Lib.hid (S.out.go hb)
                        clear hb CX
                        have cX := mark_Within A0 n0 c0 X0 A1 n1 c1 X1 _ (Lib.hid S.out.m0) (Lib.hid S.out.m1) Y0 Y1
                        rw [← HWI.out] at cX
                        have CX := Lib.hid cX
                        clear cX
                        go_wp2_with fail
                        refine CX.out.mono ?_
                        rintro e w11 ⟨rfl, hb⟩
                        replace S := Lib.hid (S.out.go hb)
                        clear hb CX
                        obtain ⟨wj, hwj⟩ : ∃ s, s = allF withR (rowsB X1) (rowsB X2) := ⟨_, rfl⟩
                        have cX := mark_Within A1 n1 c1 X1 A2 n2 c2 X2 _ (Lib.hid S.out.m1) (Lib.hid S.out.m2) Y1 Y2
                        rw [← hwj] at cX
                        have CX := Lib.hid cX
                        have HWJ := Lib.hid hwj
                        clear cX hwj
                        cases wj with
                        | false =>
                          go_wp2_with fail
                          refine CX.out.mono ?_
                          rintro e w12 ⟨rfl, hb⟩
                          replace S := Lib.hid (S.out.go hb)
                          clear hb CX
                          go_wp2
                          go_ret
                          exact ⟨rfl, S.out.bel⟩
                        | true =>
                          go_wp2_with fail
                          refine CX.out.mono ?_
                          rintro e w12 ⟨rfl, hb⟩
                          replace S := Lib.hid (S.out.go hb)
                          clear hb CX
                          have cX := mark_Within A0 n0 c0 X0 A2 n2 c2 X2 _ (Lib.hid S.out.m0) (Lib.hid S.out.m2) Y0 Y2
                          rw [allF_within O0.out O1.out O2.out HWI.out.symm HWJ.out.symm] at cX
                          have CX := Lib.hid cX
                          clear cX
                          go_wp2_with fail
                          refine CX.out.mono ?_
                          rintro e w13 ⟨rfl, hb⟩
                          replace S := Lib.hid (S.out.go hb)
                          clear hb CX
                          go_wp2
                          go_ret
                          exact ⟨rfl, S.out.bel⟩
                    · have hs0 : sm = false := by cases sm with | false => rfl | true => exact absurd (hsz.2 rfl) (by omega)
                      subst hs0
                      clear hsz
                      go_wp2_with fail
                      refine cS.out.mono ?_
                      rintro e w6 ⟨rfl, hb⟩
                      replace S := Lib.hid (S.out.go hb)
                      clear hb cS
                      have cX := mark_Within A0 n0 c0 X0 A1 n1 c1 X1 _ (Lib.hid S.out.m0) (Lib.hid S.out.m1) Y0 Y1
                      rw [← HWI.out] at cX
                      have CX := Lib.hid cX
                      clear cX
                      cases wi with
                      | false =>
                        go_wp2_with fail
                        refine CX.out.mono ?_
                        rintro e w10 ⟨rfl, hb⟩
                        replace S := Lib.hid (S.out.go hb)
                        clear hb CX
                        have cX := mark_Within A0 n0 c0 X0 A1 n1 c1 X1 _ (Lib.hid S.out.m0) (Lib.hid S.out.m1) Y0 Y1
                        rw [← HWI.out] at cX
                        have CX := Lib.hid cX
                        clear cX
                        go_wp2_with fail
                        refine CX.out.mono ?_
                        rintro e w11 ⟨rfl, hb⟩
                        replace S := Lib.hid (S.out.go hb)
                        clear hb CX
                        go_wp2
                        go_ret
                        exact ⟨rfl, S.out.bel⟩
                      | true =>
                        exfalso
                        have := hle.out rfl
                        omega
                    · have hs0 : sm = false := by cases sm with | false => rfl | true => exact absurd (hsz.2 rfl) (by omega)
                      subst hs0
                      clear hsz
                      go_wp2_with fail
                      refine cS.out.mono ?_
                      rintro e w6 ⟨rfl, hb⟩
                      replace S := Lib.hid (S.out.go hb)
                      clear hb cS
                      go_wp2_with fail
                      refine (mark_Compare A1 n1 c1 X1 A2 n2 c2 X2 _ (Lib.hid S.out.m1) (Lib.hid S.out.m2) Y1 Y2).mono ?_
                      rintro e w7 ⟨⟨m, rfl, hm⟩, hb⟩
                      replace S := Lib.hid (S.out.go hb)
                      have HM := Lib.hid hm
                      clear hb hm
                      by_cases hm0 : m < 0
                      · go_wp2_with fail
                        refine (mark_Compare A0 n0 c0 X0 A2 n2 c2 X2 _ (Lib.hid S.out.m0) (Lib.hid S.out.m2) Y0 Y2).mono ?_
                        rintro e w8 ⟨⟨u, rfl, hu⟩, hb⟩
                        replace S := Lib.hid (S.out.go hb)
                        have hu0 : u < 0 := MCmp.trans O0.out O1.out O2.out HZ.out HM.out hu (by omega) hm0
                        clear hb hu
                        have cX := mark_Within A0 n0 c0 X0 A1 n1 c1 X1 _ (Lib.hid S.out.m0) (Lib.hid S.out.m1) Y0 Y1
                        rw [← HWI.out] at cX
                        have CX := Lib.hid cX
                        clear cX
                        cases wi with
                        | false =>
                          go_wp2_with fail
                          refine CX.out.mono ?_
                          rintro e w10 ⟨rfl, hb⟩
                          replace S := Lib.hid (S.out.go hb)
                          clear hb CX
                          have cX := mark_Within A0 n0 c0 X0 A1 n1 c1 X1 _ (Lib.hid S.out.m0) (Lib.hid S.out.m1) Y0 Y1
                          rw [← HWI.out] at cX
                          have CX := Lib.hid cX
                          clear cX
                          go_wp2_with fail
                          refine CX.out.mono ?_
                          rintro e w11 ⟨rfl, hb⟩
                          replace S := Lib.hid (S.out.go hb)
                          clear hb CX
                          go_wp2
                          go_ret
                          exact ⟨rfl, S.out.bel⟩
                        | true =>
                          go_wp2_with fail
                          refine CX.out.mono ?_
                          rintro e w10 ⟨rfl, hb⟩
                          replace S := Lib.hid (S.out.go hb)
                          clear hb CX
                          have cX := mark_Within A0 n0 c0 X0 A1 n1 c1 X1 _ (Lib.hid S.out.m0) (Lib.hid S.out.m1) Y0 Y1
                          rw [← HWI.out] at cX
                          have CX := Lib.hid cX
                          clear cX
                          go_wp2_with fail
                          refine CX.out.mono ?_
                          rintro e w11 ⟨rfl, hb⟩
                          replace S := Lib.hid (S.out.go hb)
                          clear hb CX
                          obtain ⟨wj, hwj⟩ : ∃ s, s = allF withR (rowsB X1) (rowsB X2) := ⟨_, rfl⟩
                          have cX := mark_Within A1 n1 c1 X1 A2 n2 c2 X2 _ (Lib.hid S.out.m1) (Lib.hid S.out.m2) Y1 Y2
                          rw [← hwj] at cX
                          have CX := Lib.hid cX
                          have HWJ := Lib.hid hwj
                          clear cX hwj
                          cases wj with
                          | false =>
                            go_wp2_with fail
                            refine CX.out.mono ?_
                            rintro e w12 ⟨rfl, hb⟩
                            replace S := Lib.hid (S.out.go hb)
                            clear hb CX
                            go_wp2
                            go_ret
                            exact ⟨rfl, S.out.bel⟩
                          | true =>
                            go_wp2_with fail
                            refine CX.out.mono ?_
                            rintro e w12 ⟨rfl, hb⟩
                            replace S := Lib.hid (S.out.go hb)
                            clear hb CX
                            have cX := mark_Within A0 n0 c0 X0 A2 n2 c2 X2 _ (Lib.hid S.out.m0) (Lib.hid S.out.m2) Y0 Y2
                            rw [allF_within O0.out O1.out O2.out HWI.out.symm HWJ.out.symm] at cX
                            have CX := Lib.hid cX
                            clear cX
                            go_wp2_with fail
                            refine CX.out.mono ?_
                            rintro e w13 ⟨rfl, hb⟩
                            replace S := Lib.hid (S.out.go hb)
                            clear hb CX
                            go_wp2
                            go_ret
                            exact ⟨rfl, S.out.bel⟩
                      · have hm1 : 0 ≤ m := by omega
                        clear hm0
                        have cX := mark_Within A0 n0 c0 X0 A1 n1 c1 X1 _ (Lib.hid S.out.m0) (Lib.hid S.out.m1) Y0 Y1
                        rw [← HWI.out] at cX
                        have CX := Lib.hid cX
                        clear cX
                        cases wi with
                        | false =>
                          go_wp2_with fail
                          refine CX.out.mono ?_
                          rintro e w10 ⟨rfl, hb⟩
                          replace S := Lib.hid (S.out.go hb)
                          clear hb CX
                          have cX := mark_Within A0 n0 c0 X0 A1 n1 c1 X1 _ (Lib.hid S.out.m0) (Lib.hid S.out.m1) Y0 Y1
                          rw [← HWI.out] at cX
                          have CX := Lib.hid cX
                          clear cX
                          go_wp2_with fail
                          refine CX.out.mono ?_
                          rintro e w11 ⟨rfl, hb⟩
                          replace S := Lib.hid (S.out.go hb)
                          clear hb CX
                          go_wp2
                          go_ret
                          exact ⟨rfl, S.out.bel⟩
                        | true =>
                          go_wp2_with fail
                          refine CX.out.mono ?_
                          rintro e w10 ⟨rfl, hb⟩
                          replace S := Lib.hid (S.out.go hb)
                          clear hb CX
                          have cX := mark_Within A0 n0 c0 X0 A1 n1 c1 X1 _ (Lib.hid S.out.m0) (Lib.hid S.out.m1) Y0 Y1
                          rw [← HWI.out] at cX
                          have CX := Lib.hid cX
                          clear cX
                          go_wp2_with fail
                          refine CX.out.mono ?_
                          rintro e w11 ⟨rfl, hb⟩
                          replace S := Lib.hid (S.out.go hb)
                          clear hb CX
                          obtain ⟨wj, hwj⟩ : ∃ s, s = allF withR (rowsB X1) (rowsB X2) := ⟨_, rfl⟩
                          have cX := mark_Within A1 n1 c1 X1 A2 n2 c2 X2 _ (Lib.hid S.out.m1) (Lib.hid S.out.m2) Y1 Y2
                          rw [← hwj] at cX
                          have CX := Lib.hid cX
                          have HWJ := Lib.hid hwj
                          clear cX hwj
                          cases wj with
                          | false =>
                            go_wp2_with fail
                            refine CX.out.mono ?_
                            rintro e w12 ⟨rfl, hb⟩
                            replace S := Lib.hid (S.out.go hb)
                            clear hb CX
                            go_wp2
                            go_ret
                            exact ⟨rfl, S.out.bel⟩
                          | true =>
                            go_wp2_with fail
                            refine CX.out.mono ?_
                            rintro e w12 ⟨rfl, hb⟩
                            replace S := Lib.hid (S.out.go hb)
                            clear hb CX
                            have cX := mark_Within A0 n0 c0 X0 A2 n2 c2 X2 _ (Lib.hid S.out.m0) (Lib.hid S.out.m2) Y0 Y2
                            rw [allF_within O0.out O1.out O2.out HWI.out.symm HWJ.out.symm] at cX
                            have CX := Lib.hid cX
                            clear cX
                            go_wp2_with fail
                            refine CX.out.mono ?_
                            rintro e w13 ⟨rfl, hb⟩
                            replace S := Lib.hid (S.out.go hb)
                            clear hb CX
                            go_wp2
                            go_ret
                            exact ⟨rfl, S.out.bel⟩
end Go.Proofs.YtajcleobmgjhoaaDoor
