/- Contracts of container/heap at timer's entries: down. -/
import Derived.Test.YtkcggnfbmbfciaaTimC
namespace Go.Proofs.Ytkcggnfbmbfciaa
open Go.RowKit
/-- What down leaves. -/
structure Down (w w' : World) (g b cap m i : Nat) (hs hs' : List Ent) (moved : Bool) : Prop where
  at_ : HAt w' g b cap hs'
  perm : hs'.Perm hs
  far : ∀ x, m ≤ x → gE hs' x = gE hs x
  only : Only (OwnL b hs) w w'
  yes : moved = true → HeapN hs' m
  no : moved = false → hs' = hs ∧ ∀ k, 0 < k → k < m → (k - 1) / 2 = i → leE (gE hs i) (gE hs k)
/-- The relation of the loop. -/
structure DownL (w wr : World) (g b cap m i k : Nat) (hs l : List Ent) : Prop where
  at_ : HAt wr g b cap l
  perm : l.Perm hs
  far : ∀ x, m ≤ x → gE l x = gE hs x
  only : Only (OwnL b hs) w wr
  hole : HoleN l m k
  above : i < k → leE (gE l ((k - 1) / 2)) (gE l k)
  same : i = k → l = hs
  ge : i ≤ k
theorem DownL.done {w wr : World} {g b cap m i k : Nat} {hs l : List Ent} (h : DownL w wr g b cap m i k hs l) (q : Nat) (hc : ∀ x, 0 < x → x < m → (x - 1) / 2 = k → leE (gE l k) (gE l x)) : Down w (wr.drewN q) g b cap m i hs l (decide (i < k)) where
  at_ := h.at_.drewN q
  perm := h.perm
  far := h.far
  only := h.only.drewN q
  yes := fun hlt => down_done h.hole (fun _ => h.above (by simpa using hlt)) hc
  no := fun hno => by
    have e : i = k := by have := h.ge; simp at hno; omega
    subst e
    have := h.same rfl
    subst this
    exact ⟨rfl, hc⟩
/-- One step. -/
theorem DownL.step {w wr w2 : World} {g b cap m i k c : Nat} {hs l : List Ent} (h : DownL w wr g b cap m i k hs l) (hm : m ≤ l.length) (c0 : 0 < c) (cm : c < m) (hck : (c - 1) / 2 = k)
    (hmin : ∀ x, 0 < x → x < m → (x - 1) / 2 = k → leE (gE l c) (gE l x)) (hlt : ltE (gE l c) (gE l k)) (hl : Lies w2 b cap (swp l k c)) (q : Nat) (ho : Only (OwnL b l) (wr.drewN q) w2) : DownL w w2 g b cap m i c hs (swp l k c) := by
  have hk : k < l.length := by omega
  have hc : c < l.length := by omega
  obtain ⟨h1, h2⟩ := down_step h.hole c0 cm hm hck hmin hlt
  refine ⟨(h.at_.drewN q).step (by omega) hl (swp_len _ _ _) ho, (swp_perm hk hc).trans h.perm, fun x hx => ?_, (h.only.drewN q).trans (ho.mono fun x _ hx => OwnL.perm h.perm.symm hx), h1, fun _ => h2, fun e => ?_, ?_⟩
  · rw [swp_get hk hc, if_neg (by omega), if_neg (by omega)]; exact h.far x hx
  · have := h.ge; omega
  · have := h.ge; omega
theorem drew2 (w : World) (a b : Nat) : (w.drewN a).drewN b = w.drewN (a + b) := World.drewN_drewN _ _ _
/-- The lesser kid. -/
theorem kid_min {l : List Ent} {m k c : Nat} (hc : (c = 2 * k + 1 ∧ (2 * k + 2 < m → leE (gE l (2 * k + 1)) (gE l (2 * k + 2)))) ∨ (c = 2 * k + 2 ∧ ltE (gE l (2 * k + 2)) (gE l (2 * k + 1)))) :
    ∀ x, 0 < x → x < m → (x - 1) / 2 = k → leE (gE l c) (gE l x) := by
  intro x x0 xm hx
  have : x = 2 * k + 1 ∨ x = 2 * k + 2 := by omega
  rcases hc with ⟨rfl, h⟩ | ⟨rfl, h⟩ <;> rcases this with rfl | rfl
  · exact leE_refl _
  · exact h xm
  · exact leE_of_lt h
  · exact leE_refl _
set_option maxRecDepth 100000 in
set_option maxHeartbeats 2000000 in
theorem tim_down (g b cap m : Nat) (hs : List Ent) (i : Nat) (w : World) (H : Hid (HAt w g b cap hs)) (hi : i ≤ m) (hm : m ≤ 4611686018427387903) (hml : Hid (m ≤ hs.length)) (hU : Hid (HoleN hs m i)) :
    Calls Try.prog 35 #[.iface 59 (.pointer (some ⟨g, 0, none⟩)), .int .i64 (i : Int), .int .i64 (m : Int)] w fun e w' => ∃ mv hs', e = .returned (.bool mv) ∧ Down w w' g b cap m i hs hs' mv := by
  go_enter Try.func35, Try.ntmps35
  go_wp2
  go_loopw [7] (fun v wr => ∃ (k : Nat) (l : List Ent), v = .int .i64 (k : Int) ∧ k ≤ m ∧ Hid (DownL w wr g b cap m i k hs l)) (fun v _ => m - (intOf v).toNat)
  case atStart => exact ⟨i, hs, rfl, hi, H.out, .refl _, fun _ _ => rfl, Only.refl _ _, hU.out, fun h => absurd h (Nat.lt_irrefl _), fun _ => rfl, Nat.le_refl _⟩
  case round =>
    obtain ⟨k, l, rfl, hk, hD⟩ := hrel
    have hl1 : m ≤ l.length := by rw [hD.out.perm.length_eq]; exact hml.out
    have HL1 := Lib.hid hl1
    obtain ⟨n, hn⟩ : ∃ n, n = l.length := ⟨_, rfl⟩
    have HN := Lib.hid hn
    have hq := hD.out.at_.q
    rw [← hn] at hl1 hq
    clear hn
    have m1 := method_Less hq
    have mL := fun q => Lib.hid (method_Less (w := wr.drewN q) hq)
    have mS := fun q => Lib.hid (method_Swap (w := wr.drewN q) hq)
    clear hq
    have cl := fun x y (hx : x < n) (hy : y < n) q => Lib.hid (tim_Less b cap l x y n (wr.drewN q) (Lib.hid (hD.out.at_.lies.drewN q)) HN hx hy)
    have cs := fun x y (hx : x < n) (hy : y < n) (hne : x ≠ y) q => Lib.hid (tim_Swap b cap l x y n (wr.drewN q) (Lib.hid (hD.out.at_.lies.drewN q)) HN hx hy hne)
    by_cases h1 : 2 * k + 1 < m
    · have t1 : (2 : Int) * (k : Int) + 1 < (m : Int) := by omega
      obtain ⟨c1, hc1⟩ : ∃ c1, c1 = 2 * k + 1 := ⟨_, rfl⟩
      obtain ⟨c2, hc2⟩ : ∃ c2, c2 = 2 * k + 2 := ⟨_, rfl⟩
      have E1 := Lib.hid (show (2 : Int) * (k : Int) + 1 = (c1 : Int) by omega)
      have E2 := Lib.hid (show (c1 : Int) + 1 = (c2 : Int) by omega)
      have HC1 := Lib.hid hc1
      have HC2 := Lib.hid hc2
      have l1 : c1 < n := by omega
      have l0 : k < n := by omega
      have l3 : c1 < m := by omega
      by_cases h2 : c2 < m
      · have t2 : (2 : Int) * (k : Int) + 1 + 1 < (m : Int) := by omega
        have l2 : c2 < n := by omega
        clear hc1 hc2 h1
        obtain ⟨b1, hb1⟩ : ∃ b1, b1 = ltB (gE l c2) (gE l c1) := ⟨_, rfl⟩
        have cl1 := cl c2 c1 l2 l1
        rw [← hb1] at cl1
        have HB1 := Lib.hid hb1
        clear hb1
        cases b1
        · obtain ⟨b2, hb2⟩ : ∃ b2, b2 = ltB (gE l c1) (gE l k) := ⟨_, rfl⟩
          have cl2 := cl c1 k l1 l0
          rw [← hb2] at cl2
          have HB2 := Lib.hid hb2
          clear hb2
          have HM : Hid (∀ x, 0 < x → x < m → (x - 1) / 2 = k → leE (gE l c1) (gE l x)) := kid_min (.inl ⟨HC1.out, fun _ => by rw [← HC1.out, ← HC2.out]; exact ltB_false.1 HB1.out.symm⟩)
          cases b2
          all_goals
            go_wp2_with fail
            rw [E1.out, E2.out]
            refine (cl1 0).out.mono ?_
            rintro e w1 ⟨rfl, q1, rfl⟩
            clear m1
            rw [drew2]
            have m1 := (mL q1).out
            go_wp2_with fail
            refine (cl2 _).out.mono ?_
            rintro e w1 ⟨rfl, q2, rfl⟩
            rw [drew2]
            clear m1
            first
              | (go_wp2
                 go_ret
                 exact ⟨_, l, rfl, hD.out.done _ fun x x0 xm hx => leE_trans (ltB_false.1 HB2.out.symm) (HM.out x x0 xm hx)⟩)
              | (have m1 := (mS (q1 + q2)).out
                 go_wp2_with fail
                 refine (cs k c1 l0 l1 (by have := HC1.out; omega) _).out.mono ?_
                 rintro e w2 ⟨rfl, hL2, hO2⟩
                 have D2 := Lib.hid (hD.out.step (c := c1) HL1.out (by have := HC1.out; omega) l3 (by have := HC1.out; omega) HM.out (ltB_iff.1 HB2.out.symm) hL2 _ hO2)
                 have K2 : k < c1 := by have := HC1.out; omega
                 clear hL2 hO2 m1 cl1 cl2
                 go_wp2
                 go_roundw
                 case rel => exact ⟨c1, _, rfl, by omega, D2⟩
                 case measure => simp [intOf]; omega)
        · obtain ⟨b2, hb2⟩ : ∃ b2, b2 = ltB (gE l c2) (gE l k) := ⟨_, rfl⟩
          have cl2 := cl c2 k l2 l0
          rw [← hb2] at cl2
          have HB2 := Lib.hid hb2
          clear hb2
          have HM : Hid (∀ x, 0 < x → x < m → (x - 1) / 2 = k → leE (gE l c2) (gE l x)) := kid_min (.inr ⟨HC2.out, by rw [← HC1.out, ← HC2.out]; exact ltB_iff.1 HB1.out.symm⟩)
          cases b2
          all_goals
            go_wp2_with fail
            rw [E1.out, E2.out]
            refine (cl1 0).out.mono ?_
            rintro e w1 ⟨rfl, q1, rfl⟩
            clear m1
            rw [drew2]
            have m1 := (mL q1).out
            go_wp2_with fail
            refine (cl2 _).out.mono ?_
            rintro e w1 ⟨rfl, q2, rfl⟩
            rw [drew2]
            clear m1
            first
              | (go_wp2
                 go_ret
                 exact ⟨_, l, rfl, hD.out.done _ fun x x0 xm hx => leE_trans (ltB_false.1 HB2.out.symm) (HM.out x x0 xm hx)⟩)
              | (have m1 := (mS (q1 + q2)).out
                 go_wp2_with fail
                 refine (cs k c2 l0 l2 (by have := HC2.out; omega) _).out.mono ?_
                 rintro e w2 ⟨rfl, hL2, hO2⟩
                 have D2 := Lib.hid (hD.out.step (c := c2) HL1.out (by have := HC2.out; omega) h2 (by have := HC2.out; omega) HM.out (ltB_iff.1 HB2.out.symm) hL2 _ hO2)
                 have K2 : k < c2 := by have := HC2.out; omega
                 clear hL2 hO2 m1 cl1 cl2
                 go_wp2
                 go_roundw
                 case rel => exact ⟨c2, _, rfl, by omega, D2⟩
                 case measure => simp [intOf]; omega)
      · have t2 : decide ((2 : Int) * (k : Int) + 1 + 1 < (m : Int)) = false := by simp; omega
        obtain ⟨b2, hb2⟩ : ∃ b2, b2 = ltB (gE l c1) (gE l k) := ⟨_, rfl⟩
        have cl2 := cl c1 k l1 l0
        rw [← hb2] at cl2
        have HB2 := Lib.hid hb2
        clear hb2
        have HM : Hid (∀ x, 0 < x → x < m → (x - 1) / 2 = k → leE (gE l c1) (gE l x)) := kid_min (.inl ⟨HC1.out, fun h => absurd h (by omega)⟩)
        clear hc1 hc2 h1
        cases b2
        all_goals
          go_wp2_with fail
          rw [E1.out]
          refine (cl2 0).out.mono ?_
          rintro e w1 ⟨rfl, q2, rfl⟩
          rw [drew2]
          clear m1
          first
            | (go_wp2
               go_ret
               exact ⟨_, l, rfl, hD.out.done _ fun x x0 xm hx => leE_trans (ltB_false.1 HB2.out.symm) (HM.out x x0 xm hx)⟩)
            | (have m1 := (mS q2).out
               go_wp2_with fail
               refine (cs k c1 l0 l1 (by have := HC1.out; omega) _).out.mono ?_
               rintro e w2 ⟨rfl, hL2, hO2⟩
               have D2 := Lib.hid (hD.out.step (c := c1) HL1.out (by have := HC1.out; omega) l3 (by have := HC1.out; omega) HM.out (ltB_iff.1 HB2.out.symm) hL2 _ hO2)
               have K2 : k < c1 := by have := HC1.out; omega
               clear hL2 hO2 m1 cl2
               go_wp2
               go_roundw
               case rel => exact ⟨c1, _, rfl, by omega, D2⟩
               case measure => simp [intOf]; omega)
    · have t1 : (m : Int) ≤ 2 * (k : Int) + 1 := by omega
      have HM : Hid (∀ x, 0 < x → x < m → (x - 1) / 2 = k → leE (gE l k) (gE l x)) := fun x x0 xm hx => by omega
      go_wp2
      go_ret
      exact ⟨_, l, rfl, hD.out.done 0 HM.out⟩
end Go.Proofs.Ytkcggnfbmbfciaa
