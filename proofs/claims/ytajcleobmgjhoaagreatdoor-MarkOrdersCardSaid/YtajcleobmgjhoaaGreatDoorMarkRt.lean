/- Law MarkOrders: the walk. -/
import Derived.Test.YtajcleobmgjhoaaGreatDoorMarkRs
import Derived.Test.YtajcleobmgjhoaaGreatDoorMarkP
import Derived.Test.YtajcleobmgjhoaaGreatDoorMarkQ
import Derived.Test.YtajcleobmgjhoaaGreatDoorMarkT
import Derived.Deep.RegionWith
namespace Go.Proofs.YtajcleobmgjhoaaGreatDoor
open Go.RowKit
theorem CmpR.uniqR {a b : Row} {x y : Int} (h : CmpR a b x) (h2 : CmpR a b y) : x = y := by
  rcases h with ⟨h, e⟩ | ⟨h, e⟩ <;> rcases h2 with ⟨h2, e2⟩ | ⟨h2, e2⟩
  · rw [e, e2]
  · rw [h] at h2; cases h2
  · rw [h] at h2; cases h2
  · exact e.uniq e2
theorem CmpL.uniq : ∀ {a b : List Row} {x y : Int}, CmpL a b x → CmpL a b y → x = y
  | [], [], x, y, h, h2 => by
    have e1 : x = 0 := h
    have e2 : y = 0 := h2
    omega
  | [], _ :: _, _, _, h, _ => h.elim
  | _ :: _, [], _, _, h, _ => h.elim
  | a :: r, b :: s, x, y, h, h2 => by
    obtain ⟨u, hu, h3⟩ := h
    obtain ⟨v, hv, h4⟩ := h2
    have e := hu.uniqR hv
    rcases h3 with ⟨n1, e1⟩ | ⟨n1, h3⟩ <;> rcases h4 with ⟨n2, e2⟩ | ⟨n2, h4⟩
    · omega
    · omega
    · omega
    · exact CmpL.uniq h3 h4
theorem MCmp.uniq {a b : List Row} {x y : Int} (h : MCmp a b x) (h2 : MCmp a b y) : x = y := by
  rcases h with ⟨h, e⟩ | ⟨h, e⟩ <;> rcases h2 with ⟨h2, e2⟩ | ⟨h2, e2⟩
  · omega
  · exact absurd h2 h
  · exact absurd h h2
  · exact e.uniq e2
set_option maxRecDepth 100000 in
set_option maxHeartbeats 4000000 in
theorem law_MarkOrders (hT : Hid Text1) (A0 : Option Addr) (n0 c0 : Nat) (X0 : List Bg) (A1 : Option Addr) (n1 c1 : Nat) (X1 : List Bg) (w : World) (H0 : Hid (Mk w A0 n0 c0 X0)) (z0 : Hid (∀ b ∈ X0, b.n ≤ 8796093022208)) (H1 : Hid (Mk w A1 n1 c1 X1)) (z1 : Hid (∀ b ∈ X1, b.n ≤ 8796093022208)) :
    Calls Tryz.prog 3 #[.slice A0 n0 c0, .slice A1 n1 c1] w fun e w' => e = .returned (.bool true) ∧ Below w.heap.size w w' := by
  have b0 := H0.out.sl.bound
  have b1 := H1.out.sl.bound
  go_enter Tryz.func3, Tryz.ntmps3
  go_wp2_with fail
  refine (law09_small' hT w).mono ?_
  rintro e w1 ⟨rfl, hb⟩
  have M0 := Lib.hid (H0.out.below hb)
  have M1 := Lib.hid (H1.out.below hb)
  have HB := Lib.hid hb
  clear hb H0 H1
  obtain ⟨F0, hF0⟩ : ∃ F, F = fewB X0 := ⟨_, rfl⟩
  obtain ⟨F1, hF1⟩ : ∃ F, F = fewB X1 := ⟨_, rfl⟩
  have cF0 := law_Few A0 n0 c0 X0 w1 M0 z0
  have cF1 := law_Few A1 n1 c1 X1 w1 M1 z1
  rw [← hF0] at cF0
  rw [← hF1] at cF1
  have CF0 := Lib.hid cF0
  have CF1 := Lib.hid cF1
  have HF0 := Lib.hid hF0
  have HF1 := Lib.hid hF1
  clear hF0 hF1 cF0 cF1
  go_wp2_with fail
  refine CF0.out.mono ?_
  rintro e w' ⟨rfl, rfl⟩
  go_wp2_with fail
  refine CF1.out.mono ?_
  rintro e w' ⟨rfl, rfl⟩
  clear CF0 CF1
  cases F0 with
  | false =>
    go_wp2
    go_ret
    exact ⟨rfl, HB.out⟩
  | true =>
  cases F1 with
  | false =>
    go_wp2
    go_ret
    exact ⟨rfl, HB.out⟩
  | true =>
  have K0 := Lib.hid (few_ok HF0.out.symm)
  have K1 := Lib.hid (few_ok HF1.out.symm)
  have Y0 := Lib.hid (show ∀ b ∈ X0, b.n < 100000 from fun b hb => by have := K0.out.2 b hb; omega)
  have Y1 := Lib.hid (show ∀ b ∈ X1, b.n < 100000 from fun b hb => by have := K1.out.2 b hb; omega)
  obtain ⟨sm, hsm⟩ : ∃ q, q = allF sameR (rowsB X0) (rowsB X1) := ⟨_, rfl⟩
  obtain ⟨wi, hwi⟩ : ∃ q, q = allF withR (rowsB X0) (rowsB X1) := ⟨_, rfl⟩
  have q1 : ∀ V, Below w'.heap.size w' V → Hid (Calls Tryz.prog 7 #[.slice A0 n0 c0, .slice A1 n1 c1] V fun e v => e = .returned (.bool sm) ∧ Below w'.heap.size w' v) := fun V hV => by
    have h := mark_Same A0 n0 c0 X0 A1 n1 c1 X1 V (Lib.hid (M0.out.below hV)) (Lib.hid (M1.out.below hV))
    rw [← hsm] at h
    exact h.mono fun e w' ⟨h1, h2⟩ => ⟨h1, below_then hV h2⟩
  have q2 : ∀ V, Below w'.heap.size w' V → Hid (Calls Tryz.prog 8 #[.slice A0 n0 c0, .slice A1 n1 c1] V fun e v => e = .returned (.bool sm) ∧ Below w'.heap.size w' v) := fun V hV => by
    have h := ref09_Same A0 n0 c0 X0 A1 n1 c1 X1 V (Lib.hid (M0.out.below hV)) (Lib.hid (M1.out.below hV))
    rw [← hsm] at h
    exact h.mono fun e w' ⟨h1, q, h2⟩ => ⟨h1, by rw [h2]; exact below_drewN' hV q⟩
  have q3 : ∀ V, Below w'.heap.size w' V → Hid (Calls Tryz.prog 9 #[.slice A0 n0 c0, .slice A1 n1 c1] V fun e v => e = .returned (.bool wi) ∧ Below w'.heap.size w' v) := fun V hV => by
    have h := mark_Within A0 n0 c0 X0 A1 n1 c1 X1 V (Lib.hid (M0.out.below hV)) (Lib.hid (M1.out.below hV)) Y0 Y1
    rw [← hwi] at h
    exact h.mono fun e w' ⟨h1, h2⟩ => ⟨h1, below_then hV h2⟩
  have q4 : ∀ V, Below w'.heap.size w' V → Hid (Calls Tryz.prog 10 #[.slice A0 n0 c0, .slice A1 n1 c1] V fun e v => e = .returned (.bool wi) ∧ Below w'.heap.size w' v) := fun V hV => by
    have h := ref09_Within A0 n0 c0 X0 A1 n1 c1 X1 V (Lib.hid (M0.out.below hV)) (Lib.hid (M1.out.below hV))
    rw [← hwi] at h
    exact h.mono fun e w' ⟨h1, q, h2⟩ => ⟨h1, by rw [h2]; exact below_drewN' hV q⟩
  have q5 : ∀ V, Below w'.heap.size w' V → Hid (Calls Tryz.prog 11 #[.slice A0 n0 c0, .slice A1 n1 c1] V fun e v => (∃ z, e = .returned (.int .i64 z) ∧ MCmp (rowsB X0) (rowsB X1) z) ∧ Below w'.heap.size w' v) := fun V hV => by
    have h := mark_Compare A0 n0 c0 X0 A1 n1 c1 X1 V (Lib.hid (M0.out.below hV)) (Lib.hid (M1.out.below hV)) Y0 Y1
    exact h.mono fun e w' ⟨h1, h2⟩ => ⟨h1, below_then hV h2⟩
  have q6 : ∀ V, Below w'.heap.size w' V → Hid (Calls Tryz.prog 12 #[.slice A0 n0 c0, .slice A1 n1 c1] V fun e v => (∃ z, e = .returned (.int .i64 z) ∧ MCmp (rowsB X0) (rowsB X1) z) ∧ Below w'.heap.size w' v) := fun V hV => by
    have h := ref09_Compare A0 n0 c0 X0 A1 n1 c1 X1 V (Lib.hid (M0.out.below hV)) (Lib.hid (M1.out.below hV)) Y0 Y1
    exact h.mono fun e w' ⟨h1, h2⟩ => ⟨h1, below_then hV h2⟩
  clear hsm hwi M0 M1 K0 K1 Y0 Y1 HF0 HF1 z0 z1 hT
  have SB := Lib.hid (fun (W : World) (h : Below w'.heap.size w' W) => below_then HB.out h)
  clear HB
  have HB0 := Lib.hid (Below.refl w'.heap.size w')
  have hsm2 : (sm == sm) = true := by simp
  have hwi2 : (wi == wi) = true := by simp
  go_wp2_with fail
  refine (q1 _ HB0.out).out.mono ?_
  rintro e v1 ⟨rfl, hb⟩
  have HB1 := Lib.hid hb
  clear hb
  go_wp2_with fail
  refine (q2 _ HB1.out).out.mono ?_
  rintro e v2 ⟨rfl, hb⟩
  have HB2 := Lib.hid hb
  clear hb
  go_wp2_with fail
  refine (q3 _ HB2.out).out.mono ?_
  rintro e v3 ⟨rfl, hb⟩
  have HB3 := Lib.hid hb
  clear hb
  go_wp2_with fail
  refine (q4 _ HB3.out).out.mono ?_
  rintro e v4 ⟨rfl, hb⟩
  have HB4 := Lib.hid hb
  clear hb
  go_wp2_with fail
  refine (q5 _ HB4.out).out.mono ?_
  rintro e v5 ⟨⟨z, rfl, hz⟩, hb⟩
  have HB5 := Lib.hid hb
  have HZ := Lib.hid hz
  clear hb hz
  go_wp2_with fail
  refine (q6 _ HB5.out).out.mono ?_
  rintro e v6 ⟨⟨y, rfl, hy⟩, hb⟩
  have HB6 := Lib.hid hb
  obtain rfl := HZ.out.uniq hy
  have hzz : (z == z) = true := by simp
  clear hb hy HZ q1 q2 q3 q4 q5 q6
  go_wp2
  go_ret
  exact ⟨rfl, SB.out _ HB6.out⟩
end Go.Proofs.YtajcleobmgjhoaaGreatDoor
