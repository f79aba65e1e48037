/- Contracts of package mark: Same, Within, Compare. -/
import Derived.Test.YtajcleobmgjhoaaGreatDoorMarkA
namespace Go.Proofs.YtajcleobmgjhoaaGreatDoor
open Go.RowKit
set_option maxRecDepth 100000 in
set_option maxHeartbeats 2000000 in
theorem eqf_Same (A : Option Addr) (n c : Nat) (xs : List Bg) (B : Option Addr) (m d : Nat) (ys : List Bg) (w : World) (hA : Hid (Mk w A n c xs)) (hB : Hid (Mk w B m d ys)) :
    Calls Tryz.prog 25 #[.slice A n c, .slice B m d, .func (.func 26) #[] #[]] w fun e w' => e = .returned (.bool (allF sameR (rowsB xs) (rowsB ys))) ∧ Below w.heap.size w w' := by
  have hn := hA.out.sl.bound
  have hm := hB.out.sl.bound
  have lA := Lib.hid hA.out.len
  have lB := Lib.hid hB.out.len
  by_cases hnm : n = m
  · subst hnm
    obtain ⟨R, hR⟩ : ∃ R, R = allF sameR (rowsB xs) (rowsB ys) := ⟨_, rfl⟩
    rw [← hR]
    have HR := Lib.hid hR
    clear hR
    go_enter Tryz.func25, Tryz.ntmps25
    go_wp2
    go_loopw [7, 8, 9, 17] (fun _ _ _ v wr => ∃ (k : Nat), k ≤ n ∧ v = .int .i64 (k : Int) ∧ Hid (allF sameR (rowsB (xs.drop k)) (rowsB (ys.drop k)) = R) ∧ Hid (Below w.heap.size w wr)) (fun _ _ _ v _ => n - (RowKit.intOf v).toNat)
    case atStart => exact ⟨0, by omega, rfl, HR.out.symm, Below.refl _ _⟩
    case round =>
      obtain ⟨k, hk, rfl, hr, hB2⟩ := hrel
      by_cases hlt : k < n
      · obtain ⟨b1, o1, g, rfl, e1, e2, e3, _, _⟩ := hA.out.at_ hlt
        obtain ⟨b2, o2, h, rfl, f1, f2, f3, _, _⟩ := hB.out.at_ hlt
        replace e1 := cell_kept hB2.out e1
        replace f1 := cell_kept hB2.out f1
        have cS := bag_Same g.A g.n g.c g.l h.A h.n h.c h.l wr (Lib.hid ((hA.out.bag g e3).below hB2.out).sl) (Lib.hid ((hB.out.bag h f3).below hB2.out).sl)
        obtain ⟨u, hu⟩ : ∃ u, u = sameR g.l h.l := ⟨_, rfl⟩
        rw [← hu] at cS
        have CS := Lib.hid cS
        have hst := Lib.hid (show R = (u && allF sameR (rowsB (xs.drop (k + 1))) (rowsB (ys.drop (k + 1)))) by
          rw [← hr.out, e2, f2, hu]; rfl)
        obtain ⟨gA, gn, gc, gl⟩ := g
        obtain ⟨hA', hn', hc', hl'⟩ := h
        simp only at e1 f1 CS
        have hlt2 : (k : Int) < (n : Int) := by omega
        have hk0 : (0 : Int) ≤ (k : Int) := by omega
        clear e2 e3 f2 f3 cS hu
        cases u with
        | false =>
          go_wp2_with fail
          refine CS.out.mono ?_
          rintro e w2 ⟨rfl, hb⟩
          have HB2 := Lib.hid (below_then hB2.out hb)
          clear hb
          go_wp2
          go_ret
          exact ⟨ret_b (by rw [hst.out]; rfl), HB2.out⟩
        | true =>
          go_wp2_with fail
          refine CS.out.mono ?_
          rintro e w2 ⟨rfl, hb⟩
          have HB2 := Lib.hid (below_then hB2.out hb)
          clear hb
          go_wp2
          go_roundw
          case rel => exact ⟨k + 1, by omega, by go_num, by show _ = R; rw [hst.out, Bool.true_and], HB2.out⟩
          case measure => simp [RowKit.intOf]; omega
      · go_wp2
        go_ret
        have e1 : xs.drop k = [] := List.drop_eq_nil_of_le (by rw [lA.out]; omega)
        have e2 : ys.drop k = [] := List.drop_eq_nil_of_le (by rw [lB.out]; omega)
        have := hr.out
        rw [e1, e2] at this
        exact ⟨ret_b this, hB2.out⟩
  · have e1 : allF sameR (rowsB xs) (rowsB ys) = false := allF_ne (by unfold rowsB; rw [List.length_map, List.length_map, lA.out, lB.out]; exact hnm)
    rw [e1]
    go_enter Tryz.func25, Tryz.ntmps25
    go_wp2
    go_ret
    exact ⟨rfl, Below.refl _ _⟩
theorem mark_Same (A : Option Addr) (n c : Nat) (xs : List Bg) (B : Option Addr) (m d : Nat) (ys : List Bg) (w : World) (hA : Hid (Mk w A n c xs)) (hB : Hid (Mk w B m d ys)) :
    Calls Tryz.prog 7 #[.slice A n c, .slice B m d] w fun e w' => e = .returned (.bool (allF sameR (rowsB xs) (rowsB ys))) ∧ Below w.heap.size w w' := by
  have cE := Lib.hid (eqf_Same A n c xs B m d ys w hA hB)
  go_enter Tryz.func7, Tryz.ntmps7
  go_wp2_with fail
  refine cE.out.mono ?_
  rintro e w2 ⟨rfl, hb⟩
  have HB := Lib.hid hb
  clear hb
  go_wp2
  go_ret
  exact ⟨rfl, HB.out⟩
set_option maxRecDepth 100000 in
set_option maxHeartbeats 2000000 in
theorem eqf_Within (A : Option Addr) (n c : Nat) (xs : List Bg) (B : Option Addr) (m d : Nat) (ys : List Bg) (w : World) (hA : Hid (Mk w A n c xs)) (hB : Hid (Mk w B m d ys)) (zA : Hid (∀ b ∈ xs, b.n < 100000)) (zB : Hid (∀ b ∈ ys, b.n < 100000)) :
    Calls Tryz.prog 25 #[.slice A n c, .slice B m d, .func (.func 28) #[] #[]] w fun e w' => e = .returned (.bool (allF withR (rowsB xs) (rowsB ys))) ∧ Below w.heap.size w w' := by
  have hn := hA.out.sl.bound
  have hm := hB.out.sl.bound
  have lA := Lib.hid hA.out.len
  have lB := Lib.hid hB.out.len
  by_cases hnm : n = m
  · subst hnm
    obtain ⟨R, hR⟩ : ∃ R, R = allF withR (rowsB xs) (rowsB ys) := ⟨_, rfl⟩
    rw [← hR]
    have HR := Lib.hid hR
    clear hR
    go_enter Tryz.func25, Tryz.ntmps25
    go_wp2
    go_loopw [7, 8, 9, 17] (fun _ _ _ v wr => ∃ (k : Nat), k ≤ n ∧ v = .int .i64 (k : Int) ∧ Hid (allF withR (rowsB (xs.drop k)) (rowsB (ys.drop k)) = R) ∧ Hid (Below w.heap.size w wr)) (fun _ _ _ v _ => n - (RowKit.intOf v).toNat)
    case atStart => exact ⟨0, by omega, rfl, HR.out.symm, Below.refl _ _⟩
    case round =>
      obtain ⟨k, hk, rfl, hr, hB2⟩ := hrel
      by_cases hlt : k < n
      · obtain ⟨b1, o1, g, rfl, e1, e2, e3, _, _⟩ := hA.out.at_ hlt
        obtain ⟨b2, o2, h, rfl, f1, f2, f3, _, _⟩ := hB.out.at_ hlt
        replace e1 := cell_kept hB2.out e1
        replace f1 := cell_kept hB2.out f1
        have cS := bag_Within g.A g.n g.c g.l h.A h.n h.c h.l wr (Lib.hid ((hA.out.bag g e3).below hB2.out).sl) (Lib.hid (hA.out.bag g e3).wf) (by have := zA.out g e3; omega) (Lib.hid ((hB.out.bag h f3).below hB2.out).sl) (Lib.hid (hB.out.bag h f3).wf) (by have := zB.out h f3; omega)
        obtain ⟨u, hu⟩ : ∃ u, u = withR g.l h.l := ⟨_, rfl⟩
        rw [← hu] at cS
        have CS := Lib.hid cS
        have hst := Lib.hid (show R = (u && allF withR (rowsB (xs.drop (k + 1))) (rowsB (ys.drop (k + 1)))) by
          rw [← hr.out, e2, f2, hu]; rfl)
        obtain ⟨gA, gn, gc, gl⟩ := g
        obtain ⟨hA', hn', hc', hl'⟩ := h
        simp only at e1 f1 CS
        have hlt2 : (k : Int) < (n : Int) := by omega
        have hk0 : (0 : Int) ≤ (k : Int) := by omega
        clear e2 e3 f2 f3 cS hu
        cases u with
        | false =>
          go_wp2_with fail
          refine CS.out.mono ?_
          rintro e w2 ⟨rfl, hb⟩
          have HB2 := Lib.hid (below_then hB2.out hb)
          clear hb
          go_wp2
          go_ret
          exact ⟨ret_b (by rw [hst.out]; rfl), HB2.out⟩
        | true =>
          go_wp2_with fail
          refine CS.out.mono ?_
          rintro e w2 ⟨rfl, hb⟩
          have HB2 := Lib.hid (below_then hB2.out hb)
          clear hb
          go_wp2
          go_roundw
          case rel => exact ⟨k + 1, by omega, by go_num, by show _ = R; rw [hst.out, Bool.true_and], HB2.out⟩
          case measure => simp [RowKit.intOf]; omega
      · go_wp2
        go_ret
        have e1 : xs.drop k = [] := List.drop_eq_nil_of_le (by rw [lA.out]; omega)
        have e2 : ys.drop k = [] := List.drop_eq_nil_of_le (by rw [lB.out]; omega)
        have := hr.out
        rw [e1, e2] at this
        exact ⟨ret_b this, hB2.out⟩
  · have e1 : allF withR (rowsB xs) (rowsB ys) = false := allF_ne (by unfold rowsB; rw [List.length_map, List.length_map, lA.out, lB.out]; exact hnm)
    rw [e1]
    go_enter Tryz.func25, Tryz.ntmps25
    go_wp2
    go_ret
    exact ⟨rfl, Below.refl _ _⟩
theorem mark_Within (A : Option Addr) (n c : Nat) (xs : List Bg) (B : Option Addr) (m d : Nat) (ys : List Bg) (w : World) (hA : Hid (Mk w A n c xs)) (hB : Hid (Mk w B m d ys)) (zA : Hid (∀ b ∈ xs, b.n < 100000)) (zB : Hid (∀ b ∈ ys, b.n < 100000)) :
    Calls Tryz.prog 9 #[.slice A n c, .slice B m d] w fun e w' => e = .returned (.bool (allF withR (rowsB xs) (rowsB ys))) ∧ Below w.heap.size w w' := by
  have cE := Lib.hid (eqf_Within A n c xs B m d ys w hA hB zA zB)
  go_enter Tryz.func9, Tryz.ntmps9
  go_wp2_with fail
  refine cE.out.mono ?_
  rintro e w2 ⟨rfl, hb⟩
  have HB := Lib.hid hb
  clear hb
  go_wp2
  go_ret
  exact ⟨rfl, HB.out⟩
set_option maxRecDepth 100000 in
set_option maxHeartbeats 2000000 in
theorem cmpf_Compare (A : Option Addr) (n c : Nat) (xs : List Bg) (B : Option Addr) (d : Nat) (ys : List Bg) (w : World) (hA : Hid (Mk w A n c xs)) (hB : Hid (Mk w B n d ys)) (zA : Hid (∀ b ∈ xs, b.n < 100000)) (zB : Hid (∀ b ∈ ys, b.n < 100000)) :
    Calls Tryz.prog 31 #[.slice A n c, .slice B n d, .func (.func 32) #[] #[]] w fun e w' => (∃ z, e = .returned (.int .i64 z) ∧ CmpL (rowsB xs) (rowsB ys) z) ∧ Below w.heap.size w w' := by
  have hn := hA.out.sl.bound
  have lA := Lib.hid hA.out.len
  have lB := Lib.hid hB.out.len
  go_enter Tryz.func31, Tryz.ntmps31
  go_wp2
  go_loopw [7, 8, 9, 10, 13] (fun _ _ _ _ v wr => ∃ (k : Nat), k ≤ n ∧ v = .int .i64 (k : Int) ∧ Hid (∀ z, CmpL (rowsB (xs.drop k)) (rowsB (ys.drop k)) z → CmpL (rowsB xs) (rowsB ys) z) ∧ Hid (Below w.heap.size w wr)) (fun _ _ _ _ v _ => n - (RowKit.intOf v).toNat)
  case atStart => exact ⟨0, by omega, rfl, fun z h => h, Below.refl _ _⟩
  case round =>
    obtain ⟨k, hk, rfl, hr, hB2⟩ := hrel
    by_cases hlt : k < n
    · obtain ⟨b1, o1, g, rfl, e1, e2, e3, _, _⟩ := hA.out.at_ hlt
      obtain ⟨b2, o2, h, rfl, f1, f2, f3, _, _⟩ := hB.out.at_ hlt
      replace e1 := cell_kept hB2.out e1
      replace f1 := cell_kept hB2.out f1
      have CS := Lib.hid (bag_Compare g.A g.n g.c g.l h.A h.n h.c h.l wr (Lib.hid ((hA.out.bag g e3).below hB2.out).sl) (Lib.hid (hA.out.bag g e3).wf) (by have := zA.out g e3; omega) (Lib.hid ((hB.out.bag h f3).below hB2.out).sl) (Lib.hid (hB.out.bag h f3).wf) (by have := zB.out h f3; omega))
      have hst := Lib.hid (show ∀ y z, CmpR g.l h.l y → ((y ≠ 0 ∧ z = y) ∨ (y = 0 ∧ CmpL (rowsB (xs.drop (k + 1))) (rowsB (ys.drop (k + 1))) z)) → CmpL (rowsB xs) (rowsB ys) z from fun y z h1 h2 => hr.out z (by rw [e2, f2]; exact ⟨y, h1, h2⟩))
      obtain ⟨gA, gn, gc, gl⟩ := g
      obtain ⟨hA', hn', hc', hl'⟩ := h
      simp only at e1 f1 CS hst
      have hlt2 : (k : Int) < (n : Int) := by omega
      have hk0 : (0 : Int) ≤ (k : Int) := by omega
      clear e2 e3 f2 f3
      go_wp2_with fail
      refine CS.out.mono ?_
      rintro e w2 ⟨⟨z, rfl, hz⟩, hb⟩
      have HB2 := Lib.hid (below_then hB2.out hb)
      have HZ := Lib.hid hz
      clear hb hz
      by_cases h0 : z = 0
      · subst h0
        go_wp2
        go_roundw
        case rel => exact ⟨k + 1, by omega, by go_num, fun z h => hst.out 0 z HZ.out (.inr ⟨rfl, h⟩), HB2.out⟩
        case measure => simp [RowKit.intOf]; omega
      · go_wp2
        go_ret
        exact ⟨⟨z, rfl, hst.out z z HZ.out (.inl ⟨h0, rfl⟩)⟩, HB2.out⟩
    · go_wp2
      go_ret
      have e1 : xs.drop k = [] := List.drop_eq_nil_of_le (by rw [lA.out]; omega)
      have e2 : ys.drop k = [] := List.drop_eq_nil_of_le (by rw [lB.out]; omega)
      refine ⟨⟨0, rfl, hr.out 0 ?_⟩, hB2.out⟩
      rw [e1, e2]
      exact rfl
/-- What Compare tells. -/
def MCmp (a b : List Row) (z : Int) : Prop := (a.length ≠ b.length ∧ z = Lib.compareInt (a.length : Int) (b.length : Int)) ∨ (a.length = b.length ∧ CmpL a b z)
theorem mark_Compare (A : Option Addr) (n c : Nat) (xs : List Bg) (B : Option Addr) (m d : Nat) (ys : List Bg) (w : World) (hA : Hid (Mk w A n c xs)) (hB : Hid (Mk w B m d ys)) (zA : Hid (∀ b ∈ xs, b.n < 100000)) (zB : Hid (∀ b ∈ ys, b.n < 100000)) :
    Calls Tryz.prog 11 #[.slice A n c, .slice B m d] w fun e w' => (∃ z, e = .returned (.int .i64 z) ∧ MCmp (rowsB xs) (rowsB ys) z) ∧ Below w.heap.size w w' := by
  have hn := hA.out.sl.bound
  have hm := hB.out.sl.bound
  have lA := Lib.hid (show (rowsB xs).length = n by unfold rowsB; rw [List.length_map]; exact hA.out.len)
  have lB := Lib.hid (show (rowsB ys).length = m by unfold rowsB; rw [List.length_map]; exact hB.out.len)
  by_cases hnm : n = m
  · subst hnm
    have cE := Lib.hid (cmpf_Compare A n c xs B d ys w hA hB zA zB)
    go_enter Tryz.func11, Tryz.ntmps11
    go_wp2_with fail
    refine cE.out.mono ?_
    rintro e w2 ⟨⟨z, rfl, hz⟩, hb⟩
    have HB := Lib.hid hb
    have HZ := Lib.hid hz
    clear hb hz
    go_wp2
    go_ret
    exact ⟨⟨z, rfl, .inr ⟨by rw [lA.out, lB.out], HZ.out⟩⟩, HB.out⟩
  · have cC := Lib.hid (fun W => Tryz.cmp_Compare_int (n : Int) (m : Int) W)
    obtain ⟨z, hz⟩ : ∃ z, z = Lib.compareInt (n : Int) (m : Int) := ⟨_, rfl⟩
    rw [← hz] at cC
    have HZ := Lib.hid hz
    clear hz
    go_enter Tryz.func11, Tryz.ntmps11
    go_wp2_with fail
    refine (cC.out _).mono ?_
    rintro e w2 ⟨rfl, rfl⟩
    go_wp2
    go_ret
    exact ⟨⟨z, rfl, .inl ⟨by rw [lA.out, lB.out]; exact hnm, by rw [HZ.out, lA.out, lB.out]⟩⟩, Below.refl _ _⟩
end Go.Proofs.YtajcleobmgjhoaaGreatDoor
