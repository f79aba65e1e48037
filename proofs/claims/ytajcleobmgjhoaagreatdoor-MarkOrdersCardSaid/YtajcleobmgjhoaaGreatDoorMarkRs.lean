/- The document's answer of layer 09: Same, Within, Compare. -/
import Derived.Test.YtajcleobmgjhoaaGreatDoorMarkB
import Derived.Test.YtajcleobmgjhoaaGreatDoorMarkR
import Derived.Test.YtajcleobmgjhoaaGreatDoorBagRh
import Derived.Deep.QuietTactic
import Derived.BigQuiet
import Derived.Deep.RegionWith
import Derived.Deep.DeepCutAuto
namespace Go.Proofs.YtajcleobmgjhoaaGreatDoor
open Go.RowKit
set_option maxRecDepth 100000 in
set_option maxHeartbeats 4000000 in
theorem ref09_Same (A : Option Addr) (n c : Nat) (xs : List Bg) (B : Option Addr) (m d : Nat) (ys : List Bg) (w : World) (hA : Hid (Mk w A n c xs)) (hB : Hid (Mk w B m d ys)) :
    Calls Tryz.prog 8 #[.slice A n c, .slice B m d] w fun e w' => e = .returned (.bool (allF sameR (rowsB xs) (rowsB ys))) ∧ ∃ q, w' = w.drewN q := by
  have hn := hA.out.sl.bound
  have hm := hB.out.sl.bound
  have lA := Lib.hid hA.out.len
  have lB := Lib.hid hB.out.len
  by_cases hnm : n = m
  · subst hnm
    obtain ⟨R, hR⟩ : ∃ R, R = allF sameR (rowsB xs) (rowsB ys) := ⟨_, rfl⟩
    rw [← hR]
    have HR := Lib.hid hR
    clear hR
    go_enter Tryz.func8, Tryz.ntmps8
    go_wp2
    go_loopw [5, 6] (fun v _ wr => ∃ (k : Nat), k ≤ n ∧ v = .int .i64 (k : Int) ∧ Hid (∃ q, wr = w.drewN q) ∧ Hid (allF sameR (rowsB (xs.drop k)) (rowsB (ys.drop k)) = R)) (fun v _ _ => n - (RowKit.intOf v).toNat)
    case atStart => exact ⟨0, by omega, rfl, ⟨0, rfl⟩, HR.out.symm⟩
    case round =>
      obtain ⟨k, hk, rfl, hW, hr⟩ := hrel
      have hB2 := Lib.hid (show Below w.heap.size w wr by obtain ⟨q, h⟩ := hW.out; rw [h]; exact below_drewN' (Below.refl _ w) q)
      by_cases hlt : k < n
      · obtain ⟨b1, o1, g, rfl, e1, e2, e3, _, _⟩ := hA.out.at_ hlt
        obtain ⟨b2, o2, h, rfl, f1, f2, f3, _, _⟩ := hB.out.at_ hlt
        replace e1 := cell_kept hB2.out e1
        replace f1 := cell_kept hB2.out f1
        obtain ⟨u, hu⟩ : ∃ u, u = sameR g.l h.l := ⟨_, rfl⟩
        have CS : ∀ t, Hid (Calls Tryz.prog 27 #[.slice g.A g.n g.c, .slice h.A h.n h.c] (wr.drewN t) fun e w' => e = .returned (.bool u) ∧ ∃ q', w' = (wr.drewN t).drewN q') := fun t => by
          have hb := below_drewN' hB2.out t
          have h := ref_Same g.A g.n g.c g.l h.A h.n h.c h.l (wr.drewN t) (Lib.hid ((hA.out.bag g e3).below hb).sl) (Lib.hid ((hB.out.bag h f3).below hb).sl)
          rw [← hu] at h
          exact h
        have hst := Lib.hid (show R = (u && allF sameR (rowsB (xs.drop (k + 1))) (rowsB (ys.drop (k + 1)))) by
          rw [← hr.out, e2, f2, hu]; rfl)
        obtain ⟨gA, gn, gc, gl⟩ := g
        obtain ⟨hA', hn', hc', hl'⟩ := h
        simp only at e1 f1 CS
        have hlt2 : (k : Int) < (n : Int) := by omega
        have hk0 : (0 : Int) ≤ (k : Int) := by omega
        clear e2 e3 f2 f3 hu
        cases u with
        | false =>
          go_wp2
          go_quiet ((go_at_call 27; exact Calls.quiet_of (CS _).out))
          go_wp2
          go_ret
          obtain ⟨q, h⟩ := hW.out
          exact ⟨ret_b (by rw [hst.out]; rfl), _, by rw [h, drew2]⟩
        | true =>
          go_wp2
          go_quiet ((go_at_call 27; exact Calls.quiet_of (CS _).out))
          go_wp2
          go_roundw
          case rel => exact ⟨k + 1, by omega, by go_num, by obtain ⟨q, h⟩ := hW.out; exact ⟨_, by rw [h, drew2]⟩, by show _ = R; rw [hst.out, Bool.true_and]⟩
          case measure => simp [RowKit.intOf]; omega
      · go_wp2
        go_ret
        have e1 : xs.drop k = [] := List.drop_eq_nil_of_le (by rw [lA.out]; omega)
        have e2 : ys.drop k = [] := List.drop_eq_nil_of_le (by rw [lB.out]; omega)
        have := hr.out
        rw [e1, e2] at this
        exact ⟨ret_b this, hW.out⟩
  · have e1 : allF sameR (rowsB xs) (rowsB ys) = false := allF_ne (by unfold rowsB; rw [List.length_map, List.length_map, lA.out, lB.out]; exact hnm)
    rw [e1]
    go_enter Tryz.func8, Tryz.ntmps8
    go_wp2
    go_ret
    exact ⟨rfl, 0, rfl⟩
set_option maxRecDepth 100000 in
set_option maxHeartbeats 4000000 in
theorem ref09_Within (A : Option Addr) (n c : Nat) (xs : List Bg) (B : Option Addr) (m d : Nat) (ys : List Bg) (w : World) (hA : Hid (Mk w A n c xs)) (hB : Hid (Mk w B m d ys)) :
    Calls Tryz.prog 10 #[.slice A n c, .slice B m d] w fun e w' => e = .returned (.bool (allF withR (rowsB xs) (rowsB ys))) ∧ ∃ q, w' = w.drewN q := by
  have hn := hA.out.sl.bound
  have hm := hB.out.sl.bound
  have lA := Lib.hid hA.out.len
  have lB := Lib.hid hB.out.len
  by_cases hnm : n = m
  · subst hnm
    obtain ⟨R, hR⟩ : ∃ R, R = allF withR (rowsB xs) (rowsB ys) := ⟨_, rfl⟩
    rw [← hR]
    have HR := Lib.hid hR
    clear hR
    go_enter Tryz.func10, Tryz.ntmps10
    go_wp2
    go_loopw [5, 6] (fun v _ wr => ∃ (k : Nat), k ≤ n ∧ v = .int .i64 (k : Int) ∧ Hid (∃ q, wr = w.drewN q) ∧ Hid (allF withR (rowsB (xs.drop k)) (rowsB (ys.drop k)) = R)) (fun v _ _ => n - (RowKit.intOf v).toNat)
    case atStart => exact ⟨0, by omega, rfl, ⟨0, rfl⟩, HR.out.symm⟩
    case round =>
      obtain ⟨k, hk, rfl, hW, hr⟩ := hrel
      have hB2 := Lib.hid (show Below w.heap.size w wr by obtain ⟨q, h⟩ := hW.out; rw [h]; exact below_drewN' (Below.refl _ w) q)
      by_cases hlt : k < n
      · obtain ⟨b1, o1, g, rfl, e1, e2, e3, _, _⟩ := hA.out.at_ hlt
        obtain ⟨b2, o2, h, rfl, f1, f2, f3, _, _⟩ := hB.out.at_ hlt
        replace e1 := cell_kept hB2.out e1
        replace f1 := cell_kept hB2.out f1
        obtain ⟨u, hu⟩ : ∃ u, u = withR g.l h.l := ⟨_, rfl⟩
        have CS : ∀ t, Hid (Calls Tryz.prog 29 #[.slice g.A g.n g.c, .slice h.A h.n h.c] (wr.drewN t) fun e w' => e = .returned (.bool u) ∧ ∃ q', w' = (wr.drewN t).drewN q') := fun t => by
          have hb := below_drewN' hB2.out t
          have h := ref_Within g.A g.n g.c g.l h.A h.n h.c h.l (wr.drewN t) (Lib.hid ((hA.out.bag g e3).below hb).sl) (Lib.hid ((hB.out.bag h f3).below hb).sl)
          rw [← hu] at h
          exact h
        have hst := Lib.hid (show R = (u && allF withR (rowsB (xs.drop (k + 1))) (rowsB (ys.drop (k + 1)))) by
          rw [← hr.out, e2, f2, hu]; rfl)
        obtain ⟨gA, gn, gc, gl⟩ := g
        obtain ⟨hA', hn', hc', hl'⟩ := h
        simp only at e1 f1 CS
        have hlt2 : (k : Int) < (n : Int) := by omega
        have hk0 : (0 : Int) ≤ (k : Int) := by omega
        clear e2 e3 f2 f3 hu
        cases u with
        | false =>
          go_wp2
          go_quiet ((go_at_call 29; exact Calls.quiet_of (CS _).out))
          go_wp2
          go_ret
          obtain ⟨q, h⟩ := hW.out
          exact ⟨ret_b (by rw [hst.out]; rfl), _, by rw [h, drew2]⟩
        | true =>
          go_wp2
          go_quiet ((go_at_call 29; exact Calls.quiet_of (CS _).out))
          go_wp2
          go_roundw
          case rel => exact ⟨k + 1, by omega, by go_num, by obtain ⟨q, h⟩ := hW.out; exact ⟨_, by rw [h, drew2]⟩, by show _ = R; rw [hst.out, Bool.true_and]⟩
          case measure => simp [RowKit.intOf]; omega
      · go_wp2
        go_ret
        have e1 : xs.drop k = [] := List.drop_eq_nil_of_le (by rw [lA.out]; omega)
        have e2 : ys.drop k = [] := List.drop_eq_nil_of_le (by rw [lB.out]; omega)
        have := hr.out
        rw [e1, e2] at this
        exact ⟨ret_b this, hW.out⟩
  · have e1 : allF withR (rowsB xs) (rowsB ys) = false := allF_ne (by unfold rowsB; rw [List.length_map, List.length_map, lA.out, lB.out]; exact hnm)
    rw [e1]
    go_enter Tryz.func10, Tryz.ntmps10
    go_wp2
    go_ret
    exact ⟨rfl, 0, rfl⟩
set_option maxRecDepth 100000 in
set_option maxHeartbeats 4000000 in
theorem ref09_Compare (A : Option Addr) (n c : Nat) (xs : List Bg) (B : Option Addr) (m d : Nat) (ys : List Bg) (w : World) (hA : Hid (Mk w A n c xs)) (hB : Hid (Mk w B m d ys)) (zA : Hid (∀ b ∈ xs, b.n < 100000)) (zB : Hid (∀ b ∈ ys, b.n < 100000)) :
    Calls Tryz.prog 12 #[.slice A n c, .slice B m d] w fun e w' => (∃ z, e = .returned (.int .i64 z) ∧ MCmp (rowsB xs) (rowsB ys) z) ∧ Below w.heap.size w w' := by
  have hn := hA.out.sl.bound
  have hm := hB.out.sl.bound
  have lA := Lib.hid (show (rowsB xs).length = n by unfold rowsB; rw [List.length_map]; exact hA.out.len)
  have lB := Lib.hid (show (rowsB ys).length = m by unfold rowsB; rw [List.length_map]; exact hB.out.len)
  by_cases h1 : m < n
  · have hz := Lib.hid (show MCmp (rowsB xs) (rowsB ys) 1 from .inl ⟨by rw [lA.out, lB.out]; omega, by rw [lA.out, lB.out, cmpI, if_neg (by omega), if_pos (by omega)]⟩)
    have h1' : (m : Int) < (n : Int) := by omega
    go_enter Tryz.func12, Tryz.ntmps12
    go_wp2
    go_ret
    exact ⟨⟨1, rfl, hz.out⟩, Below.refl _ _⟩
  by_cases h2 : n < m
  · have hz := Lib.hid (show MCmp (rowsB xs) (rowsB ys) (-1) from .inl ⟨by rw [lA.out, lB.out]; omega, by rw [lA.out, lB.out, cmpI, if_pos (by omega)]⟩)
    have h1' : (n : Int) < (m : Int) := by omega
    go_enter Tryz.func12, Tryz.ntmps12
    go_wp2
    go_ret
    exact ⟨⟨-1, rfl, hz.out⟩, Below.refl _ _⟩
  have hnm : n = m := by omega
  subst hnm
  clear h1 h2
  go_enter Tryz.func12, Tryz.ntmps12
  go_wp2
  go_loopw [5, 6] (fun v _ wr => ∃ (k : Nat), k ≤ n ∧ v = .int .i64 (k : Int) ∧ Hid (∀ z, CmpL (rowsB (xs.drop k)) (rowsB (ys.drop k)) z → CmpL (rowsB xs) (rowsB ys) z) ∧ Hid (Below w.heap.size w wr)) (fun v _ _ => n - (RowKit.intOf v).toNat)
  case atStart => exact ⟨0, by omega, rfl, fun z h => h, Below.refl _ _⟩
  case round =>
    obtain ⟨k, hk, rfl, hr, hB2⟩ := hrel
    by_cases hlt : k < n
    · obtain ⟨b1, o1, g, rfl, e1, e2, e3, _, _⟩ := hA.out.at_ hlt
      obtain ⟨b2, o2, h, rfl, f1, f2, f3, _, _⟩ := hB.out.at_ hlt
      replace e1 := cell_kept hB2.out e1
      replace f1 := cell_kept hB2.out f1
      have CS : ∀ t, Hid (Calls Tryz.prog 33 #[.slice g.A g.n g.c, .slice h.A h.n h.c] (wr.drewN t) fun e w' => (∃ z, e = .returned (.int .i64 z) ∧ CmpR g.l h.l z) ∧ Below w.heap.size w w') := fun t => by
        have hb := below_drewN' hB2.out t
        have h := ref_Compare g.A g.n g.c g.l h.A h.n h.c h.l (wr.drewN t) (Lib.hid ((hA.out.bag g e3).below hb).sl) (Lib.hid ((hB.out.bag h f3).below hb).sl) (by have := zA.out g e3; omega) (by have := zB.out h f3; omega)
        exact h.mono fun e w' ⟨h1, h2⟩ => ⟨h1, below_then hb h2⟩
      have hst := Lib.hid (show ∀ y z, CmpR g.l h.l y → ((y ≠ 0 ∧ z = y) ∨ (y = 0 ∧ CmpL (rowsB (xs.drop (k + 1))) (rowsB (ys.drop (k + 1))) z)) → CmpL (rowsB xs) (rowsB ys) z from fun y z h1 h2 => hr.out z (by rw [e2, f2]; exact ⟨y, h1, h2⟩))
      obtain ⟨gA, gn, gc, gl⟩ := g
      obtain ⟨hA', hn', hc', hl'⟩ := h
      simp only at e1 f1 CS hst
      have hlt2 : (k : Int) < (n : Int) := by omega
      have hk0 : (0 : Int) ≤ (k : Int) := by omega
      clear e2 e3 f2 f3
      go_wp2
      go_cut [6] (fun v wx => Hid (Below w.heap.size w wx) ∧ ∃ z, v = .int .i64 z ∧ Hid (CmpR gl hl' z))
      case first =>
        go_region_with ((go_at_call 33; refine (CS _).out.mono ?_; rintro e w2 ⟨⟨z, rfl, hz⟩, hb⟩; have HB2 := Lib.hid hb; have HZ := Lib.hid hz; clear hb hz))
        all_goals
          go_wp2_with fail
          go_meet
          exact ⟨HB2.out, z, by first | rfl | trivial, HZ.out⟩
      case rest =>
      obtain ⟨HB2, z, rfl, HZ⟩ := hcut
      by_cases h0 : z = 0
      · subst h0
        go_wp2
        go_roundw
        case rel => exact ⟨k + 1, by omega, by go_num, fun z h => hst.out 0 z HZ.out (.inr ⟨rfl, h⟩), HB2.out⟩
        case measure => simp [RowKit.intOf]; omega
      · go_wp2
        go_ret
        exact ⟨⟨z, rfl, .inr ⟨by rw [lA.out, lB.out], hst.out z z HZ.out (.inl ⟨h0, rfl⟩)⟩⟩, HB2.out⟩
    · go_wp2
      go_ret
      have e1 : xs.drop k = [] := List.drop_eq_nil_of_le (by have := lA.out; unfold rowsB at this; rw [List.length_map] at this; omega)
      have e2 : ys.drop k = [] := List.drop_eq_nil_of_le (by have := lB.out; unfold rowsB at this; rw [List.length_map] at this; omega)
      refine ⟨⟨0, rfl, .inr ⟨by rw [lA.out, lB.out], hr.out 0 ?_⟩⟩, hB2.out⟩
      rw [e1, e2]
      exact rfl
end Go.Proofs.YtajcleobmgjhoaaGreatDoor
