/- Law MarkBytes: the walk. -/
import Derived.Test.YtajcleobmgjhoaaGreatDoorMarkRx
import Derived.Test.YtajcleobmgjhoaaGreatDoorMarkP
import Derived.Test.YtajcleobmgjhoaaGreatDoorMarkQ
import Derived.Test.YtajcleobmgjhoaaGreatDoorMarkT
import Derived.Test.YtajcleobmgjhoaaGreatDoorBagJ
import Derived.Laws.BytesArg
import Derived.Deep.QuietTactic
import Derived.BigQuiet
namespace Go.Proofs.YtajcleobmgjhoaaGreatDoor
open Go.RowKit
theorem conv_any {w : World} {A : Option Addr} {n c : Nat} {l : List Int} (h : Sl w (.slice A n c) n 1 (u8Cells l)) : (convert 28 9 (.slice A n c)).run Tryz.prog w = .ok (.string (strOfNums l)) w := by
  have hl := h.len
  rw [u8_len] at hl
  by_cases hn : 0 < n
  · obtain ⟨b, off, e, _⟩ := h.u8_at hn
    subst e
    exact run_convert_bytes_arg w 28 5 Tryz.underlying28 Tryz.underlying5 b off n c l (by omega) (fun i hi => by
      obtain ⟨b', off', e, hc⟩ := h.u8_at hi
      injection e with e
      injection e with e1 e2
      subst e1 e2
      exact hc) 9 Tryz.underlying9
  · have e : l = [] := List.eq_nil_of_length_eq_zero (by omega)
    have e2 : n = 0 := by omega
    subst e e2
    cases A with
    | none => exact run_convert_bytes_nil w _ _ Tryz.underlying28 Tryz.underlying5 0 c 9 Tryz.underlying9
    | some a =>
      rw [run_convert_bytes_string w _ _ _ _ _ _ Tryz.underlying28 Tryz.underlying5 Tryz.underlying9]
      simp [Conv.bytesToString, loadCells, strOfNums]
      first | rfl | done
def encE (M : List Row) : Int := if encOk M then 0 else 1
def encS (M : List Row) : ByteArray := if encOk M then strOfNums (encM M) else ByteArray.empty
def decE (cs : List Int) : Int := if (decM cs).isSome then 0 else 4
def decV (cs : List Int) : List Row := (decM cs).getD []
theorem EncP.one {M : List Row} {w w' : World} {e : Ending} (h : EncP M w e w') : Below w.heap.size w w' ∧ ∃ A j c, e = .returned (.tuple #[.slice A j c, .int .i64 (encE M)]) ∧ Hid (∀ W, Below w'.heap.size w' W → (convert 28 9 (.slice A j c)).run Tryz.prog W = .ok (.string (encS M)) W) := by
  obtain ⟨hb, ⟨h1, rfl⟩ | ⟨h1, A, c, j, rfl, _, ho⟩⟩ := h
  · refine ⟨hb, none, 0, 0, by unfold encE; rw [h1]; rfl, fun W _ => ?_⟩
    unfold encS
    rw [h1]
    exact run_convert_bytes_nil W _ _ Tryz.underlying28 Tryz.underlying5 0 0 9 Tryz.underlying9
  · refine ⟨hb, A, j, c, by unfold encE; rw [h1]; rfl, fun W hW => ?_⟩
    unfold encS
    rw [h1]
    exact conv_any ((Sl.of_own ho).below hW)
theorem DecP.one {cs : List Int} {w w' : World} {e : Ending} (h : DecP cs w e w') : Below w.heap.size w w' ∧ ∃ A n c ys, e = .returned (.tuple #[.slice A n c, .int .i64 (decE cs)]) ∧ Hid (rowsB ys = decV cs) ∧ Hid (Mk w' A n c ys) ∧ n ≤ 64 := by
  obtain ⟨hb, ⟨h1, rfl⟩ | ⟨A, n, c, ys, h1, rfl, hn, hm, _⟩⟩ := h
  · exact ⟨hb, none, 0, 0, [], by unfold decE; rw [h1]; rfl, by show _ = _; unfold decV; rw [h1]; rfl, Mk.nil w', by omega⟩
  · exact ⟨hb, A, n, c, ys, by unfold decE; rw [h1]; rfl, by show _ = _; unfold decV; rw [h1]; rfl, hm, hn⟩
set_option maxRecDepth 100000 in
set_option maxHeartbeats 8000000 in
theorem law_MarkBytes (hT : Hid Text1) (A0 : Option Addr) (n0 c0 : Nat) (X0 : List Bg) (A1 : Option Addr) (n1 c1 : Nat) (L : List Int) (w : World) (H0 : Hid (Mk w A0 n0 c0 X0)) (z0 : Hid (∀ b ∈ X0, b.n ≤ 8796093022208)) (H1 : Hid (Sl w (.slice A1 n1 c1) n1 1 (u8Cells L))) (u1 : Hid (U8s L)) :
    Calls Tryz.prog 4 #[.slice A0 n0 c0, .slice A1 n1 c1] w fun e w' => e = .returned (.bool true) ∧ Below w.heap.size w w' := by
  have b0 := H0.out.sl.bound
  have b1 := H1.out.bound
  go_enter Tryz.func4, Tryz.ntmps4
  go_wp2_with fail
  refine (law09_small' hT w).mono ?_
  rintro e w1 ⟨rfl, hb⟩
  have M0 := Lib.hid (H0.out.below hb)
  have M1 := Lib.hid (H1.out.below hb)
  have HB := Lib.hid hb
  clear hb H0 H1
  obtain ⟨F0, hF0⟩ : ∃ F, F = fewB X0 := ⟨_, rfl⟩
  have cF0 := law_Few A0 n0 c0 X0 w1 M0 z0
  rw [← hF0] at cF0
  have CF0 := Lib.hid cF0
  have HF0 := Lib.hid hF0
  clear hF0 cF0
  go_wp2_with fail
  refine CF0.out.mono ?_
  rintro e w' ⟨rfl, rfl⟩
  clear CF0
  cases F0 with
  | false =>
    go_wp2
    go_ret
    exact ⟨rfl, HB.out⟩
  | true =>
  by_cases h2000 : 2000 < n1
  · have h2b : (2000 : Int) < (n1 : Int) := by omega
    go_wp2
    go_ret
    exact ⟨rfl, HB.out⟩
  have h2b : (n1 : Int) ≤ 2000 := by omega
  have K0 := Lib.hid (few_ok HF0.out.symm)
  have y0 := Lib.hid (show ∀ b ∈ X0, b.n ≤ 1000 from fun b hb => by have := K0.out.2 b hb; omega)
  have n70 : n0 ≤ 70 := by have := K0.out.1; rw [M0.out.len] at this; exact this
  go_wp2_with fail
  refine (mark_Encode A0 n0 c0 X0 w' M0 y0 (by omega)).mono ?_
  rintro e w2 hP
  obtain ⟨hb, A2, j2, c2, rfl, cv2⟩ := hP.one
  replace HB := Lib.hid (below_then HB.out hb)
  replace M0 := Lib.hid (M0.out.below hb)
  replace M1 := Lib.hid (M1.out.below hb)
  clear hP hb
  go_wp2_with fail
  refine (ref09_Encode A0 n0 c0 X0 w2 M0 y0 (by omega)).mono ?_
  rintro e w3 hP
  obtain ⟨hb, A3, j3, c3, rfl, cv3⟩ := hP.one
  replace HB := Lib.hid (below_then HB.out hb)
  replace M1 := Lib.hid (M1.out.below hb)
  replace cv2 := Lib.hid (fun (W : World) (h : Below w3.heap.size w3 W) => cv2.out W (below_then hb h))
  obtain ⟨eE, heE⟩ : ∃ q, q = encE (rowsB X0) := ⟨_, rfl⟩
  obtain ⟨eS, heS⟩ : ∃ q, q = encS (rowsB X0) := ⟨_, rfl⟩
  rw [← heE]
  rw [← heS] at cv2 cv3
  clear hP hb heE heS M0 y0 K0 HF0 z0 hT
  have hown := Lib.hid (World.ownsRow_made w3 (base := w3.heap.size) (e := 5) (size := 1) #[] 0 (Nat.le_refl _) (by decide) rfl)
  have HB0 := Lib.hid ((Below.refl w3.heap.size w3).alloc (Nat.le_refl _) (.cells #[] 5))
  have hsrc := Lib.hid (M1.out.below HB0.out)
  have hone := Lib.hid (u8_one L)
  go_wp2_with (at_builtin; refine wpList_append_sl u8s_ty rfl (.tmp 39) (.tmp 40) rfl w3.heap.size rfl (by exact hown.out) rfl (by exact hsrc.out) hone.out (by omega) (by omega) (by simp) ?_; intro v4 w4 hown4 hg4 hat4; rw [Nat.zero_add, List.nil_append] at hown4; obtain ⟨A4, c4, rfl, _, _⟩ := own_form hown4; have HO := Lib.hid hown4; have HG := Lib.hid hg4; clear hown4 hg4 hat4)
  have HB4 := Lib.hid (show Below w3.heap.size w3 w4 from below_grown HB0.out HG.out hown.out (Nat.le_refl _) (by simp))
  clear HG hown HB0 hsrc hone
  have S4 := Lib.hid (Sl.of_own HO.out)
  have M4 := Lib.hid (M1.out.below HB4.out)
  replace HB := Lib.hid (below_then HB.out HB4.out)
  replace cv2 := Lib.hid (fun (W : World) (h : Below w4.heap.size w4 W) => cv2.out W (below_then HB4.out h))
  replace cv3 := Lib.hid (fun (W : World) (h : Below w4.heap.size w4 W) => cv3.out W (below_then HB4.out h))
  clear HB4 HO M1
  refine (mark_Decode A4 n1 c4 L w4 S4 u1 (by omega)).mono ?_
  rintro e w5 hP
  obtain ⟨hb, A5, n5, c5, ys, rfl, hy, hm5, hn5⟩ := hP.one
  replace HB := Lib.hid (below_then HB.out hb)
  replace S4 := Lib.hid (S4.out.below hb)
  replace M4 := Lib.hid (M4.out.below hb)
  replace cv2 := Lib.hid (fun (W : World) (h : Below w5.heap.size w5 W) => cv2.out W (below_then hb h))
  replace cv3 := Lib.hid (fun (W : World) (h : Below w5.heap.size w5 W) => cv3.out W (below_then hb h))
  clear hP hb
  go_wp2_with fail
  refine (ref09_Decode A1 n1 c1 L w5 M4 u1 (by omega)).mono ?_
  rintro e w6 hP
  obtain ⟨hb, A6, n6, c6, zs, rfl, hz, hm6, hn6⟩ := hP.one
  replace HB := Lib.hid (below_then HB.out hb)
  have cv4 := Lib.hid (fun (W : World) (h : Below w6.heap.size w6 W) => conv_any ((S4.out.below hb).below h))
  have cv5 := Lib.hid (fun (W : World) (h : Below w6.heap.size w6 W) => conv_any ((M4.out.below hb).below h))
  replace cv2 := Lib.hid (fun (W : World) (h : Below w6.heap.size w6 W) => cv2.out W (below_then hb h))
  replace cv3 := Lib.hid (fun (W : World) (h : Below w6.heap.size w6 W) => cv3.out W (below_then hb h))
  replace hm5 := Lib.hid (hm5.out.below hb)
  have hrow := Lib.hid (show rowsB ys = rowsB zs by rw [hy.out, hz.out])
  have h56 : n5 = n6 := by
    have h1 := hm5.out.len
    have h2 := hm6.out.len
    have h3 := congrArg List.length hrow.out
    unfold rowsB at h3
    rw [List.length_map, List.length_map] at h3
    omega
  subst h56
  obtain ⟨dE, hdE⟩ : ∃ q, q = decE L := ⟨_, rfl⟩
  obtain ⟨dS, hdS⟩ : ∃ q, q = strOfNums L := ⟨_, rfl⟩
  rw [← hdE]
  rw [← hdS] at cv4 cv5
  clear hP hb hdE hdS hy hz S4 M4 u1
  go_wp2
  go_loopw [16, 17] (fun s v wr => ∃ (k : Nat), k ≤ n5 ∧ v = .int .i64 (k : Int) ∧ s = .bool true ∧ Hid (Below w6.heap.size w6 wr)) (fun _ v _ => n5 - (RowKit.intOf v).toNat)
  case atStart => exact ⟨0, by omega, rfl, by first | rfl | simp, Below.refl _ _⟩
  case round =>
    obtain ⟨k, hk, rfl, rfl, hB⟩ := hrel
    by_cases hlt : k < n5
    · obtain ⟨p1, o1, g, rfl, e1, e2, e3, _, _⟩ := hm5.out.at_ hlt
      obtain ⟨p2, o2, h, rfl, f1, f2, f3, _, _⟩ := hm6.out.at_ hlt
      replace e1 := cell_kept hB.out e1
      replace f1 := cell_kept hB.out f1
      have hgh : g.l = h.l := by
        have h1 := congrArg (List.drop k) hrow.out
        unfold rowsB at h1
        rw [← List.map_drop, ← List.map_drop, e2, f2, List.map_cons, List.map_cons] at h1
        exact (List.cons.inj h1).1
      have CS : ∀ t, Hid (Calls Tryz.prog 17 #[.slice g.A g.n g.c, .slice h.A h.n h.c] (wr.drewN t) fun e w' => e = .returned (.bool true) ∧ ∃ q', w' = (wr.drewN t).drewN q') := fun t => by
        have hb := below_drewN' hB.out t
        have s1 := ((hm5.out.bag g e3).below hb).sl
        have s2 := ((hm6.out.bag h f3).below hb).sl
        have h1 := ref_Rows g.A h.A g.n h.n g.c h.c g.l h.l (wr.drewN t) (Lib.hid s1) (Lib.hid s2) s1.bound s2.bound
        rw [decide_eq_true hgh] at h1
        exact h1
      obtain ⟨gA, gn, gc, gl⟩ := g
      obtain ⟨hA', hn', hc', hl'⟩ := h
      simp only at e1 f1 CS
      have hlt2 : (k : Int) < (n5 : Int) := by omega
      have hk0 : (0 : Int) ≤ (k : Int) := by omega
      clear e2 e3 f2 f3 hgh
      go_wp2
      go_quiet ((go_at_call 17; exact Calls.quiet_of (CS _).out))
      go_wp2
      go_roundw
      case rel => exact ⟨k + 1, by omega, by go_num, rfl, below_drewN' hB.out _⟩
      case measure => simp [RowKit.intOf]; omega
    · have q2 := cv2.out wr hB.out
      have q3 := cv3.out wr hB.out
      have q4 := cv4.out wr hB.out
      have q5 := cv5.out wr hB.out
      have r1 : (eS.toList == eS.toList) = true := by simp
      have r2 : (dS.toList == dS.toList) = true := by simp
      have r3 : (eE == eE) = true := by simp
      have r4 : (dE == dE) = true := by simp
      have SB := Lib.hid (below_then HB.out hB.out)
      clear cv2 cv3 cv4 cv5 HB hB hrow hm5 hm6
      go_wp2
      go_ret
      exact ⟨rfl, SB.out⟩
end Go.Proofs.YtajcleobmgjhoaaGreatDoor
