/- Law ExprTells: the walk. Printed by gen_law_tells.py. -/
import Derived.Test.YtmfdiclbenmfbaaDoorExprVb
import Derived.Test.YtmfdiclbenmfbaaDoorExprEv
import Derived.Test.YtmfdiclbenmfbaaDoorExprX
import Derived.Test.YtmfdiclbenmfbaaDoorExprOp
namespace Go.Proofs.YtmfdiclbenmfbaaDoor
open Go.RowKit
theorem Sl.str_at1 {w : World} {A : Option Addr} {n c : Nat} {l : List ByteArray} (h : Sl w (.slice A n c) n 1 (strCells l)) {k : Nat} (hk : k < n) :
    ∃ b off, A = some ⟨b, off, none⟩ ∧ w.cell? ⟨b, off + k, none⟩ = some (.string (l.getD k default)) := by
  have hl := h.len
  unfold strCells at hl
  rw [List.length_map] at hl
  obtain ⟨b, off, e, hc⟩ := h.at_ (by omega)
  refine ⟨b, off, e, hc k _ ?_⟩
  unfold strCells
  rw [List.getElem?_map, List.getElem?_eq_getElem (by omega)]
  simp [List.getD, List.getElem?_eq_getElem (show k < l.length by omega)]
section
open _root_.Go.ChangeShapes _root_.Go.WideShapes _root_.Go.ChangeAt _root_.Go.RowKit _root_.Go.Deep
variable {H : Type} {enc : TypeId × Value → H} {W : World} {base b0 : Nat} {spare : Nat → Bool} {held : Bool} {r : Reach}
set_option maxRecDepth 100000 in
theorem open_strs_sl {v : Value} {d : DataW H} {p : List MemPlace} (hv : Value.okWide Tryd.prog W r b0 25 v) (h : DataW.Trod enc Tryd.prog W base spare held 25 v d p) :
    ∃ A n c L, v = .slice A n c ∧ Sl W (.slice A n c) n 1 (strCells L) := by
  obtain ⟨A, n, c, rfl⟩ := okWide_slice Tryd.underlying25 hv
  obtain ⟨fuel, hf⟩ := h
  have c9 : Tryd.prog.cellsOf 9 = 1 := by kernel_rfl
  rcases open_strings Tryd.underlying25 Tryd.underlying9 c9 hf with ⟨e4, _⟩ | ⟨a, len, cap, ss, e4, _, hlc, hm, hz, _, hcell, _⟩
  · simp [Value.cells] at e4
    obtain ⟨rfl, rfl, rfl⟩ := e4
    exact ⟨none, 0, 0, [], rfl, Sl.none_ W 1⟩
  · simp [Value.cells] at e4
    obtain ⟨rfl, rfl, rfl⟩ := e4
    have hzl : n ≤ ss.length := by rw [hz]; split <;> omega
    refine ⟨some a, n, c, ss.take n, rfl, ⟨_, _, rfl, hlc, by unfold maxLen at hm; exact hm, by simp [strCells]; omega, fun hn => ?_⟩⟩
    obtain ⟨b, off, spot⟩ := a
    have hspot : spot = none := by simpa [Addr.add] using World.cell?_spot (hcell 0 (by omega))
    subst hspot
    refine ⟨b, off, rfl, fun j u hu => ?_⟩
    simp only [strCells, List.getElem?_map, List.getElem?_take] at hu
    split at hu
    · rename_i hjn
      have := hcell j (by omega)
      rw [Go.WideShapes.add_plain] at this
      rw [this]
      rw [List.getElem?_eq_getElem (by omega)] at hu
      simp only [Option.map_some, Option.some.injEq] at hu
      rw [← hu]
      simp [List.getD, List.getElem?_eq_getElem (show j < ss.length by omega)]
    · simp at hu
end
set_option maxRecDepth 100000 in
set_option maxHeartbeats 8000000 in
theorem law_ExprTells (t : Tr) (A : Option Addr) (m c : Nat) (vars : Int) (NA : Option Addr) (nn nc : Nat) (names : List ByteArray) (w : World) (h : Hid (TrAt w A m c t)) (hN : Hid (Sl w (.slice NA nn nc) nn 1 (strCells names))) (htab : Hid (∀ W, Below w.heap.size w W → TabT W)) :
    Calls Tryd.prog 3 #[t.val A m c, .int .i64 vars, .slice NA nn nc] w fun e w' => e = .returned (.bool true) ∧ Below w.heap.size w w' := by
  have bal0 := al1 w (.cells #[.int .i64 t.kind, .int .i64 t.num, .slice A m c] 24)
  have hz0 : (w.alloc (.cells #[.int .i64 t.kind, .int .i64 t.num, .slice A m c] 24)).heap.size = w.heap.size + 1 := by rw [World.size_alloc]
  have k00 := cell_new w #[.int .i64 t.kind, .int .i64 t.num, .slice A m c] 24 0 _ rfl
  have k01 := cell_new w #[.int .i64 t.kind, .int .i64 t.num, .slice A m c] 24 1 _ rfl
  have k02 := cell_new w #[.int .i64 t.kind, .int .i64 t.num, .slice A m c] 24 2 _ rfl
  obtain ⟨w1, hw1⟩ : ∃ w1, w1 = (w.alloc (.cells #[.int .i64 t.kind, .int .i64 t.num, .slice A m c] 24)) := ⟨_, rfl⟩
  obtain ⟨g, hg⟩ : ∃ g, g = w.heap.size := ⟨_, rfl⟩
  have HW1 := Lib.hid hw1
  have HG := Lib.hid hg
  rw [← hw1] at bal0 k00 k01 k02
  rw [← hg] at k00 k01 k02
  have HB1 := Lib.hid bal0
  have HE := Lib.hid (show ∀ W, Below w1.heap.size w1 W → W.cell? ⟨g, 0, none⟩ = some (.int .i64 t.kind) ∧ W.cell? ⟨g, 1, none⟩ = some (.int .i64 t.num) ∧ W.cell? ⟨g, 2, none⟩ = some (.slice A m c) from fun W h => ⟨cell_kept h k00, cell_kept h k01, cell_kept h k02⟩)
  clear bal0 hz0 hw1 hg
  have RFL := Lib.hid (Below.refl w1.heap.size w1)
  have HT := Lib.hid (fun W (hb : Below w1.heap.size w1 W) => Lib.hid (h.out.kept (below_then HB1.out hb)))
  have HS := Lib.hid (fun W (hb : Below w1.heap.size w1 W) => Lib.hid (hN.out.below (below_then HB1.out hb)))
  have hlen : names.length = nn := by have := hN.out.len; unfold strCells at this; rw [List.length_map] at this; omega
  have HLEN := Lib.hid hlen
  clear hlen
  by_cases hf : 0 < fewT t 60
  case neg =>
    have df := decide_eq_false hf
    clear hf
    go_enter Tryd.func3, Tryd.ntmps3
    go_upto_region 1 with fail
    rw [← HG.out, ← HW1.out]
    go_wp2_with fail
    refine (law_small w1 (Lib.hid (fun W h => htab.out W (below_then HB1.out h)))).mono ?_
    rintro e u1 ⟨rfl, hb⟩
    have HU1 := Lib.hid (below_then RFL.out hb)
    clear hb
    clear k00 k01 k02
    obtain ⟨k00, k01, k02⟩ := HE.out _ HU1.out
    go_wp2_with fail
    refine (law_Few t A m c u1 (HT.out _ HU1.out)).mono ?_
    rintro e u2 ⟨rfl, hb⟩
    have HU2 := Lib.hid (below_then HU1.out hb)
    clear hb
    clear k00 k01 k02
    obtain ⟨k00, k01, k02⟩ := HE.out _ HU2.out
    go_wp2_with fail
    go_ret
    exact ⟨rfl, below_then HB1.out HU2.out⟩
  have hs := few_sz hf
  have df := decide_eq_true hf
  by_cases hn : nn ≤ 20
  case neg =>
    have dn : (20 : Int) < (nn : Int) := by omega
    clear hn hf
    go_enter Tryd.func3, Tryd.ntmps3
    go_upto_region 1 with fail
    rw [← HG.out, ← HW1.out]
    go_wp2_with fail
    refine (law_small w1 (Lib.hid (fun W h => htab.out W (below_then HB1.out h)))).mono ?_
    rintro e u1 ⟨rfl, hb⟩
    have HU1 := Lib.hid (below_then RFL.out hb)
    clear hb
    clear k00 k01 k02
    obtain ⟨k00, k01, k02⟩ := HE.out _ HU1.out
    go_wp2_with fail
    refine (law_Few t A m c u1 (HT.out _ HU1.out)).mono ?_
    rintro e u2 ⟨rfl, hb⟩
    have HU2 := Lib.hid (below_then HU1.out hb)
    clear hb
    clear k00 k01 k02
    obtain ⟨k00, k01, k02⟩ := HE.out _ HU2.out
    go_wp2_with fail
    go_ret
    exact ⟨rfl, below_then HB1.out HU2.out⟩
  have dn : (nn : Int) ≤ 20 := by omega
  obtain ⟨R, hR⟩ : ∃ R, R = rightT vars t := ⟨_, rfl⟩
  obtain ⟨D, hD⟩ : ∃ D : Int, D = depthT t := ⟨_, rfl⟩
  obtain ⟨Z, hZ⟩ : ∃ Z : Int, Z = sizeT t := ⟨_, rfl⟩
  obtain ⟨X, hX⟩ : ∃ X : ByteArray, X = ⟨(textT names t).toArray⟩ := ⟨_, rfl⟩
  obtain ⟨V, hV⟩ : ∃ V, V = varsT t := ⟨_, rfl⟩
  obtain ⟨L, hL⟩ : ∃ L, L = V.length := ⟨_, rfl⟩
  have hvl := varsT_len t
  have HLL := Lib.hid (show L ≤ 1000000 by rw [hL, hV]; omega)
  have C1 := Lib.hid (fun W (hb : Below w1.heap.size w1 W) => (show Calls Tryd.prog 11 #[t.val A m c, .int .i64 vars] W (fun e w' => e = .returned (.bool R) ∧ Below W.heap.size W w') by rw [hR]; exact ex_Right vars t A m c W (HT.out _ hb) hs))
  have C2 := Lib.hid (fun W (hb : Below w1.heap.size w1 W) => (show Calls Tryd.prog 12 #[t.val A m c, .int .i64 vars] W (fun e w' => e = .returned (.bool R) ∧ Below W.heap.size W w') by rw [hR]; exact r_Right vars t A m c W (HT.out _ hb) hs))
  have C3 := Lib.hid (fun W (hb : Below w1.heap.size w1 W) => (show Calls Tryd.prog 13 #[t.val A m c] W (fun e w' => e = .returned (.int .i64 D) ∧ Below W.heap.size W w') by rw [hD]; exact ex_Depth t.sz t (Nat.le_refl _) A m c W (HT.out _ hb) hs))
  have C4 := Lib.hid (fun W (hb : Below w1.heap.size w1 W) => (show Calls Tryd.prog 14 #[t.val A m c] W (fun e w' => e = .returned (.int .i64 D) ∧ Below W.heap.size W w') by rw [hD]; exact ref_Depth t.sz t (Nat.le_refl _) A m c W (HT.out _ hb) hs))
  have C5 := Lib.hid (fun W (hb : Below w1.heap.size w1 W) => (show Calls Tryd.prog 15 #[t.val A m c] W (fun e w' => e = .returned (.int .i64 Z) ∧ Below W.heap.size W w') by rw [hZ]; exact ex_Size t.sz t (Nat.le_refl _) A m c W (HT.out _ hb) hs))
  have C6 := Lib.hid (fun W (hb : Below w1.heap.size w1 W) => (show Calls Tryd.prog 16 #[t.val A m c] W (fun e w' => e = .returned (.int .i64 Z) ∧ Below W.heap.size W w') by rw [hZ]; exact ref_Size t.sz t (Nat.le_refl _) A m c W (HT.out _ hb) hs))
  have C7 := Lib.hid (fun W (hb : Below w1.heap.size w1 W) (hns : ∀ s ∈ names, s.size ≤ 100) => (show Calls Tryd.prog 17 #[t.val A m c, .slice NA nn nc] W (fun e w' => e = .returned (.string X) ∧ Below W.heap.size W w') by
    have hl := textT_len hns t h.out
    rw [hX]; exact ex_Text names NA nn nc t A m c W (HT.out _ hb) (Lib.hid (fun W' h' => htab.out W' (below_then (below_then HB1.out hb) h'))) (HS.out _ hb) (fun s hs2 => by have := hns s hs2; omega) (by omega)))
  have C8 := Lib.hid (fun W (hb : Below w1.heap.size w1 W) (hns : ∀ s ∈ names, s.size ≤ 100) => (show Calls Tryd.prog 18 #[t.val A m c, .slice NA nn nc] W (fun e w' => e = .returned (.string X) ∧ Below W.heap.size W w') by
    have hl := textT_len hns t h.out
    rw [hX]; exact r_Text_at names NA nn nc t.sz t (Nat.le_refl _) A m c W (HT.out _ hb) (HS.out _ hb) (by omega)))
  have C9 := Lib.hid (fun W (hb : Below w1.heap.size w1 W) => (show Calls Tryd.prog 20 #[t.val A m c] W (fun e w' => ∃ A' c', e = .returned (.slice A' L c') ∧ Hid (Sl w' (.slice A' L c') L 1 (intCells V)) ∧ Hid (Below W.heap.size W w')) by rw [hL, hV]; exact ex_Vars t.sz t (Nat.le_refl _) A m c W (HT.out _ hb) hs))
  have C10 := Lib.hid (fun W (hb : Below w1.heap.size w1 W) => (show Calls Tryd.prog 21 #[t.val A m c] W (fun e w' => ∃ A' c', e = .returned (.slice A' L c') ∧ Hid (Sl w' (.slice A' L c') L 1 (intCells V)) ∧ Hid (Below W.heap.size W w')) by rw [hL, hV, vars_same]; exact r_Vars t A m c W (HT.out _ hb) hs))
  have C11 := Lib.hid (fun W A1 c1 A2 c2 (h1 : Hid (Sl W (.slice A1 L c1) L 1 (intCells V))) (h2 : Hid (Sl W (.slice A2 L c2) L 1 (intCells V))) => (show Calls Tryd.prog 19 #[.slice A1 L c1, .slice A2 L c2] W (fun e w' => e = .returned (.bool true) ∧ Below W.heap.size W w') from (ref_Ints A1 A2 L L c1 c2 V V W h1 h2 (by have := HLL.out; omega) (by have := HLL.out; omega)).mono fun e w' he => by
    obtain ⟨rfl, q, rfl⟩ := he
    exact ⟨by simp, below_drewN' (Below.refl _ _) q⟩))
  clear hn hf hR hD hZ hX hV hL hvl hs
  go_enter Tryd.func3, Tryd.ntmps3
  go_upto_region 1 with fail
  rw [← HG.out, ← HW1.out]
  go_wp2_with fail
  refine (law_small w1 (Lib.hid (fun W h => htab.out W (below_then HB1.out h)))).mono ?_
  rintro e u1 ⟨rfl, hb⟩
  have HU1 := Lib.hid (below_then RFL.out hb)
  clear hb
  clear k00 k01 k02
  obtain ⟨k00, k01, k02⟩ := HE.out _ HU1.out
  go_wp2_with fail
  refine (law_Few t A m c u1 (HT.out _ HU1.out)).mono ?_
  rintro e u2 ⟨rfl, hb⟩
  have HU2 := Lib.hid (below_then HU1.out hb)
  clear hb
  clear k00 k01 k02
  obtain ⟨k00, k01, k02⟩ := HE.out _ HU2.out
  go_wp2_with fail
  go_loopw [9] (fun v9 wr => ∃ (i : Nat), i ≤ nn ∧ v9 = .int .i64 (i : Int) ∧ Hid (∀ j, j < i → (names.getD j default).size ≤ 100) ∧ Hid (wr = u2)) (fun v9 _ => nn - (RowKit.intOf v9).toNat)
  case atStart => exact ⟨0, by omega, rfl, Lib.hid (fun j hj => by omega), Lib.hid rfl⟩
  case round =>
    obtain ⟨i, hi, rfl, hj, hw⟩ := hrel
    have hw2 := hw.out
    subst hw2
    by_cases hlt : i < nn
    · obtain ⟨b8, o8, rfl, hc8⟩ := (HS.out _ HU2.out).out.str_at1 hlt
      obtain ⟨s, hs⟩ : ∃ s, s = names.getD i default := ⟨_, rfl⟩
      rw [← hs] at hc8
      have HSS := Lib.hid hs
      have hlt2 : (i : Int) < (nn : Int) := by omega
      have hi0 : (0 : Int) ≤ (i : Int) := by omega
      clear hs
      by_cases h100 : s.size ≤ 100
      · have d100 : ((s.size : Nat) : Int) ≤ 100 := by omega
        go_wp2_with fail
        go_roundw
        case rel =>
          refine ⟨i + 1, by omega, by go_num, Lib.hid (fun j hj2 => ?_), by trivial⟩
          by_cases e : j = i
          · rw [e, ← HSS.out]; exact h100
          · exact hj.out j (by omega)
        case measure => simp [RowKit.intOf]; omega
      · have d100 : (100 : Int) < ((s.size : Nat) : Int) := by omega
        go_wp2_with fail
        go_ret
        exact ⟨rfl, below_then HB1.out HU2.out⟩
    · have HNS : Hid (∀ s ∈ names, s.size ≤ 100) := Lib.hid (fun s hs => by
        obtain ⟨j, hj2, rfl⟩ := List.getElem_of_mem hs
        have := hj.out j (by have := HLEN.out; omega)
        simpa [List.getD, List.getElem?_eq_getElem hj2] using this)
      have hlt2 : (nn : Int) ≤ (i : Int) := by omega
      have BD0 : Hid (Below w1.heap.size w1 wr.drew) := Lib.hid (below_drewN' HU2.out 1)
      go_wp2_with fail
      go_region_held3 (fun W => W.cell? ⟨g, 0, none⟩ = some (.int .i64 t.kind) ∧ W.cell? ⟨g, 1, none⟩ = some (.int .i64 t.num) ∧ W.cell? ⟨g, 2, none⟩ = some (.slice A m c))
        (first | exact HE.out _ BD11.out | exact HE.out _ BD10.out | exact HE.out _ BD9.out | exact HE.out _ BD8.out | exact HE.out _ BD7.out | exact HE.out _ BD6.out | exact HE.out _ BD5.out | exact HE.out _ BD4.out | exact HE.out _ BD3.out | exact HE.out _ BD2.out | exact HE.out _ BD1.out | exact HE.out _ BD0.out)
        (first
        | (go_at_call 11; refine (C1.out _ BD0.out).mono ?_; rintro e x1 ⟨rfl, hb⟩; have BD1 := Lib.hid (below_then BD0.out hb); clear hb)
        | (go_at_call 12; refine (C2.out _ BD1.out).mono ?_; rintro e x2 ⟨rfl, hb⟩; have BD2 := Lib.hid (below_then BD1.out hb); clear hb)
        | (go_at_call 13; refine (C3.out _ BD2.out).mono ?_; rintro e x3 ⟨rfl, hb⟩; have BD3 := Lib.hid (below_then BD2.out hb); clear hb)
        | (go_at_call 14; refine (C4.out _ BD3.out).mono ?_; rintro e x4 ⟨rfl, hb⟩; have BD4 := Lib.hid (below_then BD3.out hb); clear hb)
        | (go_at_call 15; refine (C5.out _ BD4.out).mono ?_; rintro e x5 ⟨rfl, hb⟩; have BD5 := Lib.hid (below_then BD4.out hb); clear hb)
        | (go_at_call 16; refine (C6.out _ BD5.out).mono ?_; rintro e x6 ⟨rfl, hb⟩; have BD6 := Lib.hid (below_then BD5.out hb); clear hb)
        | (go_at_call 17; refine (C7.out _ BD6.out HNS.out).mono ?_; rintro e x7 ⟨rfl, hb⟩; have BD7 := Lib.hid (below_then BD6.out hb); clear hb)
        | (go_at_call 18; refine (C8.out _ BD7.out HNS.out).mono ?_; rintro e x8 ⟨rfl, hb⟩; have BD8 := Lib.hid (below_then BD7.out hb); clear hb)
        | (go_at_call 20; refine (C9.out _ BD8.out).mono ?_; rintro e x9 ⟨A9, c9, rfl, hS9, hb⟩; have BD9 := Lib.hid (below_then BD8.out hb.out); clear hb)
        | (go_at_call 21; refine (C10.out _ BD9.out).mono ?_; rintro e x10 ⟨A10, c10, rfl, hS10, hb⟩; have BD10 := Lib.hid (below_then BD9.out hb.out); have hS9' := Lib.hid (hS9.out.below hb.out); clear hb)
        | (go_at_call 19; refine (C11.out _ _ _ _ _ hS9' hS10).mono ?_; rintro e x11 ⟨rfl, hb⟩; have BD11 := Lib.hid (below_then BD10.out hb); clear hb))
      all_goals
        go_wp2_with fail
        go_ret
        exact ⟨rfl, below_then HB1.out BD11.out⟩
end Go.Proofs.YtmfdiclbenmfbaaDoor
