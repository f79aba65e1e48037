/- Law 04: few, Few. -/
import Derived.Test.YtaeeblceedklnaaGreatDoorExprB
namespace Go.Proofs.YtaeeblceedklnaaGreatDoor
open Go.RowKit
mutual
def fewT : Tr → Nat → Int
  | .mk _ _ l, d => if d = 0 ∨ 9 < l.length then 0 else fewL l (d - 1) 500
def fewL : List Tr → Nat → Int → Int
  | [], _, n => n - 1
  | t :: r, d, n => if fewT t d = 0 then 0 else if n - 500 + fewT t d ≤ 1 then 0 else fewL r d (n - 500 + fewT t d)
end
theorem fewT_eq (t : Tr) (d : Nat) : fewT t d = if d = 0 ∨ 9 < t.kids.length then 0 else fewL t.kids (d - 1) 500 := by
  obtain ⟨k, n, l⟩ := t
  rw [fewT]; rfl
mutual
theorem few_range : ∀ (t : Tr) (d : Nat), 0 ≤ fewT t d ∧ fewT t d ≤ 499
  | .mk _ _ l, d => by
    rw [fewT]
    split
    · omega
    · exact fewL_range l (d - 1) 500 (by omega) (by omega)
theorem fewL_range : ∀ (l : List Tr) (d : Nat) (n : Int), 1 ≤ n → n ≤ 500 → 0 ≤ fewL l d n ∧ fewL l d n ≤ 499
  | [], d, n, h1, h2 => by rw [fewL]; omega
  | t :: r, d, n, h1, h2 => by
    rw [fewL]
    have h3 := few_range t d
    split
    · omega
    · split
      · omega
      · exact fewL_range r d _ (by omega) (by omega)
end
mutual
theorem few_size : ∀ (t : Tr) (d : Nat), 0 < fewT t d → fewT t d = 500 - (sizeT t : Int) ∧ depthT t ≤ d
  | .mk k n l, d, h => by
    rw [fewT] at h ⊢
    split at h
    · omega
    · rename_i hd
      rw [if_neg hd]
      have := fewL_size l (d - 1) 500 h
      rw [sizeT, depthT]
      omega
theorem fewL_size : ∀ (l : List Tr) (d : Nat) (n : Int), 0 < fewL l d n → fewL l d n = n - 1 - (sizeL l : Int) ∧ depthL l ≤ d
  | [], d, n, h => by
    rw [fewL] at h ⊢
    rw [sizeL, depthL]
    omega
  | t :: r, d, n, h => by
    rw [fewL] at h ⊢
    split at h
    · omega
    · rename_i h1
      rw [if_neg h1]
      split at h
      · omega
      · rename_i h2
        rw [if_neg h2]
        have h3 := few_size t d (by have := few_range t d; omega)
        have h4 := fewL_size r d _ h
        rw [sizeL, depthL]
        omega
end
theorem fewL_cons (t : Tr) (r : List Tr) (d : Nat) (n : Int) : fewL (t :: r) d n = if fewT t d = 0 then 0 else if n - 500 + fewT t d ≤ 1 then 0 else fewL r d (n - 500 + fewT t d) := by rw [fewL]
theorem drop_tr {L : List Tr} {k : Nat} (h : k < L.length) : L.drop k = L.getD k default :: L.drop (k + 1) := by
  rw [List.drop_eq_getElem_cons h, List.getD, List.getElem?_eq_getElem h]; rfl
set_option maxRecDepth 100000 in
set_option maxHeartbeats 2000000 in
theorem law_few : ∀ (d : Nat), d ≤ 60 → ∀ (t : Tr) (A : Option Addr) (m c : Nat) (w : World), Hid (TrAt w A m c t) → Calls Tryz.prog 90 #[t.val A m c, .int .i64 (d : Int)] w (NumP w (fewT t d))
  | 0, _, t, A, m, c, w, h => by
    have HB1 := Lib.hid ((Below.refl w.heap.size w).alloc (Nat.le_refl _) (.cells #[.int .i64 t.kind, .int .i64 t.num, .slice A m c] 49))
    have e := Lib.hid (show fewT t 0 = 0 by rw [fewT_eq]; simp)
    go_enter Tryz.func90, Tryz.ntmps90
    go_wp2
    go_ret
    exact ⟨ret1 e.out.symm, HB1.out⟩
  | d + 1, hd, t, A, m, c, w, h => by
    have IH := Lib.hid (fun t' A' m' c' w' H' => law_few d (by omega) t' A' m' c' w' H')
    obtain ⟨hl, hc, hc9⟩ := h.out.len
    have HB1 := Lib.hid ((Below.refl w.heap.size w).alloc (Nat.le_refl _) (.cells #[.int .i64 t.kind, .int .i64 t.num, .slice A m c] 49))
    have hX1 := Lib.hid (cell_new w #[.int .i64 t.kind, .int .i64 t.num, .slice A m c] 49 2 _ rfl)
    have hf := fewT_eq t (d + 1)
    have d0 : (0 : Int) < (d : Int) + 1 := by omega
    have d1 : IntKind.i64.wrap ((d : Int) + 1 - 1) = (d : Int) := by rw [show (d : Int) + 1 - 1 = (d : Int) by omega]; exact IntWalk.i64_in _ (by omega)
    by_cases h9 : 9 < m
    · have e := Lib.hid (show fewT t (d + 1) = 0 by rw [hf, if_pos (.inr (by omega))])
      have h92 : (9 : Int) < (m : Int) := by omega
      clear hf
      go_enter Tryz.func90, Tryz.ntmps90
      go_wp2
      go_ret
      exact ⟨ret1 e.out.symm, HB1.out⟩
    · rw [if_neg (by omega), Nat.add_sub_cancel] at hf
      have HF := Lib.hid hf
      have h92 : (m : Int) ≤ 9 := by omega
      obtain ⟨R, hR⟩ : ∃ R, R = fewT t (d + 1) := ⟨_, rfl⟩
      rw [← hR] at HF ⊢
      clear hf hR h9
      go_enter Tryz.func90, Tryz.ntmps90
      go_wp2
      go_loopw [5, 6] (fun v5 v6 wr => ∃ (k : Nat) (n : Int), k ≤ m ∧ v6 = .int .i64 (k : Int) ∧ v5 = .int .i64 n ∧ 1 ≤ n ∧ n ≤ 500 ∧ Hid (fewL (t.kids.drop k) d n = R) ∧ Hid (Below w.heap.size w wr) ∧ Hid (wr.cell? ⟨w.heap.size, 2, none⟩ = some (.slice A m c))) (fun _ v6 _ => m - (intOf v6).toNat)
      case atStart => exact ⟨0, 500, by omega, rfl, rfl, by omega, by omega, HF.out.symm, HB1.out, hX1.out⟩
      case round =>
        obtain ⟨k, n, hk, rfl, rfl, n1, n2, hR, hB, hX⟩ := hrel
        have xc := hX.out
        by_cases hlt : k < m
        · obtain ⟨b, off, rfl, A', m', c', hK⟩ := (h.out.kept hB.out).kid hlt
          have hst := hR.out
          rw [drop_tr (by omega), fewL_cons] at hst
          obtain ⟨q, hq⟩ : ∃ q, q = t.kids.getD k default := ⟨_, rfl⟩
          rw [← hq] at hK hst
          have c0 := hK.c0
          have c1 := hK.c1
          have c2 := hK.c2
          have cQ := Lib.hid (IH.out q A' m' c' wr (Lib.hid hK.tr))
          have hrg := few_range q d
          obtain ⟨y, hy⟩ : ∃ y, y = fewT q d := ⟨_, rfl⟩
          rw [← hy] at hst hrg cQ
          have hlt2 : (k : Int) < (m : Int) := by omega
          have hk0 : (0 : Int) ≤ (k : Int) := by omega
          have a1 : IntKind.i64.wrap (n - 500) = n - 500 := IntWalk.i64_in _ (by omega)
          have a2 : IntKind.i64.wrap (n - 500 + y) = n - 500 + y := IntWalk.i64_in _ (by omega)
          clear hK hq hy
          by_cases y0 : y = 0
          · rw [if_pos y0] at hst
            subst y0
            have HST := Lib.hid hst
            clear hst
            go_wp2_with (go_at_call 90; refine cQ.out.mono ?_; rintro e w5 ⟨rfl, hb5⟩; have HB5 := Lib.hid (hB.out.trans (hb5.mono hB.out.size)); clear hb5)
            go_ret
            exact ⟨ret1 HST.out, HB5.out⟩
          · rw [if_neg y0] at hst
            have yb : (y == 0) = false := by simpa using y0
            clear y0
            by_cases n0 : n - 500 + y ≤ 1
            · rw [if_pos n0] at hst
              have HST := Lib.hid hst
              clear hst
              go_wp2_with (go_at_call 90; refine cQ.out.mono ?_; rintro e w5 ⟨rfl, hb5⟩; have HB5 := Lib.hid (hB.out.trans (hb5.mono hB.out.size)); clear hb5)
              go_ret
              exact ⟨ret1 HST.out, HB5.out⟩
            · rw [if_neg n0] at hst
              have n3 : 1 < n - 500 + y := by omega
              have HST := Lib.hid hst
              clear hst n0
              go_wp2_with (go_at_call 90; refine cQ.out.mono ?_; rintro e w5 ⟨rfl, hb5⟩; have HB5 := Lib.hid (hB.out.trans (hb5.mono hB.out.size)); have X5 := Lib.hid (cell_kept hb5 xc); clear hb5)
              go_roundw
              case rel => exact ⟨k + 1, n - 500 + y, by omega, by go_num, rfl, by omega, by omega, HST, HB5, X5⟩
              case measure => simp [intOf]; omega
        · have e1 : t.kids.drop k = [] := List.drop_eq_nil_of_le (by omega)
          have hst := hR.out
          rw [e1, fewL] at hst
          have HST := Lib.hid hst
          have a1 : IntKind.i64.wrap (n - 1) = n - 1 := IntWalk.i64_in _ (by omega)
          clear hst e1
          go_wp2
          go_ret
          exact ⟨ret1 HST.out, hB.out⟩
set_option maxRecDepth 100000 in
set_option maxHeartbeats 1000000 in
theorem law_Few (t : Tr) (A : Option Addr) (m c : Nat) (w : World) (h : Hid (TrAt w A m c t)) :
    Calls Tryz.prog 25 #[t.val A m c] w fun e w' => e = .returned (.bool (decide (0 < fewT t 60))) ∧ Below w.heap.size w w' := by
  have hb1 := (Below.refl w.heap.size w).alloc (Nat.le_refl _) (.cells #[.int .i64 t.kind, .int .i64 t.num, .slice A m c] 49)
  have HB1 := Lib.hid hb1
  have cF := Lib.hid (law_few 60 (by omega) t A m c _ (Lib.hid (h.out.kept hb1)))
  obtain ⟨x, hx⟩ : ∃ x, x = fewT t 60 := ⟨_, rfl⟩
  rw [← hx] at cF ⊢
  clear hx hb1
  go_enter Tryz.func25, Tryz.ntmps25
  go_wp2_with (go_at_call 90; refine cF.out.mono ?_; rintro e w5 ⟨rfl, hb5⟩; have HB5 := Lib.hid (below_then HB1.out hb5); clear hb5)
  go_ret
  exact ⟨rfl, HB5.out⟩
end Go.Proofs.YtaeeblceedklnaaGreatDoor
