/- Depth and Size, the program's and the document's. -/
import Derived.Test.YtaeeblceedklnaaGreatDoorExprP
namespace Go.Proofs.YtaeeblceedklnaaGreatDoor
open Go.RowKit
theorem retI {a b : Int} (h : a = b) : Value.int .i64 a = .int .i64 b := by rw [h]
/-- What is told of a tree by a number. -/
def NumP (w : World) (x : Int) (e : Ending) (w' : World) : Prop := e = .returned (.int .i64 x) ∧ Below w.heap.size w w'
theorem cell_new (w : World) (cs : Array Value) (t : TypeId) (j : Nat) (u : Value) (h : cs[j]? = some u) : (w.alloc (.cells cs t)).cell? ⟨w.heap.size, j, none⟩ = some u := by
  rw [cell_of_row _ w.heap.size j cs t (0, 0) (heap_alloc_new w _)]; exact h
set_option maxRecDepth 100000 in
set_option maxHeartbeats 2000000 in
theorem ex_Depth : ∀ (N : Nat) (t : Tr), t.sz ≤ N → ∀ (A : Option Addr) (m c : Nat) (w : World), Hid (TrAt w A m c t) → sizeT t ≤ 1000000 → Calls Tryz.prog 84 #[t.val A m c] w (NumP w (depthT t))
  | 0, t, hN, _, _, _, _, _, _ => by have := t.sz_pos; omega
  | N + 1, t, hN, A, m, c, w, h, hsz => by
    have IH := Lib.hid (fun t' h' A' m' c' w' H' s' => ex_Depth N t' h' A' m' c' w' H' s')
    have hd := Lib.hid (depth_size t)
    obtain ⟨hl, hc, hc9⟩ := h.out.len
    have HB1 := Lib.hid ((Below.refl w.heap.size w).alloc (Nat.le_refl _) (.cells #[.int .i64 t.kind, .int .i64 t.num, .slice A m c] 49))
    go_enter Tryz.func84, Tryz.ntmps84
    go_wp2
    go_loopw [3, 9] (fun v3 v9 wr => ∃ k : Nat, k ≤ m ∧ v9 = .int .i64 (k : Int) ∧ v3 = .int .i64 (depthL (t.kids.take k) : Int) ∧ Hid (Below w.heap.size w wr)) (fun _ v9 _ => m - (intOf v9).toNat)
    case atStart => exact ⟨0, by omega, rfl, rfl, HB1.out⟩
    case round =>
      obtain ⟨k, hk, rfl, rfl, hB⟩ := hrel
      by_cases hlt : k < m
      · obtain ⟨b, off, rfl, A', m', c', hK⟩ := (h.out.kept hB.out).kid hlt
        have hdl := depthL_snoc (l := t.kids) (k := k) (by omega)
        have hsk := size_kid (t := t) (j := k) (by omega)
        have hkd := Tr.kid_lt (t := t) (j := k) (by omega)
        have hdt := depthL_take t.kids k
        have hde := depthT_eq t
        have hds := hd.out
        obtain ⟨q, hq⟩ : ∃ q, q = t.kids.getD k default := ⟨_, rfl⟩
        rw [← hq] at hK hdl hsk hkd
        have c0 := hK.c0
        have c1 := hK.c1
        have c2 := hK.c2
        have hdq := depth_size q
        have hb2 := (Below.refl wr.heap.size wr).alloc (Nat.le_refl _) (.cells #[.int .i64 q.kind, .int .i64 q.num, .slice A' m' c'] 49)
        have cQ := Lib.hid (IH.out q (by omega) A' m' c' _ (Lib.hid (hK.tr.kept hb2)) (by omega))
        have HB2 := Lib.hid (hB.out.trans (hb2.mono hB.out.size))
        obtain ⟨x, hx⟩ : ∃ x, x = depthL (t.kids.take k) := ⟨_, rfl⟩
        obtain ⟨y, hy⟩ : ∃ y, y = depthT q := ⟨_, rfl⟩
        rw [← hx] at hdl hdt
        rw [← hx]
        rw [← hy] at hdl hdq cQ
        have HDL := Lib.hid hdl
        have hlt2 : (k : Int) < (m : Int) := by omega
        have hk0 : (0 : Int) ≤ (k : Int) := by omega
        clear hK hq hb2 hdl hx hy
        go_wp2_with (go_at_call 84; refine cQ.out.mono ?_; rintro e w5 ⟨rfl, hb5⟩; have HB5 := Lib.hid (below_then HB2.out hb5); clear hb5)
        all_goals
          go_roundw
          case rel => exact ⟨k + 1, by omega, by go_num, by rw [HDL.out]; exact retI (by omega), HB5⟩
          case measure => simp [intOf]; omega
      · have e1 : t.kids.take k = t.kids := List.take_of_length_le (by omega)
        rw [e1]
        have hde := depthT_eq t
        have hds := hd.out
        obtain ⟨x, hx⟩ : ∃ x, x = depthL t.kids := ⟨_, rfl⟩
        rw [← hx] at hde ⊢
        have HDE := Lib.hid hde
        clear hx e1
        go_wp2
        go_ret
        exact ⟨ret1 (by rw [HDE.out]; omega), hB.out⟩
set_option maxRecDepth 100000 in
set_option maxHeartbeats 2000000 in
theorem ex_Size : ∀ (N : Nat) (t : Tr), t.sz ≤ N → ∀ (A : Option Addr) (m c : Nat) (w : World), Hid (TrAt w A m c t) → sizeT t ≤ 1000000 → Calls Tryz.prog 85 #[t.val A m c] w (NumP w (sizeT t))
  | 0, t, hN, _, _, _, _, _, _ => by have := t.sz_pos; omega
  | N + 1, t, hN, A, m, c, w, h, hsz => by
    have IH := Lib.hid (fun t' h' A' m' c' w' H' s' => ex_Size N t' h' A' m' c' w' H' s')
    obtain ⟨hl, hc, hc9⟩ := h.out.len
    have HB1 := Lib.hid ((Below.refl w.heap.size w).alloc (Nat.le_refl _) (.cells #[.int .i64 t.kind, .int .i64 t.num, .slice A m c] 49))
    go_enter Tryz.func85, Tryz.ntmps85
    go_wp2
    go_loopw [3, 9] (fun v3 v9 wr => ∃ k : Nat, k ≤ m ∧ v9 = .int .i64 (k : Int) ∧ v3 = .int .i64 ((sizeL (t.kids.take k) : Int) + 1) ∧ Hid (Below w.heap.size w wr)) (fun _ v9 _ => m - (intOf v9).toNat)
    case atStart => exact ⟨0, by omega, rfl, rfl, HB1.out⟩
    case round =>
      obtain ⟨k, hk, rfl, rfl, hB⟩ := hrel
      by_cases hlt : k < m
      · obtain ⟨b, off, rfl, A', m', c', hK⟩ := (h.out.kept hB.out).kid hlt
        have hdl := sizeL_snoc (l := t.kids) (k := k) (by omega)
        have hsk := size_kid (t := t) (j := k) (by omega)
        have hkd := Tr.kid_lt (t := t) (j := k) (by omega)
        have hdt := sizeL_take t.kids k
        have hde := sizeT_eq t
        obtain ⟨q, hq⟩ : ∃ q, q = t.kids.getD k default := ⟨_, rfl⟩
        rw [← hq] at hK hdl hsk hkd
        have c0 := hK.c0
        have c1 := hK.c1
        have c2 := hK.c2
        have hb2 := (Below.refl wr.heap.size wr).alloc (Nat.le_refl _) (.cells #[.int .i64 q.kind, .int .i64 q.num, .slice A' m' c'] 49)
        have cQ := Lib.hid (IH.out q (by omega) A' m' c' _ (Lib.hid (hK.tr.kept hb2)) (by omega))
        have HB2 := Lib.hid (hB.out.trans (hb2.mono hB.out.size))
        obtain ⟨x, hx⟩ : ∃ x, x = sizeL (t.kids.take k) := ⟨_, rfl⟩
        obtain ⟨y, hy⟩ : ∃ y, y = sizeT q := ⟨_, rfl⟩
        rw [← hx] at hdl hdt
        rw [← hx]
        rw [← hy] at hdl hsk cQ
        have HDL := Lib.hid hdl
        have hlt2 : (k : Int) < (m : Int) := by omega
        have hk0 : (0 : Int) ≤ (k : Int) := by omega
        clear hK hq hb2 hdl hx hy
        go_wp2_with (go_at_call 85; refine cQ.out.mono ?_; rintro e w5 ⟨rfl, hb5⟩; have HB5 := Lib.hid (below_then HB2.out hb5); clear hb5)
        all_goals
          go_roundw
          case rel => exact ⟨k + 1, by omega, by go_num, by rw [HDL.out]; exact retI (by omega), HB5⟩
          case measure => simp [intOf]; omega
      · have e1 : t.kids.take k = t.kids := List.take_of_length_le (by omega)
        rw [e1]
        have hde := sizeT_eq t
        obtain ⟨x, hx⟩ : ∃ x, x = sizeL t.kids := ⟨_, rfl⟩
        rw [← hx] at hde ⊢
        have HDE := Lib.hid hde
        clear hx e1
        go_wp2
        go_ret
        exact ⟨ret1 (by rw [HDE.out]; omega), hB.out⟩
set_option maxRecDepth 100000 in
set_option maxHeartbeats 2000000 in
theorem ref_Depth : ∀ (N : Nat) (t : Tr), t.sz ≤ N → ∀ (A : Option Addr) (m c : Nat) (w : World), Hid (TrAt w A m c t) → sizeT t ≤ 1000000 → Calls Tryz.prog 123 #[t.val A m c] w (NumP w (depthT t))
  | 0, t, hN, _, _, _, _, _, _ => by have := t.sz_pos; omega
  | N + 1, t, hN, A, m, c, w, h, hsz => by
    have IH := Lib.hid (fun t' h' A' m' c' w' H' s' => ref_Depth N t' h' A' m' c' w' H' s')
    have hd := Lib.hid (depth_size t)
    obtain ⟨hl, hc, hc9⟩ := h.out.len
    have HB1 := Lib.hid ((Below.refl w.heap.size w).alloc (Nat.le_refl _) (.cells #[.int .i64 t.kind, .int .i64 t.num, .slice A m c] 49))
    go_enter Tryz.func123, Tryz.ntmps123
    go_wp2
    go_loopw [3, 4] (fun v3 v9 wr => ∃ k : Nat, k ≤ m ∧ v9 = .int .i64 (k : Int) ∧ v3 = .int .i64 (depthL (t.kids.take k) : Int) ∧ Hid (Below w.heap.size w wr) ∧ Hid (wr.cell? ⟨w.heap.size, 2, none⟩ = some (.slice A m c))) (fun _ v9 _ => m - (intOf v9).toNat)
    case atStart => exact ⟨0, by omega, rfl, rfl, HB1.out, cell_new w #[.int .i64 t.kind, .int .i64 t.num, .slice A m c] 49 2 _ rfl⟩
    case round =>
      obtain ⟨k, hk, rfl, rfl, hB, hX⟩ := hrel
      have xc := hX.out
      by_cases hlt : k < m
      · obtain ⟨b, off, rfl, A', m', c', hK⟩ := (h.out.kept hB.out).kid hlt
        have hdl := depthL_snoc (l := t.kids) (k := k) (by omega)
        have hsk := size_kid (t := t) (j := k) (by omega)
        have hkd := Tr.kid_lt (t := t) (j := k) (by omega)
        have hdt := depthL_take t.kids k
        have hde := depthT_eq t
        have hds := hd.out
        obtain ⟨q, hq⟩ : ∃ q, q = t.kids.getD k default := ⟨_, rfl⟩
        rw [← hq] at hK hdl hsk hkd
        have c0 := hK.c0
        have c1 := hK.c1
        have c2 := hK.c2
        have hdq := depth_size q
        have cQ := Lib.hid (IH.out q (by omega) A' m' c' _ (Lib.hid hK.tr) (by omega))
        obtain ⟨x, hx⟩ : ∃ x, x = depthL (t.kids.take k) := ⟨_, rfl⟩
        obtain ⟨y, hy⟩ : ∃ y, y = depthT q := ⟨_, rfl⟩
        rw [← hx] at hdl hdt
        rw [← hx]
        rw [← hy] at hdl hdq cQ
        have HDL := Lib.hid hdl
        have hlt2 : (k : Int) < (m : Int) := by omega
        have hk0 : (0 : Int) ≤ (k : Int) := by omega
        clear hK hq hdl hx hy
        go_wp2_with (go_at_call 123; refine cQ.out.mono ?_; rintro e w5 ⟨rfl, hb5⟩; have HB5 := Lib.hid (hB.out.trans (hb5.mono hB.out.size)); have X5 := Lib.hid (cell_kept hb5 xc); clear hb5)
        all_goals
          go_roundw
          case rel => exact ⟨k + 1, by omega, by go_num, by rw [HDL.out]; exact retI (by omega), HB5, X5⟩
          case measure => simp [intOf]; omega
      · have e1 : t.kids.take k = t.kids := List.take_of_length_le (by omega)
        rw [e1]
        have hde := depthT_eq t
        have hds := hd.out
        obtain ⟨x, hx⟩ : ∃ x, x = depthL t.kids := ⟨_, rfl⟩
        rw [← hx] at hde ⊢
        have HDE := Lib.hid hde
        clear hx e1
        go_wp2
        go_ret
        exact ⟨ret1 (by rw [HDE.out]; omega), hB.out⟩
set_option maxRecDepth 100000 in
set_option maxHeartbeats 2000000 in
theorem ref_Size : ∀ (N : Nat) (t : Tr), t.sz ≤ N → ∀ (A : Option Addr) (m c : Nat) (w : World), Hid (TrAt w A m c t) → sizeT t ≤ 1000000 → Calls Tryz.prog 124 #[t.val A m c] w (NumP w (sizeT t))
  | 0, t, hN, _, _, _, _, _, _ => by have := t.sz_pos; omega
  | N + 1, t, hN, A, m, c, w, h, hsz => by
    have IH := Lib.hid (fun t' h' A' m' c' w' H' s' => ref_Size N t' h' A' m' c' w' H' s')
    obtain ⟨hl, hc, hc9⟩ := h.out.len
    have HB1 := Lib.hid ((Below.refl w.heap.size w).alloc (Nat.le_refl _) (.cells #[.int .i64 t.kind, .int .i64 t.num, .slice A m c] 49))
    go_enter Tryz.func124, Tryz.ntmps124
    go_wp2
    go_loopw [3, 4] (fun v3 v9 wr => ∃ k : Nat, k ≤ m ∧ v9 = .int .i64 (k : Int) ∧ v3 = .int .i64 ((sizeL (t.kids.take k) : Int) + 1) ∧ Hid (Below w.heap.size w wr) ∧ Hid (wr.cell? ⟨w.heap.size, 2, none⟩ = some (.slice A m c))) (fun _ v9 _ => m - (intOf v9).toNat)
    case atStart => exact ⟨0, by omega, rfl, rfl, HB1.out, cell_new w #[.int .i64 t.kind, .int .i64 t.num, .slice A m c] 49 2 _ rfl⟩
    case round =>
      obtain ⟨k, hk, rfl, rfl, hB, hX⟩ := hrel
      have xc := hX.out
      by_cases hlt : k < m
      · obtain ⟨b, off, rfl, A', m', c', hK⟩ := (h.out.kept hB.out).kid hlt
        have hdl := sizeL_snoc (l := t.kids) (k := k) (by omega)
        have hsk := size_kid (t := t) (j := k) (by omega)
        have hkd := Tr.kid_lt (t := t) (j := k) (by omega)
        have hdt := sizeL_take t.kids k
        have hde := sizeT_eq t
        obtain ⟨q, hq⟩ : ∃ q, q = t.kids.getD k default := ⟨_, rfl⟩
        rw [← hq] at hK hdl hsk hkd
        have c0 := hK.c0
        have c1 := hK.c1
        have c2 := hK.c2
        have cQ := Lib.hid (IH.out q (by omega) A' m' c' _ (Lib.hid hK.tr) (by omega))
        obtain ⟨x, hx⟩ : ∃ x, x = sizeL (t.kids.take k) := ⟨_, rfl⟩
        obtain ⟨y, hy⟩ : ∃ y, y = sizeT q := ⟨_, rfl⟩
        rw [← hx] at hdl hdt
        rw [← hx]
        rw [← hy] at hdl hsk cQ
        have HDL := Lib.hid hdl
        have hlt2 : (k : Int) < (m : Int) := by omega
        have hk0 : (0 : Int) ≤ (k : Int) := by omega
        clear hK hq hdl hx hy
        go_wp2_with (go_at_call 124; refine cQ.out.mono ?_; rintro e w5 ⟨rfl, hb5⟩; have HB5 := Lib.hid (hB.out.trans (hb5.mono hB.out.size)); have X5 := Lib.hid (cell_kept hb5 xc); clear hb5)
        all_goals
          go_roundw
          case rel => exact ⟨k + 1, by omega, by go_num, by rw [HDL.out]; exact retI (by omega), HB5, X5⟩
          case measure => simp [intOf]; omega
      · have e1 : t.kids.take k = t.kids := List.take_of_length_le (by omega)
        rw [e1]
        have hde := sizeT_eq t
        obtain ⟨x, hx⟩ : ∃ x, x = sizeL t.kids := ⟨_, rfl⟩
        rw [← hx] at hde ⊢
        have HDE := Lib.hid hde
        clear hx e1
        go_wp2
        go_ret
        exact ⟨ret1 (by rw [HDE.out]; omega), hB.out⟩
end Go.Proofs.YtaeeblceedklnaaGreatDoor
