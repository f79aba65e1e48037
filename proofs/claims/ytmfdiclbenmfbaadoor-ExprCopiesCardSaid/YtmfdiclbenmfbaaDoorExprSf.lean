/- Law 04: Ints, num, bin. -/
import Derived.Test.YtmfdiclbenmfbaaDoorExprSe
import Derived.Test.YtmfdiclbenmfbaaDoorExprE
import Derived.Handy
namespace Go.Proofs.YtmfdiclbenmfbaaDoor
open Go.RowKit
theorem ret_b {a b : Bool} (h : a = b) : Ending.returned (.bool a) = .returned (.bool b) := by rw [h]
theorem drew2 (w : World) (a b : Nat) : (w.drewN a).drewN b = w.drewN (a + b) := World.drewN_drewN _ _ _
theorem Sl.int_at {w : World} {A : Option Addr} {n c : Nat} {l : List Int} (h : Sl w (.slice A n c) n 1 (intCells l)) {k : Nat} (hk : k < n) :
    ∃ b off, A = some ⟨b, off, none⟩ ∧ w.cell? ⟨b, off + k, none⟩ = some (.int .i64 (l.getD k 0)) := by
  have hl := h.len
  rw [intCells_len] at hl
  obtain ⟨b, off, e, hc⟩ := h.at_ (by omega)
  exact ⟨b, off, e, hc k _ (intCells_at (by omega))⟩
theorem list_eq_of {l m : List Int} (hl : l.length = m.length) (h : ∀ j, j < l.length → l.getD j 0 = m.getD j 0) : l = m := by
  refine List.ext_getElem hl fun j h1 h2 => ?_
  have := h j h1
  simpa [List.getD, h1, h2] using this
set_option maxHeartbeats 1000000 in
theorem ref_Ints (A B : Option Addr) (n m c d : Nat) (la lb : List Int) (w : World) (hA : Hid (Sl w (.slice A n c) n 1 (intCells la))) (hB : Hid (Sl w (.slice B m d) m 1 (intCells lb))) (hn : n ≤ 9223372036854775807) (hm : m ≤ 9223372036854775807) :
    Calls Tryd.prog 19 #[.slice A n c, .slice B m d] w fun e w' => e = .returned (.bool (decide (la = lb))) ∧ ∃ k, w' = w.drewN k := by
  have hla := Lib.hid (show la.length = n by have := hA.out.len; rw [intCells_len] at this; omega)
  have hlb := Lib.hid (show lb.length = m by have := hB.out.len; rw [intCells_len] at this; omega)
  by_cases hnm : n = m
  · subst hnm
    go_enter Tryd.func19, Tryd.ntmps19
    go_wp2
    go_loopw [5] (fun v wr => ∃ (k q : Nat), k ≤ n ∧ v = .int .i64 (k : Int) ∧ wr = w.drewN q ∧ Hid (∀ j, j < k → la.getD j 0 = lb.getD j 0)) (fun v _ => n - (RowKit.intOf v).toNat)
    case atStart => exact ⟨0, 0, by omega, rfl, rfl, fun j hj => by omega⟩
    case round =>
      obtain ⟨k, q, hk, rfl, rfl, hj⟩ := hrel
      by_cases hlt : k < n
      · obtain ⟨b1, o1, rfl, c1⟩ := hA.out.int_at hlt
        obtain ⟨b2, o2, rfl, c2⟩ := hB.out.int_at hlt
        obtain ⟨x, hx⟩ : ∃ x, x = la.getD k 0 := ⟨_, rfl⟩
        obtain ⟨y, hy⟩ : ∃ y, y = lb.getD k 0 := ⟨_, rfl⟩
        rw [← hx] at c1
        rw [← hy] at c2
        have HX := Lib.hid hx
        have HY := Lib.hid hy
        have hlt2 : (k : Int) < (n : Int) := by omega
        have hk0 : (0 : Int) ≤ (k : Int) := by omega
        clear hx hy
        rcases hxy : (x == y) with _ | _
        · have hxy2 : (x != y) = true := by simp [bne, hxy]
          have HXY := Lib.hid hxy
          clear hxy
          go_wp2
          go_quiet (fail)
          go_wp2
          go_ret
          refine ⟨ret_b ?_, _, drew2 _ _ _⟩
          symm
          rw [decide_eq_false_iff_not]
          intro e
          have h1 := HXY.out
          rw [HX.out, HY.out, e] at h1
          simp at h1
        · have hxy2 : (x != y) = false := by simp [bne, hxy]
          have HXY := Lib.hid hxy
          clear hxy
          go_wp2
          go_quiet (fail)
          go_wp2
          go_roundw
          case rel =>
            refine ⟨k + 1, _, by omega, by go_num, rfl, fun j hj2 => ?_⟩
            by_cases e : j = k
            · rw [e, ← HX.out, ← HY.out]
              simpa using HXY.out
            · exact hj.out j (by omega)
          case measure => simp [RowKit.intOf]; omega
      · go_wp2
        go_ret
        refine ⟨ret_b ?_, _, rfl⟩
        symm
        rw [decide_eq_true_eq]
        exact list_eq_of (by rw [hla.out, hlb.out]) fun j h => hj.out j (by rw [hla.out] at h; omega)
  · have d1 : ((n : Int) != (m : Int)) = true := by simp; omega
    have e1 : decide (la = lb) = false := by
      rw [decide_eq_false_iff_not]
      intro e
      have h1 := hla.out
      have h2 := hlb.out
      rw [e] at h1
      omega
    rw [e1]
    go_enter Tryd.func19, Tryd.ntmps19
    go_wp2
    go_ret
    exact ⟨rfl, 0, rfl⟩
set_option maxRecDepth 100000 in
theorem law_num (n : Int) (w : World) : Calls Tryd.prog 31 #[.int .i64 n] w fun e w' => e = .returned ((Tr.mk 1 n []).val none 0 0) ∧ Below w.heap.size w w' := by
  go_enter Tryd.func31, Tryd.ntmps31
  go_wp2
  go_returns
  exact ⟨rfl, (Below.refl _ _).alloc (Nat.le_refl _) _⟩
theorem tr_num {n : Int} (hn : I64 n) (w : World) : TrAt w none 0 0 (.mk 1 n []) := TrAt.mk_ (t := .mk 1 n []) (show I64 1 by decide) hn rfl (Nat.le_refl _) (by omega) (.inl rfl)
theorem tr_var {n : Int} (hn : I64 n) (w : World) : TrAt w none 0 0 (.mk 2 n []) := TrAt.mk_ (t := .mk 2 n []) (show I64 2 by decide) hn rfl (Nat.le_refl _) (by omega) (.inl rfl)
/-- Kids laid side by side in a new block. -/
def kidsRow (l : List (Tr × Option Addr × Nat × Nat)) : List Value := l.flatMap fun x => [.int .i64 x.1.kind, .int .i64 x.1.num, .slice x.2.1 x.2.2.1 x.2.2.2]
theorem tr_kids {w : World} {b : Nat} {k n : Int} (hk : I64 k) (hn : I64 n) (l : List (Tr × Option Addr × Nat × Nat)) (hl : l.length ≤ 9223372036854775807) (hc : ∀ j u, (kidsRow l)[j]? = some u → w.cell? ⟨b, j, none⟩ = some u) (ht : ∀ x ∈ l, TrAt w x.2.1 x.2.2.1 x.2.2.2 x.1) :
    TrAt w (some ⟨b, 0, none⟩) l.length l.length (.mk k n (l.map (·.1))) := by
  refine TrAt.mk_ (t := .mk k n (l.map (·.1))) hk hn (by show (l.map _).length = _; simp) (Nat.le_refl _) hl (.inr ⟨b, 0, rfl, fun j hj => ?_⟩)
  have hx := ht l[j] (List.getElem_mem hj)
  have e : (Tr.mk k n (l.map (·.1))).kids.getD j default = l[j].1 := by
    show (l.map (·.1)).getD j default = _
    simp [List.getD, hj]
  rw [e]
  have hcell : ∀ i u, [Value.int .i64 l[j].1.kind, .int .i64 l[j].1.num, .slice l[j].2.1 l[j].2.2.1 l[j].2.2.2][i]? = some u → w.cell? ⟨b, j * 3 + i, none⟩ = some u := fun i u hi => by
    have hi3 : i < 3 := by
      rcases Nat.lt_or_ge i 3 with h | h
      · exact h
      · rw [List.getElem?_eq_none (by simpa using h)] at hi; cases hi
    refine hc _ _ ?_
    unfold kidsRow
    rw [flat_get (m := 3) _ (by omega) _ (fun _ _ => rfl), show (j * 3 + i) / 3 = j by omega, show (j * 3 + i) % 3 = i by omega, List.getElem?_eq_getElem hj]
    exact hi
  rw [Nat.zero_add]
  exact ⟨_, _, _, hcell 0 _ rfl, hcell 1 _ rfl, hcell 2 _ rfl, hx⟩
theorem tr_new {w : World} {k n : Int} (hk : I64 k) (hn : I64 n) (l : List (Tr × Option Addr × Nat × Nat)) (hl : l.length ≤ 9223372036854775807) (ht : ∀ x ∈ l, TrAt w x.2.1 x.2.2.1 x.2.2.2 x.1) :
    TrAt (w.alloc (.cells (kidsRow l).toArray 24)) (some ⟨w.heap.size, 0, none⟩) l.length l.length (.mk k n (l.map (·.1))) :=
  tr_kids hk hn l hl (fun j u hj => cell_new w _ _ j u (by simpa using hj)) (fun x hx => (ht x hx).kept ((Below.refl _ w).alloc (Nat.le_refl _) _))
set_option maxRecDepth 100000 in
set_option maxHeartbeats 1000000 in
theorem law_bin (op : Int) (hop : I64 op) (a b : Tr) (A : Option Addr) (m c : Nat) (B : Option Addr) (n d : Nat) (w : World) (ha : Hid (TrAt w A m c a)) (hb : Hid (TrAt w B n d b)) :
    Calls Tryd.prog 30 #[.int .i64 op, a.val A m c, b.val B n d] w fun e w' => (∃ g, e = .returned ((Tr.mk 5 op [a, b]).val (some ⟨g, 0, none⟩) 2 2) ∧ Hid (TrAt w' (some ⟨g, 0, none⟩) 2 2 (.mk 5 op [a, b]))) ∧ Hid (Below w.heap.size w w') := by
  go_enter Tryd.func30, Tryd.ntmps30
  go_wp2
  go_returns
  have sz : ∀ (u : World) (o : Obj), (u.alloc o).heap.size = u.heap.size + 1 := fun u o => World.size_alloc u o
  have hB : ∀ (o1 o2 o3 o4 : Obj), Below w.heap.size w ((((w.alloc o1).alloc o2).alloc o3).alloc o4) := fun o1 o2 o3 o4 =>
    (((((Below.refl _ w).alloc (Nat.le_refl _) o1).alloc (by rw [sz]; omega) o2).alloc (by rw [sz, sz]; omega) o3).alloc (by rw [sz, sz, sz]; omega) o4)
  refine ⟨⟨w.heap.size + 1 + 1 + 1, rfl, Lib.hid ?_⟩, Lib.hid (hB _ _ _ _)⟩
  have hB3 : ∀ (o1 o2 o3 : Obj), Below w.heap.size w (((w.alloc o1).alloc o2).alloc o3) := fun o1 o2 o3 =>
    ((((Below.refl _ w).alloc (Nat.le_refl _) o1).alloc (by rw [sz]; omega) o2).alloc (by rw [sz, sz]; omega) o3)
  have hT := fun (o1 o2 o3 : Obj) => tr_new (w := ((w.alloc o1).alloc o2).alloc o3) (k := 5) (n := op) (by decide) hop [(a, A, m, c), (b, B, n, d)] (by simp) (fun x hx => by
    simp only [List.mem_cons, List.not_mem_nil, or_false] at hx
    rcases hx with rfl | rfl
    · exact ha.out.kept (hB3 _ _ _)
    · exact hb.out.kept (hB3 _ _ _))
  simp only [sz] at hT
  exact hT _ _ _
end Go.Proofs.YtmfdiclbenmfbaaDoor
