/- Vars: the program's. -/
import Derived.Test.YtmfdiclbenmfbaaDoorExprSb
import Derived.Test.YtmfdiclbenmfbaaDoorShelf
import Derived.Lib.OwnBridge
import Derived.Lib.AppendIntMem
namespace Go.Proofs.YtmfdiclbenmfbaaDoor
open Go.RowKit Go.Sort Go.Proofs
theorem ints_ty : SlTy Tryd.prog 32 3 1 8 := SlTy.mk (z := .int .i64 0) (by kernel_rfl) (by kernel_rfl) rfl (by decide)
theorem compact_len (l : List Int) : (Lib.compact l).length ≤ l.length := by
  unfold Lib.compact Lib.compactUpTo
  rw [List.length_map]
  have := List.length_filter_le (Lib.keeps l.toArray) (List.range l.length)
  rw [List.length_range] at this
  exact this
theorem sortC_len (l : List Int) : (sortC l).length ≤ l.length := by
  unfold sortC
  refine Nat.le_trans (compact_len _) ?_
  rw [List.length_mergeSort]
  exact Nat.le_refl _
mutual
theorem varsT_len : ∀ t : Tr, (varsT t).length ≤ sizeT t
  | .mk k n l => by
    rw [varsT, sizeT]
    refine Nat.le_trans (sortC_len _) ?_
    rw [List.length_append]
    have := varsC_len l
    have : (if k = 2 then [n] else []).length ≤ 1 := by split <;> simp
    omega
theorem varsC_len : ∀ l : List Tr, (varsC l).length ≤ sizeL l
  | [] => by rw [varsC, sizeL]; simp
  | t :: r => by
    rw [varsC, sizeL, List.length_append]
    have := varsT_len t
    have := varsC_len r
    omega
end
theorem varsC_app : ∀ (l r : List Tr), varsC (l ++ r) = varsC l ++ varsC r
  | [], r => by rw [varsC_nil]; rfl
  | t :: l, r => by rw [List.cons_append, varsC_cons, varsC_cons, varsC_app l r, List.append_assoc]
/-- A list of numbers, handed back. -/
def IntsP (l : List Int) (w : World) (e : Ending) (w' : World) : Prop :=
  ∃ A c, e = .returned (.slice A l.length c) ∧ Hid (Sl w' (.slice A l.length c) l.length 1 (intCells l)) ∧ Hid (Below w.heap.size w w')
def VarsAt (N : Nat) : Prop := ∀ (t : Tr), t.sz ≤ N → ∀ (A : Option Addr) (m c : Nat) (w : World), Hid (TrAt w A m c t) → sizeT t ≤ 1000000 → Calls Tryd.prog 20 #[t.val A m c] w (IntsP (varsT t) w)
theorem own_ints {w : World} {base n : Nat} {A : Option Addr} {c : Nat} {l : List Int} (h : w.ownsRow base 3 1 (.slice A n c) n (intCells l)) : l.length = n := by
  have := h.1
  rw [intCells_len] at this
  omega
theorem ownsRow_putRow_ {w : World} {base g n cap q k : Nat} {zs ys : List Int} (h : w.ownsRow base 3 1 (.slice (some ⟨g, 0, none⟩) n cap) n (intCells zs)) (hy : ys.length = n) (hk : k ≤ n) :
    (putRow (Value.int .i64) (Sort.ahead w q) g 0 ys.toArray).ownsRow base 3 1 (.slice (some ⟨g, 0, none⟩) k cap) k (intCells (ys.take k)) := Lib.ownsRow_putRow (enc := Value.int .i64) h hy hk
set_option maxRecDepth 100000 in
set_option maxHeartbeats 4000000 in
theorem ex_Vars_step (N : Nat) (IH : Hid (VarsAt N)) : VarsAt (N + 1) := by
  intro t hN A m c w h hsz
  obtain ⟨hl, hc, hc9⟩ := h.out.len
  have HV := Lib.hid (varsT_eq t)
  have hsl := sizeT_eq t
  have hb1 := (Below.refl w.heap.size w).alloc (Nat.le_refl _) (.cells #[.int .i64 t.kind, .int .i64 t.num, .slice A m c] 24)
  have HB1 := Lib.hid hb1
  have x0 := cell_new w #[.int .i64 t.kind, .int .i64 t.num, .slice A m c] 24 0 _ rfl
  have x1 := cell_new w #[.int .i64 t.kind, .int .i64 t.num, .slice A m c] 24 1 _ rfl
  have x2 := cell_new w #[.int .i64 t.kind, .int .i64 t.num, .slice A m c] 24 2 _ rfl
  obtain ⟨w1, hw1⟩ : ∃ w1, w1 = w.alloc (.cells #[.int .i64 t.kind, .int .i64 t.num, .slice A m c] 24) := ⟨_, rfl⟩
  have hs1 : w1.heap.size = w.heap.size + 1 := by rw [hw1, World.size_alloc]
  obtain ⟨g, hg⟩ : ∃ g, g = w.heap.size := ⟨_, rfl⟩
  have HW1 := Lib.hid hw1
  have HG := Lib.hid hg
  have HS1 := Lib.hid hs1
  rw [← hw1] at HB1 x0 x1 x2
  rw [← hg] at x0 x1 x2
  clear hb1 hw1 hg hs1
  obtain ⟨pre, hpre⟩ : ∃ pre : List Int, pre = if t.kind = 2 then [t.num] else [] := ⟨_, rfl⟩
  rw [← hpre] at HV
  have hpl : pre.length ≤ 1 := by rw [hpre]; split <;> simp
  have HPRE := Lib.hid hpre
  clear hpre
  go_enter Tryd.func20, Tryd.ntmps20
  go_upto_region 1 with fail
  rw [← HG.out, ← HW1.out]
  go_upto_if 8 with fail
  go_cut [3] (fun s3 wx => Hid (wx.ownsRow w.heap.size 3 1 s3 pre.length (intCells pre)) ∧ Hid (Below w.heap.size w wx) ∧ Hid (wx.cell? ⟨g, 2, none⟩ = some (.slice A m c)))
  case first =>
    by_cases h2 : t.kind = 2
    · have bk : (t.kind == 2) = true := by simpa using h2
      have hp : pre = [t.num] := by rw [HPRE.out, if_pos h2]
      have hnil := Lib.hid (World.ownsRow_nil w1 w.heap.size 3 1)
      have ha := (Below.refl w1.heap.size w1).alloc (Nat.le_refl _) (.cells #[.int .i64 t.num] 3)
      have hown := Lib.hid (own_below hnil.out ha)
      have hnew := Lib.hid (Sl.new w1 3 [.int .i64 t.num] 1 1 rfl (by omega))
      have h1 : ∀ u ∈ [Value.int .i64 t.num], u.oneCell' = true := by intro u hu; simp at hu; subst hu; rfl
      have H1 := Lib.hid h1
      have HP := Lib.hid hp
      have HA := Lib.hid ha
      have hsz3 : (w1.alloc (.cells #[.int .i64 t.num] 3)).heap.size = w1.heap.size + 1 := World.size_alloc _ _
      have hbs : w.heap.size ≤ (w1.alloc (.cells #[.int .i64 t.num] 3)).heap.size := by rw [hsz3, HS1.out]; omega
      have HBS := Lib.hid hbs
      clear h2 hp ha h1 hsz3 hbs
      go_wp2_with (at_builtin; refine wpList_append_sl ints_ty rfl (.tmp 9) (.tmp 12) rfl w.heap.size rfl (by exact hown.out) rfl (by exact hnew.out) H1.out (by omega) (by omega) HBS.out ?_; intro v4 w4 hown4 hg4 hat4; rw [Nat.zero_add, List.nil_append] at hown4; have HO := Lib.hid hown4; have HG4 := Lib.hid (show (w1.alloc (.cells #[.int .i64 t.num] 3)).grownBy w4 none from hg4); clear hown4 hg4 hat4)
      go_meet
      have hb4 := (HB1.out.trans (HA.out.mono (by rw [HS1.out]; omega))).grown HG4.out HBS.out (by simp)
      refine ⟨Lib.hid (by rw [HP.out]; exact HO.out), Lib.hid hb4, Lib.hid ?_⟩
      exact HG4.out.cell (cell_kept HA.out x2) (by simp)
    · have bk : (t.kind == 2) = false := by simpa using h2
      have hp : pre = [] := by rw [HPRE.out, if_neg h2]
      have HP := Lib.hid hp
      clear h2 hp
      go_wp2_with fail
      go_meet
      exact ⟨Lib.hid (by rw [HP.out]; exact World.ownsRow_nil _ _ _ _), HB1, Lib.hid x2⟩
  case rest =>
    obtain ⟨hO, hB2, hX⟩ := hcut
    have x2' := hX.out
    rename_i v3 w2
    clear x0 x1 x2
    go_wp2_with fail
    go_loopw [3, 17] (fun v3 v17 wr => ∃ (k n : Nat) (L : List Int), k ≤ m ∧ v17 = .int .i64 (k : Int) ∧ Hid (L = pre ++ varsC (t.kids.take k)) ∧ Hid (n = L.length) ∧ Hid (wr.ownsRow w.heap.size 3 1 v3 n (intCells L)) ∧ Hid (Below w.heap.size w wr)) (fun _ v17 _ => m - (intOf v17).toNat)
    case atStart => exact ⟨0, pre.length, pre, by omega, rfl, Lib.hid (by simp [varsC_nil]), Lib.hid rfl, hO, hB2⟩
    case round =>
      obtain ⟨k, n, L, hk, rfl, hL, hn, hOw, hB⟩ := hrel
      have hLn : L.length ≤ 1000000 := by
        rw [hL.out, List.length_append]
        have := varsC_len (t.kids.take k)
        have := sizeL_take t.kids k
        omega
      have hnL := hn.out
      subst hnL
      by_cases hlt : k < m
      · obtain ⟨b, off, rfl, A', m', c', hK⟩ := (h.out.kept hB.out).kid hlt
        have hkd := Tr.kid_lt (t := t) (j := k) (by omega)
        have hsk := size_kid (t := t) (j := k) (by omega)
        have hst : varsC (t.kids.take (k + 1)) = varsC (t.kids.take k) ++ varsT (t.kids.getD k default) := by rw [take_snocT (by omega), varsC_app, varsC_cons, varsC_nil, List.append_nil]
        obtain ⟨q, hq⟩ : ∃ q, q = t.kids.getD k default := ⟨_, rfl⟩
        rw [← hq] at hK hkd hsk hst
        have hvl := varsT_len q
        have c0 := hK.c0
        have c1 := hK.c1
        have c2 := hK.c2
        have ha := (Below.refl wr.heap.size wr).alloc (Nat.le_refl _) (.cells #[.int .i64 q.kind, .int .i64 q.num, .slice A' m' c'] 24)
        have CQ := Lib.hid (IH.out q (by omega) A' m' c' _ (Lib.hid (hK.tr.kept ha)) (by omega))
        have hOw2 := Lib.hid (own_below hOw.out ha)
        have hba := hB.out.trans (ha.mono hB.out.size)
        obtain ⟨V, hV⟩ : ∃ V, V = varsT q := ⟨_, rfl⟩
        rw [← hV] at hst hvl CQ
        have hL2 : Hid (L ++ V = pre ++ varsC (t.kids.take (k + 1))) := Lib.hid (by rw [hL.out, hst, List.append_assoc])
        have hsw : w.heap.size ≤ (wr.alloc (.cells #[.int .i64 q.kind, .int .i64 q.num, .slice A' m' c'] 24)).heap.size := by rw [World.size_alloc]; have := hB.out.size; omega
        have hlt2 : (k : Int) < (m : Int) := by omega
        have hk0 : (0 : Int) ≤ (k : Int) := by omega
        have HBA := Lib.hid hba
        have hVl : V.length ≤ 1000000 := by omega
        have HSW := Lib.hid hsw
        have H1 := Lib.hid (int_one V)
        clear hK hst hq hkd hsk ha hba hV hsw hvl
        go_wp2_with (first
          | (go_at_call 20; refine CQ.out.mono ?_; rintro e w5 ⟨A3, c3, rfl, hS5, hb5⟩; have HB5 := Lib.hid (HBA.out.trans (hb5.out.mono HSW.out)); have hO5 := Lib.hid (own_below hOw2.out hb5.out); have hs5 := Nat.le_trans HSW.out hb5.out.size)
          | (at_builtin; refine wpList_append_sl ints_ty rfl (.tmp 21) (.tmp 23) rfl w.heap.size rfl (by exact hO5.out) rfl (by exact hS5.out) H1.out (by omega) (by omega) hs5 ?_; intro v6 w6 hown6 hg6 hat6; have HO6 := Lib.hid hown6; have HB6 := Lib.hid (below_grown HB5.out hg6 hO5.out (Nat.le_refl _) hs5); clear hown6 hg6 hat6))
        go_roundw
        case rel => exact ⟨k + 1, L.length + V.length, L ++ V, by omega, by go_num, hL2, Lib.hid (by rw [List.length_append]), Lib.hid (by rw [intCells, List.map_append]; exact HO6.out), HB6⟩
        case measure => simp [intOf]; omega
      · have e1 : t.kids.take k = t.kids := List.take_of_length_le (by omega)
        have hL2 := hL.out
        rw [e1] at hL2
        have hV2 : varsT t = sortC L := by rw [HV.out, hL2]
        obtain ⟨A3, c3, rfl, hc3, hc4⟩ := own_form hOw.out
        have HV2 := Lib.hid hV2
        clear e1 hL2 hV2 hsl
        by_cases hL0 : L = []
        · subst hL0
          have hv0 : varsT t = [] := by rw [HV2.out]; unfold sortC; rw [List.mergeSort_nil]; rfl
          have HV0 := Lib.hid hv0
          clear hv0
          go_wp2_with fail
          refine (Tryd.slices_Sort_int_none A3 c3 wr).mono ?_
          rintro e w4 ⟨rfl, rfl⟩
          go_wp2_with fail
          refine (Tryd.slices_Compact_int_empty A3 c3 _).mono ?_
          rintro e w5 ⟨rfl, rfl⟩
          go_wp2_with fail
          go_ret
          rw [HV0.out]
          exact ⟨_, _, rfl, Lib.hid (Sl.of_own hOw.out), hB⟩
        · have hL1 : L.length ≠ 0 := fun h0 => hL0 (List.eq_nil_of_length_eq_zero h0)
          obtain ⟨g2, cap, he, hg2, hg2l, hcap, hcm, _, hH⟩ := Lib.holds_of_ownsRow hOw.out (by intro e; injection e with _ e2 _; exact hL1 e2)
          cases he
          obtain ⟨S, hS⟩ : ∃ S, S = L.mergeSort fun x y => decide (x ≤ y) := ⟨_, rfl⟩
          have hSl : S.length = L.length := by rw [hS, List.length_mergeSort]
          have hvs : varsT t = Lib.compact S := by rw [HV2.out, hS]; rfl
          have hcl := compact_len S
          have HVS := Lib.hid hvs
          have CS := Tryd.slices_Sort_int g2 0 c3 L wr hH hg2l (by omega)
          rw [← hS] at CS
          have CSH := Lib.hid CS
          have HSL := Lib.hid hSl
          have HG2 := Lib.hid hg2
          clear CS hS hSl hvs hL0 hL1 hH hcl
          go_wp2_with fail
          refine CSH.out.mono ?_
          rintro e w4 ⟨rfl, n4, os, hw4⟩
          have ho4 := ownsRow_putRow_ (q := n4) (ys := S) (k := L.length) hOw.out HSL.out (Nat.le_refl _)
          rw [List.take_of_length_le (by rw [HSL.out]; exact Nat.le_refl _)] at ho4
          have hb4 := Lib.below_putRow (enc := Value.int .i64) (q := n4) (d := S.toArray) hB.out hg2
          have ho4' := own_below ho4 (Lib.below_grow _ _ (Nat.le_refl _) 0 os)
          have hb4' := hb4.trans (Lib.below_grow _ _ hb4.size 0 os)
          have ew : grow ((putRow (Value.int .i64) (Sort.ahead wr n4) g2 0 S.toArray).drewN 0) os = w4 := hw4.symm
          rw [ew] at ho4' hb4'
          have HO4 := Lib.hid ho4'
          have HB4 := Lib.hid hb4'
          clear hw4 ho4 hb4 ew ho4' hb4'
          obtain ⟨g3, cap3, he3, _, _, _, _, _, hH3⟩ := Lib.holds_of_ownsRow (zs := S) HO4.out (by simp)
          cases he3
          have CC := Tryd.slices_Compact_int g2 0 c3 S w4 hH3 (by rw [HSL.out]; omega) (by rw [HSL.out]; exact hcap)
          rw [HSL.out] at CC
          have CCH := Lib.hid CC
          clear CC hH3
          go_wp2_with fail
          refine CCH.out.mono ?_
          rintro e w5 ⟨rfl, q5, hw5⟩
          have hk5 : (Lib.compact S).length ≤ L.length := by rw [← HSL.out]; exact compact_len S
          have ho5 := ownsRow_putRow_ (q := q5) (ys := Lib.compact S ++ List.replicate (L.length - (Lib.compact S).length) 0) (k := (Lib.compact S).length) HO4.out (by rw [List.length_append, List.length_replicate]; omega) hk5
          rw [List.take_left'  rfl] at ho5
          have hb5 := Lib.below_putRow (enc := Value.int .i64) (q := q5) (d := (Lib.compact S ++ List.replicate (L.length - (Lib.compact S).length) 0).toArray) HB4.out hg2
          rw [← hw5] at ho5 hb5
          have HO5 := Lib.hid (Sl.of_own ho5)
          have HB5 := Lib.hid hb5
          clear hw5 ho5 hb5 hk5
          go_wp2_with fail
          go_ret
          rw [HVS.out]
          exact ⟨_, _, rfl, HO5, HB5⟩
theorem ex_Vars : ∀ N, VarsAt N
  | 0 => fun t hN _ _ _ _ _ _ => by have := t.sz_pos; omega
  | N + 1 => ex_Vars_step N (Lib.hid (ex_Vars N))
end Go.Proofs.YtmfdiclbenmfbaaDoor
