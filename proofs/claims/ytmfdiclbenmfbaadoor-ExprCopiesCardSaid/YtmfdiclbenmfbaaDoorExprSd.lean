/- Put: the program's. Printed by gen_exprSd.py. -/
import Derived.Test.YtmfdiclbenmfbaaDoorExprSc
namespace Go.Proofs.YtmfdiclbenmfbaaDoor
open Go.RowKit
/-- What Put tells. -/
def PuP (t : Tr) (w : World) (e : Ending) (w' : World) : Prop :=
  ∃ A2 m2 c2, e = .returned (.agg #[.int .i64 t.kind, .int .i64 t.num, .slice A2 m2 c2]) ∧ Hid (FrI w' w.heap.size w'.heap.size A2 m2 c2 t) ∧ Hid (Below w.heap.size w w')
def PutAt (k : Int) (b : Tr) (N : Nat) : Prop := ∀ (t : Tr), t.sz ≤ N → ∀ (A : Option Addr) (m c : Nat) (B : Option Addr) (n d : Nat) (w : World), Hid (TrAt w A m c t) → Hid (TrAt w B n d b) → sizeT t ≤ 1000000 → Calls Tryd.prog 24 #[t.val A m c, .int .i64 k, b.val B n d] w (PuP (putT k b t) w)
set_option maxRecDepth 100000 in
set_option maxHeartbeats 4000000 in
theorem ex_Put_step (k : Int) (b : Tr) (hbs : sizeT b ≤ 1000000) (N : Nat) (IH : Hid (PutAt k b N)) : PutAt k b (N + 1) := by
  intro t hN A m c B n d w h hb hsz
  obtain ⟨hl, hc, hc9⟩ := h.out.len
  obtain ⟨hl2, hd, hd9⟩ := hb.out.len
  obtain ⟨i1, i2⟩ := h.out.nums
  obtain ⟨j1, j2⟩ := hb.out.nums
  have hm := kidsLen hl hsz
  have hz1 : (w.alloc (.cells #[.int .i64 t.kind, .int .i64 t.num, .slice A m c] 24)).heap.size = w.heap.size + 1 := World.size_alloc _ _
  have hz2 : ((w.alloc (.cells #[.int .i64 t.kind, .int .i64 t.num, .slice A m c] 24)).alloc (.cells #[.int .i64 b.kind, .int .i64 b.num, .slice B n d] 24)).heap.size = w.heap.size + 1 + 1 := by rw [World.size_alloc, hz1]
  have hb1 := (Below.refl w.heap.size w).alloc (Nat.le_refl _) (.cells #[.int .i64 t.kind, .int .i64 t.num, .slice A m c] 24)
  have hb2 := hb1.alloc (by rw [hz1]; omega) (.cells #[.int .i64 b.kind, .int .i64 b.num, .slice B n d] 24)
  have hb3 := hb2.alloc (by rw [hz2]; omega) (.cells #[.int .i64 0, .int .i64 0, .slice none 0 0] 24)
  have hx := (heap_alloc_old ((w.alloc (.cells #[.int .i64 t.kind, .int .i64 t.num, .slice A m c] 24)).alloc (.cells #[.int .i64 b.kind, .int .i64 b.num, .slice B n d] 24)) (.cells #[.int .i64 0, .int .i64 0, .slice none 0 0] 24) (r := w.heap.size) (by rw [hz2]; omega)).trans ((heap_alloc_old (w.alloc (.cells #[.int .i64 t.kind, .int .i64 t.num, .slice A m c] 24)) (.cells #[.int .i64 b.kind, .int .i64 b.num, .slice B n d] 24) (r := w.heap.size) (by rw [hz1]; omega)).trans (heap_alloc_new w _))
  have hv := (heap_alloc_old ((w.alloc (.cells #[.int .i64 t.kind, .int .i64 t.num, .slice A m c] 24)).alloc (.cells #[.int .i64 b.kind, .int .i64 b.num, .slice B n d] 24)) (.cells #[.int .i64 0, .int .i64 0, .slice none 0 0] 24) (r := (w.alloc (.cells #[.int .i64 t.kind, .int .i64 t.num, .slice A m c] 24)).heap.size) (by rw [hz2, hz1]; omega)).trans (heap_alloc_new (w.alloc (.cells #[.int .i64 t.kind, .int .i64 t.num, .slice A m c] 24)) _)
  have hy := heap_alloc_new ((w.alloc (.cells #[.int .i64 t.kind, .int .i64 t.num, .slice A m c] 24)).alloc (.cells #[.int .i64 b.kind, .int .i64 b.num, .slice B n d] 24)) (.cells #[.int .i64 0, .int .i64 0, .slice none 0 0] 24)
  rw [hz1] at hv
  rw [hz2] at hy
  obtain ⟨w1, hw1⟩ : ∃ w1, w1 = ((w.alloc (.cells #[.int .i64 t.kind, .int .i64 t.num, .slice A m c] 24)).alloc (.cells #[.int .i64 b.kind, .int .i64 b.num, .slice B n d] 24)).alloc (.cells #[.int .i64 0, .int .i64 0, .slice none 0 0] 24) := ⟨_, rfl⟩
  have hs1 : w1.heap.size = w.heap.size + 3 := by rw [hw1, World.size_alloc, hz2]
  obtain ⟨g, hg⟩ : ∃ g, g = w.heap.size := ⟨_, rfl⟩
  have HW1 := Lib.hid hw1
  have HG := Lib.hid hg
  have HS1 := Lib.hid hs1
  rw [← hw1] at hb3 hx hv hy
  rw [← hg] at hx hv hy
  have HB1 := Lib.hid hb3
  have HX := Lib.hid hx
  have HV := Lib.hid hv
  have HY := Lib.hid hy
  have HTB := Lib.hid (hb.out.kept hb3)
  have x0 : w1.cell? ⟨g, 0, none⟩ = some (.int .i64 t.kind) := by rw [cell_of_row _ _ _ _ _ _ hx]; rfl
  have x1 : w1.cell? ⟨g, 1, none⟩ = some (.int .i64 t.num) := by rw [cell_of_row _ _ _ _ _ _ hx]; rfl
  have x2 : w1.cell? ⟨g, 2, none⟩ = some (.slice A m c) := by rw [cell_of_row _ _ _ _ _ _ hx]; rfl
  have v0 : w1.cell? ⟨g + 1, 0, none⟩ = some (.int .i64 b.kind) := by rw [cell_of_row _ _ _ _ _ _ hv]; rfl
  have v1 : w1.cell? ⟨g + 1, 1, none⟩ = some (.int .i64 b.num) := by rw [cell_of_row _ _ _ _ _ _ hv]; rfl
  have v2 : w1.cell? ⟨g + 1, 2, none⟩ = some (.slice B n d) := by rw [cell_of_row _ _ _ _ _ _ hv]; rfl
  clear hz1 hz2 hb1 hb2 hb3 hx hv hy hw1 hs1 hg
  by_cases hvar : t.kind = 2 ∧ t.num = k
  · have bk : (t.kind == 2) = true := by simpa using hvar.1
    have bn : (t.num == k) = true := by simpa using hvar.2
    have hP : putT k b t = b := putT_var hvar
    rw [hP]
    have CC := Lib.hid (ex_Copy b.sz b (Nat.le_refl _) B n d w1 HTB hbs)
    clear hvar hP
    go_enter Tryd.func24, Tryd.ntmps24
    go_upto_region 1 with fail
    rw [← HG.out, ← HW1.out]
    go_wp2_with fail
    refine CC.out.mono ?_
    rintro e w5 ⟨A3, c3, rfl, hF, hb5⟩
    have hy5 := (hb5.out.block (g + 1 + 1) (by rw [HS1.out, ← HG.out]; omega)).trans HY.out
    have y0 : w5.cell? ⟨g + 1 + 1, 0, none⟩ = some (.int .i64 0) := by rw [cell_of_row _ _ _ _ _ _ hy5]; rfl
    have y1 : w5.cell? ⟨g + 1 + 1, 1, none⟩ = some (.int .i64 0) := by rw [cell_of_row _ _ _ _ _ _ hy5]; rfl
    have y2 : w5.cell? ⟨g + 1 + 1, 2, none⟩ = some (.slice none 0 0) := by rw [cell_of_row _ _ _ _ _ _ hy5]; rfl
    have f0 : w5.frozen? ⟨g + 1 + 1, 0, none⟩ = false := by simp [World.frozen?, hy5]
    have f1 : w5.frozen? ⟨g + 1 + 1, 1, none⟩ = false := by simp [World.frozen?, hy5]
    have f2 : w5.frozen? ⟨g + 1 + 1, 2, none⟩ = false := by simp [World.frozen?, hy5]
    have hend : FrI (set3 w5 (g + 1 + 1) 0 (.int .i64 b.kind) (.int .i64 b.num) (.slice A3 n c3)) w.heap.size (set3 w5 (g + 1 + 1) 0 (.int .i64 b.kind) (.int .i64 b.num) (.slice A3 n c3)).heap.size A3 n c3 b := by
      rw [set3_size]
      exact FrI.moved b hF.out (fun k h1 h2 => set3_other (by rw [HS1.out, ← HG.out] at h1; omega)) (by rw [HS1.out]; omega) (Nat.le_refl _)
    have HEND := Lib.hid hend
    have HEN2 := Lib.hid (below_set3 (HB1.out.trans (hb5.out.mono HB1.out.size)) (g := g + 1 + 1) (by rw [← HG.out]; omega) 0 (.int .i64 b.kind) (.int .i64 b.num) (.slice A3 n c3))
    clear hend hy5
    go_wp2_with fail
    obtain ⟨qa, qb, qc⟩ := set3_steps y0 y1 y2 (.int .i64 b.kind) (.int .i64 b.num) (.slice A3 n c3)
    exact bodyPost_ret (v := .agg #[.int .i64 b.kind, .int .i64 b.num, .slice A3 n c3]) (by simp [results, Tryd.results24, go_sem, qa, qb, qc]) rfl ⟨_, _, _, rfl, HEND, HEN2⟩
  · have hgd : (t.kind == 2) = false ∨ ((t.kind == 2) = true ∧ (t.num == k) = false) := by
      by_cases h2 : t.kind = 2
      · exact .inr ⟨by simpa using h2, by simpa using fun h => hvar ⟨h2, h⟩⟩
      · exact .inl (by simpa using h2)
    have hP := putT_no (b := b) hvar
    have CC := Lib.hid (clone_kids t A m c w w1 h HB1 hm)
    rw [hP]
    clear hvar hP
    rcases hgd with bk | ⟨bk, bn⟩
    all_goals
      go_enter Tryd.func24, Tryd.ntmps24
      go_upto_region 1 with fail
      rw [← HG.out, ← HW1.out]
      go_wp2_with fail
      refine CC.out.mono ?_
      rintro e w2 ⟨A2, c2, rfl, hmc, hc29, hb2, hcl⟩
      have HB2 := Lib.hid hb2
      have HCL := Lib.hid hcl
      have hx2 := (hb2.block g (by rw [HS1.out, ← HG.out]; omega)).trans HX.out
      have y2 : w2.cell? ⟨g, 2, none⟩ = some (.slice A m c) := by rw [cell_of_row _ _ _ _ _ _ hx2]; rfl
      have f2 : w2.frozen? ⟨g, 2, none⟩ = false := by simp [World.frozen?, hx2]
      clear hb2 hcl hx2 x0 x1 x2 v0 v1 v2
      go_upto_region 4 with fail
      have hsz2 : w1.heap.size ≤ w2.heap.size := HB2.out.size
      have hx3 := set_same3 (o := 2) (u := .slice A2 m c2) ((HB2.out.block g (by rw [HS1.out, ← HG.out]; omega)).trans HX.out)
      have hv3 := (set_other3 (w := w2) (g := g) (o := 2) (k := g + 1) (u := .slice A2 m c2) (by omega)).trans ((HB2.out.block (g + 1) (by rw [HS1.out, ← HG.out]; omega)).trans HV.out)
      have hy3 := (set_other3 (w := w2) (g := g) (o := 2) (k := g + 1 + 1) (u := .slice A2 m c2) (by omega)).trans ((HB2.out.block (g + 1 + 1) (by rw [HS1.out, ← HG.out]; omega)).trans HY.out)
      have hb3 := ((HB1.out.trans (HB2.out.mono HB1.out.size)).setCell (p := ⟨g, 2, none⟩) (by rw [HG.out]; exact Nat.le_refl _) (.slice A2 m c2))
      have hs3 : (w2.setCell ⟨g, 2, none⟩ (.slice A2 m c2)).heap.size = w2.heap.size := by simp [World.setCell]
      have ho3 := fun k (hk : k ≠ g) => set_other3 (w := w2) (g := g) (o := 2) (k := k) (u := .slice A2 m c2) hk
      obtain ⟨w3, hw3⟩ : ∃ w3, w3 = w2.setCell ⟨g, 2, none⟩ (.slice A2 m c2) := ⟨_, rfl⟩
      rw [← hw3] at hx3 hv3 hy3 hb3 hs3 ho3 ⊢
      have HX3 := Lib.hid (show w3.heap[g]? = some (.cells #[.int .i64 t.kind, .int .i64 t.num, .slice A2 m c2] 24 (0, 0)) from hx3)
      have HV3 := Lib.hid hv3
      have HY3 := Lib.hid hy3
      have HB3 := Lib.hid hb3
      have HS3 := Lib.hid hs3
      have HO3 := Lib.hid ho3
      clear y2
      have y2 : w3.cell? ⟨g, 2, none⟩ = some (.slice A2 m c2) := by rw [cell_of_row _ _ _ _ _ _ HX3.out]; rfl
      clear hx3 hv3 hy3 hb3 hs3 ho3 hw3 f2
      by_cases h0 : m = 0
      · subst h0
        have x0 : w3.cell? ⟨g, 0, none⟩ = some (.int .i64 t.kind) := by rw [cell_of_row _ _ _ _ _ _ HX3.out]; rfl
        have x1 : w3.cell? ⟨g, 1, none⟩ = some (.int .i64 t.num) := by rw [cell_of_row _ _ _ _ _ _ HX3.out]; rfl
        have z0 : w3.cell? ⟨g + 1 + 1, 0, none⟩ = some (.int .i64 0) := by rw [cell_of_row _ _ _ _ _ _ HY3.out]; rfl
        have z1 : w3.cell? ⟨g + 1 + 1, 1, none⟩ = some (.int .i64 0) := by rw [cell_of_row _ _ _ _ _ _ HY3.out]; rfl
        have z2 : w3.cell? ⟨g + 1 + 1, 2, none⟩ = some (.slice none 0 0) := by rw [cell_of_row _ _ _ _ _ _ HY3.out]; rfl
        have f0 : w3.frozen? ⟨g + 1 + 1, 0, none⟩ = false := by simp [World.frozen?, HY3.out]
        have f1 : w3.frozen? ⟨g + 1 + 1, 1, none⟩ = false := by simp [World.frozen?, HY3.out]
        have f2 : w3.frozen? ⟨g + 1 + 1, 2, none⟩ = false := by simp [World.frozen?, HY3.out]
        have hend : FrI (set3 w3 (g + 1 + 1) 0 (.int .i64 t.kind) (.int .i64 t.num) (.slice A2 0 c2)) w.heap.size (set3 w3 (g + 1 + 1) 0 (.int .i64 t.kind) (.int .i64 t.num) (.slice A2 0 c2)).heap.size A2 0 c2 (.mk t.kind t.num (putL k b t.kids)) := FrI.mk_ ⟨i1, i2, (putL_len k b t.kids).trans hl, hmc, hc29, by rw [set3_size]; exact HB3.out.size, .inl rfl⟩
        have HEND := Lib.hid hend
        have HEN2 := Lib.hid (below_set3 HB3.out (g := g + 1 + 1) (by rw [← HG.out]; omega) 0 (.int .i64 t.kind) (.int .i64 t.num) (.slice A2 0 c2))
        clear hend hl HCL hsz2
        go_wp2_with fail
        go_loopw [27] (fun v27 wr => v27 = .int .i64 0 ∧ Hid (wr = w3)) (fun v27 _ => 0)
        case atStart => exact ⟨rfl, Lib.hid rfl⟩
        case round =>
          obtain ⟨rfl, hw⟩ := hrel
          have hw2 := hw.out
          subst hw2
          go_wp2_with fail
          obtain ⟨qa, qb, qc⟩ := set3_steps z0 z1 z2 (.int .i64 t.kind) (.int .i64 t.num) (.slice A2 0 c2)
          exact bodyPost_ret (v := .agg #[.int .i64 t.kind, .int .i64 t.num, .slice A2 0 c2]) (by simp [results, Tryd.results24, go_sem, qa, qb, qc]) rfl ⟨_, _, _, rfl, HEND, HEN2⟩
      · obtain ⟨g2, cur, rfl, hg2, hh2, hcs, hkc⟩ := HCL.out.resolve_left h0
        have hinv : CpInv w w3 g2 m 0 t.kids [] := ⟨HB3.out, ⟨cur, (HO3.out g2 (by rw [HG.out]; have := HS1.out; omega)).trans hh2, hcs⟩, by
          rw [KidsI]
          have := (Array.getElem?_eq_some_iff.1 hh2).1
          rw [HS3.out]; omega, fun i _ hi => by
          obtain ⟨A', m', c', hK, hT⟩ := hkc i hi
          exact ⟨A', m', c', hK.same (fun k _ => by simp only [World.cell?, HO3.out g2 (by rw [HG.out]; have := HS1.out; omega)]), hT⟩⟩
        have HINV := Lib.hid hinv
        have HG2 := Lib.hid (show g + 3 ≤ g2 by rw [HG.out]; have := HS1.out; omega)
        clear hinv hh2 hcs hkc hg2 HCL hsz2
        go_wp2_with fail
        go_loopw [27] (fun v27 wr => ∃ (j : Nat), j ≤ m ∧ v27 = .int .i64 (j : Int) ∧ Hid (CpInv w wr g2 m j t.kids ((putL k b t.kids).take j)) ∧ Hid (wr.heap[g]? = some (.cells #[.int .i64 t.kind, .int .i64 t.num, .slice (some ⟨g2, 0, none⟩) m c2] 24 (0, 0))) ∧ Hid (wr.heap[g + 1]? = some (.cells #[.int .i64 b.kind, .int .i64 b.num, .slice B n d] 24 (0, 0))) ∧ Hid (wr.heap[g + 1 + 1]? = some (.cells #[.int .i64 0, .int .i64 0, .slice none 0 0] 24 (0, 0)))) (fun v27 _ => m - (intOf v27).toNat)
        case atStart => exact ⟨0, by omega, rfl, HINV, HX3, HV3, HY3⟩
        case round =>
          obtain ⟨j, hj, rfl, hI, hX, hV, hY⟩ := hrel
          by_cases hlt : j < m
          · obtain ⟨A', m', c', hK, hT⟩ := hI.out.rest j (Nat.le_refl _) hlt
            have hkd := Tr.kid_lt (t := t) (j := j) (by omega)
            have hsk := size_kid (t := t) (j := j) (by omega)
            have hpg := putL_get k b t.kids j (by omega)
            have hpl := putL_len k b t.kids
            obtain ⟨q, hq⟩ : ∃ q, q = t.kids.getD j default := ⟨_, rfl⟩
            rw [← hq] at hK hT hkd hsk hpg
            obtain ⟨cur, hblk, hcs⟩ := hI.out.blk
            have c0 := hK.c0
            have c1 := hK.c1
            have c2' := hK.c2
            have ha := (Below.refl wr.heap.size wr).alloc (Nat.le_refl _) (.cells #[.int .i64 q.kind, .int .i64 q.num, .slice A' m' c'] 24)
            have e0 := cell_new wr #[.int .i64 q.kind, .int .i64 q.num, .slice A' m' c'] 24 0 _ rfl
            have e1 := cell_new wr #[.int .i64 q.kind, .int .i64 q.num, .slice A' m' c'] 24 1 _ rfl
            have e2 := cell_new wr #[.int .i64 q.kind, .int .i64 q.num, .slice A' m' c'] 24 2 _ rfl
            have z2 : (wr.alloc (.cells #[.int .i64 q.kind, .int .i64 q.num, .slice A' m' c'] 24)).cell? ⟨g, 2, none⟩ = some (.slice (some ⟨g2, 0, none⟩) m c2) := cell_kept ha (by rw [cell_of_row _ _ _ _ _ _ hX.out]; rfl)
            have s0 : (wr.alloc (.cells #[.int .i64 q.kind, .int .i64 q.num, .slice A' m' c'] 24)).cell? ⟨g + 1, 0, none⟩ = some (.int .i64 b.kind) := cell_kept ha (by rw [cell_of_row _ _ _ _ _ _ hV.out]; rfl)
            have s1 : (wr.alloc (.cells #[.int .i64 q.kind, .int .i64 q.num, .slice A' m' c'] 24)).cell? ⟨g + 1, 1, none⟩ = some (.int .i64 b.num) := cell_kept ha (by rw [cell_of_row _ _ _ _ _ _ hV.out]; rfl)
            have s2 : (wr.alloc (.cells #[.int .i64 q.kind, .int .i64 q.num, .slice A' m' c'] 24)).cell? ⟨g + 1, 2, none⟩ = some (.slice B n d) := cell_kept ha (by rw [cell_of_row _ _ _ _ _ _ hV.out]; rfl)
            have hblk2 := (ha.block g2 (Array.getElem?_eq_some_iff.1 hblk).1).trans hblk
            obtain ⟨wa, hwa⟩ : ∃ wa, wa = wr.alloc (.cells #[.int .i64 q.kind, .int .i64 q.num, .slice A' m' c'] 24) := ⟨_, rfl⟩
            obtain ⟨ga, hga⟩ : ∃ ga, ga = wr.heap.size := ⟨_, rfl⟩
            have HWA := Lib.hid hwa
            have HGA := Lib.hid hga
            rw [← hwa] at ha e0 e1 e2 z2 s0 s1 s2 hblk2
            rw [← hga] at e0 e1 e2
            have HA := Lib.hid ha
            have CQ := Lib.hid (fun W h1 h2 => IH.out q (by omega) A' m' c' B n d W h1 h2 (by omega))
            have HTQ := Lib.hid (fun W (hb : Below wa.heap.size wa W) => hT.kept (hI.out.hb.trans ((ha.trans (hb.mono ha.size)).mono hI.out.hb.size)))
            have HTBQ := Lib.hid (fun W (hb' : Below wa.heap.size wa W) => hb.out.kept (hI.out.hb.trans ((ha.trans (hb'.mono ha.size)).mono hI.out.hb.size)))
            have HBK := Lib.hid hblk2
            have hlt2 : (j : Int) < (m : Int) := by omega
            have hj0 : (0 : Int) ≤ (j : Int) := by omega
            obtain ⟨u, hu⟩ : ∃ u, u = putT k b q := ⟨_, rfl⟩
            rw [← hu] at hpg CQ
            have hqt : (putL k b t.kids).take (j + 1) = (putL k b t.kids).take j ++ [u] := by rw [take_snocT (by omega), hpg]
            have HQT := Lib.hid hqt
            have hld : ((putL k b t.kids).take j).length = j := List.length_take_of_le (by omega)
            have HLD := Lib.hid hld
            have hd9 : Below wa.heap.size wa wa.drew := below_drewN' (Below.refl _ _) 1
            have BD := Lib.hid hd9
            have NG : g ≠ g2 := by have := HG2.out; omega
            have NG1 : g + 1 ≠ g2 := by have := HG2.out; omega
            have NG2 : g + 1 + 1 ≠ g2 := by have := HG2.out; omega
            have NGA : ga ≠ g2 := by have := (Array.getElem?_eq_some_iff.1 hblk).1; omega
            have HC := Lib.hid (show ∀ W, Below wa.heap.size wa W → W.cell? ⟨g, 2, none⟩ = some (.slice (some ⟨g2, 0, none⟩) m c2) ∧ W.cell? ⟨ga, 0, none⟩ = some (.int .i64 q.kind) ∧ W.cell? ⟨ga, 1, none⟩ = some (.int .i64 q.num) ∧ W.cell? ⟨ga, 2, none⟩ = some (.slice A' m' c') ∧ W.cell? ⟨g + 1, 0, none⟩ = some (.int .i64 b.kind) ∧ W.cell? ⟨g + 1, 1, none⟩ = some (.int .i64 b.num) ∧ W.cell? ⟨g + 1, 2, none⟩ = some (.slice B n d) from fun W h => ⟨cell_kept h z2, cell_kept h e0, cell_kept h e1, cell_kept h e2, cell_kept h s0, cell_kept h s1, cell_kept h s2⟩)
            clear hqt hld hK hT hq hblk hblk2 hwa hga ha hkd hsk hd9 hpg hpl hu
            go_upto_region 7 with fail
            rw [← HGA.out, ← HWA.out]
            go_region_held3 (fun W => W.cell? ⟨g, 2, none⟩ = some (.slice (some ⟨g2, 0, none⟩) m c2) ∧ W.cell? ⟨ga, 0, none⟩ = some (.int .i64 q.kind) ∧ W.cell? ⟨ga, 1, none⟩ = some (.int .i64 q.num) ∧ W.cell? ⟨ga, 2, none⟩ = some (.slice A' m' c') ∧ W.cell? ⟨g + 1, 0, none⟩ = some (.int .i64 b.kind) ∧ W.cell? ⟨g + 1, 1, none⟩ = some (.int .i64 b.num) ∧ W.cell? ⟨g + 1, 2, none⟩ = some (.slice B n d))
              (first | exact HCS.out _ _ _ | exact HC.out _ BD1.out | exact HC.out _ BD.out)
              (first
                | (go_at_call 24; refine (CQ.out _ (HTQ.out _ BD.out) (HTBQ.out _ BD.out)).mono ?_; rintro e w5 ⟨A3, m3, c3, rfl, hF, hb5⟩; have BD1 := Lib.hid (below_then BD.out hb5.out); have hbk5 := (BD1.out.block g2 (Array.getElem?_eq_some_iff.1 HBK.out).1).trans HBK.out; have k0 := cell_kept (below_then HA.out BD1.out) c0; have k1 := cell_kept (below_then HA.out BD1.out) c1; have k2 := cell_kept (below_then HA.out BD1.out) c2'; have f0 : w5.frozen? ⟨g2, j * 3, none⟩ = false := by simp [World.frozen?, hbk5]
                   have f1 : w5.frozen? ⟨g2, j * 3 + 1, none⟩ = false := by simp [World.frozen?, hbk5]
                   have f2 : w5.frozen? ⟨g2, j * 3 + 2, none⟩ = false := by simp [World.frozen?, hbk5]
                   have HBK5 := Lib.hid hbk5
                   have HCS := Lib.hid (show ∀ u0 u1 u2, _ from fun u0 u1 u2 => And.intro ((set3_cell_other (w := w5) (g := g2) (o := j * 3) (b := g) (i := 2) (u0 := u0) (u1 := u1) (u2 := u2) NG).trans (HC.out _ BD1.out).1) (And.intro ((set3_cell_other (w := w5) (g := g2) (o := j * 3) (b := ga) (i := 0) (u0 := u0) (u1 := u1) (u2 := u2) NGA).trans (HC.out _ BD1.out).2.1) (And.intro ((set3_cell_other (w := w5) (g := g2) (o := j * 3) (b := ga) (i := 1) (u0 := u0) (u1 := u1) (u2 := u2) NGA).trans (HC.out _ BD1.out).2.2.1) (And.intro ((set3_cell_other (w := w5) (g := g2) (o := j * 3) (b := ga) (i := 2) (u0 := u0) (u1 := u1) (u2 := u2) NGA).trans (HC.out _ BD1.out).2.2.2.1) (And.intro ((set3_cell_other (w := w5) (g := g2) (o := j * 3) (b := g + 1) (i := 0) (u0 := u0) (u1 := u1) (u2 := u2) NG1).trans (HC.out _ BD1.out).2.2.2.2.1) (And.intro ((set3_cell_other (w := w5) (g := g2) (o := j * 3) (b := g + 1) (i := 1) (u0 := u0) (u1 := u1) (u2 := u2) NG1).trans (HC.out _ BD1.out).2.2.2.2.2.1) (((set3_cell_other (w := w5) (g := g2) (o := j * 3) (b := g + 1) (i := 2) (u0 := u0) (u1 := u1) (u2 := u2) NG1).trans (HC.out _ BD1.out).2.2.2.2.2.2))))))))
                   clear hbk5))
            all_goals
              have hb6 := below_then HA.out BD1.out
              have HS := Lib.hid (hI.out.step (mid := wr.heap.size) hlt HLD.out (by have := HG2.out; rw [← HG.out]; omega) hb6 (Nat.le_refl _) (hF.out.wide (by have := (below_then HA.out BD.out).size; exact this) (Nat.le_refl _)))
              rw [← HQT.out] at HS
              have HX6 := Lib.hid ((set3_other (w := w5) (g := g2) (o := j * 3) (u0 := .int .i64 u.kind) (u1 := .int .i64 u.num) (u2 := .slice A3 m3 c3) NG).trans ((hb6.block g (Array.getElem?_eq_some_iff.1 hX.out).1).trans hX.out))
              have HV6 := Lib.hid ((set3_other (w := w5) (g := g2) (o := j * 3) (u0 := .int .i64 u.kind) (u1 := .int .i64 u.num) (u2 := .slice A3 m3 c3) NG1).trans ((hb6.block (g + 1) (Array.getElem?_eq_some_iff.1 hV.out).1).trans hV.out))
              have HY6 := Lib.hid ((set3_other (w := w5) (g := g2) (o := j * 3) (u0 := .int .i64 u.kind) (u1 := .int .i64 u.num) (u2 := .slice A3 m3 c3) NG2).trans ((hb6.block (g + 1 + 1) (Array.getElem?_eq_some_iff.1 hY.out).1).trans hY.out))
              unfold set3 at HS HX6 HV6 HY6
              clear hb6
              go_wp2_with fail
              go_roundw
              case rel => exact ⟨j + 1, by omega, by go_num, HS, HX6, HV6, HY6⟩
              case measure => simp [intOf]; omega
          · have hjm : j = m := by omega
            subst hjm
            have hpl := putL_len k b t.kids
            have e1 : (putL k b t.kids).take j = putL k b t.kids := List.take_of_length_le (by omega)
            have hI2 := hI.out
            rw [e1] at hI2
            have hend := copy_end (t := .mk t.kind t.num (putL k b t.kids)) hI2 (show (putL k b t.kids).length = j by omega) i1 i2 hmc hc29 (g := g + 1 + 1) (by rw [← HG.out]; omega) (by have := HG2.out; omega) (by have := HG2.out; rw [← HG.out]; omega)
            have HEND := Lib.hid hend
            have x0 : wr.cell? ⟨g, 0, none⟩ = some (.int .i64 t.kind) := by rw [cell_of_row _ _ _ _ _ _ hX.out]; rfl
            have x1 : wr.cell? ⟨g, 1, none⟩ = some (.int .i64 t.num) := by rw [cell_of_row _ _ _ _ _ _ hX.out]; rfl
            have x2 : wr.cell? ⟨g, 2, none⟩ = some (.slice (some ⟨g2, 0, none⟩) j c2) := by rw [cell_of_row _ _ _ _ _ _ hX.out]; rfl
            have y0 : wr.cell? ⟨g + 1 + 1, 0, none⟩ = some (.int .i64 0) := by rw [cell_of_row _ _ _ _ _ _ hY.out]; rfl
            have y1 : wr.cell? ⟨g + 1 + 1, 1, none⟩ = some (.int .i64 0) := by rw [cell_of_row _ _ _ _ _ _ hY.out]; rfl
            clear y2
            have y2 : wr.cell? ⟨g + 1 + 1, 2, none⟩ = some (.slice none 0 0) := by rw [cell_of_row _ _ _ _ _ _ hY.out]; rfl
            have f0 : wr.frozen? ⟨g + 1 + 1, 0, none⟩ = false := by simp [World.frozen?, hY.out]
            have f1 : wr.frozen? ⟨g + 1 + 1, 1, none⟩ = false := by simp [World.frozen?, hY.out]
            have f2 : wr.frozen? ⟨g + 1 + 1, 2, none⟩ = false := by simp [World.frozen?, hY.out]
            clear e1 hI2 hend hpl
            go_wp2_with fail
            obtain ⟨qa, qb, qc⟩ := set3_steps y0 y1 y2 (.int .i64 t.kind) (.int .i64 t.num) (.slice (some ⟨g2, 0, none⟩) j c2)
            exact bodyPost_ret (v := .agg #[.int .i64 t.kind, .int .i64 t.num, .slice (some ⟨g2, 0, none⟩) j c2]) (by simp [results, Tryd.results24, go_sem, qa, qb, qc]) rfl ⟨_, _, _, rfl, Lib.hid HEND.out.1, Lib.hid HEND.out.2⟩
theorem ex_Put (k : Int) (b : Tr) (hbs : sizeT b ≤ 1000000) : ∀ N, PutAt k b N
  | 0 => fun t hN _ _ _ _ _ _ _ _ _ _ => by have := t.sz_pos; omega
  | N + 1 => ex_Put_step k b hbs N (Lib.hid (ex_Put k b hbs N))
end Go.Proofs.YtmfdiclbenmfbaaDoor
