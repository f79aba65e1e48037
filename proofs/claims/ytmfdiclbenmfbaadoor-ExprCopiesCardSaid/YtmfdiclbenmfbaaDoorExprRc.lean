/- The document's Put: the walk. -/
import Derived.Test.YtmfdiclbenmfbaaDoorExprRb
namespace Go.Proofs.YtmfdiclbenmfbaaDoor
open Go.RowKit
theorem alr (w : World) (o : Obj) : Below w.heap.size w (w.alloc o) := (Below.refl _ w).alloc (Nat.le_refl _) o
theorem frozen_row {w : World} {g t o : Nat} {cs : Array Value} (h : w.heap[g]? = some (.cells cs t (0, 0))) : w.frozen? ⟨g, o, none⟩ = false := by simp [World.frozen?, h]
/-- What the document's Put tells. -/
def PoP (B0 : Nat) (t : Tr) (w : World) (e : Ending) (w' : World) : Prop :=
  ∃ A2 m2 c2, e = .returned (.agg #[.int .i64 t.kind, .int .i64 t.num, .slice A2 m2 c2]) ∧ Hid (TrOut (fun k => k < B0 ∨ w.heap.size ≤ k) w' A2 m2 c2 t) ∧ Hid (Below w.heap.size w w')
def RPutAt (k : Int) (b : Tr) (B0 : Nat) (N : Nat) : Prop := ∀ (t : Tr), t.sz ≤ N → ∀ (A : Option Addr) (m c : Nat) (B : Option Addr) (n d : Nat) (w : World), Hid (TrAt w A m c t) → Hid (TrOut (fun k => k < B0) w B n d b) → B0 ≤ w.heap.size → sizeT t ≤ 1000000 → Calls Tryd.prog 28 #[t.val A m c, .int .i64 k, b.val B n d] w (PoP B0 (putT k b t) w)
theorem TrOut.kept {B0 : Nat} {w w2 : World} {A : Option Addr} {m c : Nat} {t : Tr} (h : TrOut (fun k => k < B0) w A m c t) (hb : Below w.heap.size w w2) : TrOut (fun k => k < B0) w2 A m c t :=
  h.to (fun k _ hk => hb.block k hk) hb.size (fun _ _ h => h)
set_option maxRecDepth 100000 in
set_option maxHeartbeats 8000000 in
theorem r_Put_step (k : Int) (b : Tr) (B0 : Nat) (N : Nat) (IH : Hid (RPutAt k b B0 N)) : RPutAt k b B0 (N + 1) := by
  intro t hN A m c B n d w h hb hB0 hsz
  obtain ⟨hl, hc, hc9⟩ := h.out.len
  obtain ⟨hl2, hd, hd9⟩ := hb.out.at_.len
  obtain ⟨i1, i2⟩ := h.out.nums
  have hm := kidsLen hl hsz
  have hz1 : (w.alloc (.cells #[.int .i64 t.kind, .int .i64 t.num, .slice A m c] 24)).heap.size = w.heap.size + 1 := World.size_alloc _ _
  have hz2 : ((w.alloc (.cells #[.int .i64 t.kind, .int .i64 t.num, .slice A m c] 24)).alloc (.cells #[.int .i64 b.kind, .int .i64 b.num, .slice B n d] 24)).heap.size = w.heap.size + 1 + 1 := by rw [World.size_alloc, hz1]
  have hb1 := (Below.refl w.heap.size w).alloc (Nat.le_refl _) (.cells #[.int .i64 t.kind, .int .i64 t.num, .slice A m c] 24)
  have hb2 := hb1.alloc (by rw [hz1]; omega) (.cells #[.int .i64 b.kind, .int .i64 b.num, .slice B n d] 24)
  have hb3 := hb2.alloc (by rw [hz2]; omega) (.cells #[.int .i64 0, .int .i64 0, .slice none 0 0] 24)
  have hx := (heap_alloc_old ((w.alloc (.cells #[.int .i64 t.kind, .int .i64 t.num, .slice A m c] 24)).alloc (.cells #[.int .i64 b.kind, .int .i64 b.num, .slice B n d] 24)) (.cells #[.int .i64 0, .int .i64 0, .slice none 0 0] 24) (r := w.heap.size) (by rw [hz2]; omega)).trans ((heap_alloc_old (w.alloc (.cells #[.int .i64 t.kind, .int .i64 t.num, .slice A m c] 24)) (.cells #[.int .i64 b.kind, .int .i64 b.num, .slice B n d] 24) (r := w.heap.size) (by rw [hz1]; omega)).trans (heap_alloc_new w _))
  have hv := (heap_alloc_old ((w.alloc (.cells #[.int .i64 t.kind, .int .i64 t.num, .slice A m c] 24)).alloc (.cells #[.int .i64 b.kind, .int .i64 b.num, .slice B n d] 24)) (.cells #[.int .i64 0, .int .i64 0, .slice none 0 0] 24) (r := (w.alloc (.cells #[.int .i64 t.kind, .int .i64 t.num, .slice A m c] 24)).heap.size) (by rw [hz2, hz1]; omega)).trans (heap_alloc_new (w.alloc (.cells #[.int .i64 t.kind, .int .i64 t.num, .slice A m c] 24)) _)
  have hy := heap_alloc_new ((w.alloc (.cells #[.int .i64 t.kind, .int .i64 t.num, .slice A m c] 24)).alloc (.cells #[.int .i64 b.kind, .int .i64 b.num, .slice B n d] 24)) (.cells #[.int .i64 0, .int .i64 0, .slice none 0 0] 24)
  rw [hz1] at hv
  rw [hz2] at hy
  obtain ⟨w1, hw1⟩ : ∃ w1, w1 = ((w.alloc (.cells #[.int .i64 t.kind, .int .i64 t.num, .slice A m c] 24)).alloc (.cells #[.int .i64 b.kind, .int .i64 b.num, .slice B n d] 24)).alloc (.cells #[.int .i64 0, .int .i64 0, .slice none 0 0] 24) := ⟨_, rfl⟩
  have hs1 : w1.heap.size = w.heap.size + 3 := by rw [hw1, World.size_alloc, hz2]
  obtain ⟨g, hg⟩ : ∃ g, g = w.heap.size := ⟨_, rfl⟩
  have HW1 := Lib.hid hw1
  have HG := Lib.hid hg
  have HS1 := Lib.hid hs1
  rw [← hw1] at hb3 hx hv hy
  rw [← hg] at hx hv hy
  have HB1 := Lib.hid hb3
  have HX := Lib.hid hx
  have HV := Lib.hid hv
  have HY := Lib.hid hy
  have HTB := Lib.hid (hb.out.kept hb3)
  have x0 : w1.cell? ⟨g, 0, none⟩ = some (.int .i64 t.kind) := by rw [cell_of_row _ _ _ _ _ _ hx]; rfl
  have x1 : w1.cell? ⟨g, 1, none⟩ = some (.int .i64 t.num) := by rw [cell_of_row _ _ _ _ _ _ hx]; rfl
  have x2 : w1.cell? ⟨g, 2, none⟩ = some (.slice A m c) := by rw [cell_of_row _ _ _ _ _ _ hx]; rfl
  clear hz1 hz2 hb1 hb2 hb3 hx hv hy hw1 hs1 hg
  by_cases hvar : t.kind = 2 ∧ t.num = k
  · have bk : (t.kind == 2) = true := by simpa using hvar.1
    have bn : (t.num == k) = true := by simpa using hvar.2
    have hP : putT k b t = b := putT_var hvar
    rw [hP]
    clear hvar hP
    have v0 : w1.cell? ⟨g + 1, 0, none⟩ = some (.int .i64 b.kind) := by rw [cell_of_row _ _ _ _ _ _ HV.out]; rfl
    have v1 : w1.cell? ⟨g + 1, 1, none⟩ = some (.int .i64 b.num) := by rw [cell_of_row _ _ _ _ _ _ HV.out]; rfl
    have v2 : w1.cell? ⟨g + 1, 2, none⟩ = some (.slice B n d) := by rw [cell_of_row _ _ _ _ _ _ HV.out]; rfl
    have y0 : w1.cell? ⟨g + 1 + 1, 0, none⟩ = some (.int .i64 0) := by rw [cell_of_row _ _ _ _ _ _ HY.out]; rfl
    have y1 : w1.cell? ⟨g + 1 + 1, 1, none⟩ = some (.int .i64 0) := by rw [cell_of_row _ _ _ _ _ _ HY.out]; rfl
    have y2 : w1.cell? ⟨g + 1 + 1, 2, none⟩ = some (.slice none 0 0) := by rw [cell_of_row _ _ _ _ _ _ HY.out]; rfl
    have f0 : w1.frozen? ⟨g + 1 + 1, 0, none⟩ = false := by simp [World.frozen?, HY.out]
    have f1 : w1.frozen? ⟨g + 1 + 1, 1, none⟩ = false := by simp [World.frozen?, HY.out]
    have f2 : w1.frozen? ⟨g + 1 + 1, 2, none⟩ = false := by simp [World.frozen?, HY.out]
    have HEND : Hid (TrOut (fun k => k < B0 ∨ w.heap.size ≤ k) (set3 w1 (g + 1 + 1) 0 (.int .i64 b.kind) (.int .i64 b.num) (.slice B n d)) B n d b) :=
      Lib.hid (HTB.out.to (fun k hk _ => set3_other (by have := HG.out; omega)) (by rw [set3_size]; exact Nat.le_refl _) (fun k _ hk => .inl hk))
    have HEN2 := Lib.hid (below_set3 HB1.out (g := g + 1 + 1) (by rw [← HG.out]; omega) 0 (.int .i64 b.kind) (.int .i64 b.num) (.slice B n d))
    go_enter Tryd.func28, Tryd.ntmps28
    go_upto_region 1 with fail
    rw [← HG.out, ← HW1.out]
    go_wp2_with fail
    obtain ⟨qa, qb, qc⟩ := set3_steps y0 y1 y2 (.int .i64 b.kind) (.int .i64 b.num) (.slice B n d)
    exact bodyPost_ret (v := .agg #[.int .i64 b.kind, .int .i64 b.num, .slice B n d]) (by simp [results, Tryd.results28, go_sem, qa, qb, qc]) rfl ⟨_, _, _, rfl, HEND, HEN2⟩
  · have hgd : (t.kind == 2) = false ∨ ((t.kind == 2) = true ∧ (t.num == k) = false) := by
      by_cases h2 : t.kind = 2
      · exact .inr ⟨by simpa using h2, by simpa using fun h => hvar ⟨h2, h⟩⟩
      · exact .inl (by simpa using h2)
    have hP := putT_no (b := b) hvar
    rw [hP]
    clear hvar hP
    obtain ⟨gb, hgb⟩ : ∃ gb, gb = w1.heap.size := ⟨_, rfl⟩
    have HGB := Lib.hid hgb
    have HGB2 := Lib.hid (show gb = g + 3 by rw [hgb, HS1.out, HG.out])
    have hn0 := heap_alloc_new w1 (.cells #[.int .i64 0, .int .i64 0, .slice none 0 0] 24)
    have z0 : (w1.alloc (.cells #[.int .i64 0, .int .i64 0, .slice none 0 0] 24)).cell? ⟨w1.heap.size, 0, none⟩ = some (.int .i64 0) := by rw [cell_of_row _ _ _ _ _ _ hn0]; rfl
    have f0 : (w1.alloc (.cells #[.int .i64 0, .int .i64 0, .slice none 0 0] 24)).frozen? ⟨w1.heap.size, 0, none⟩ = false := frozen_row hn0
    have z1 : (w1.alloc (.cells #[.int .i64 0, .int .i64 0, .slice none 0 0] 24)).cell? ⟨w1.heap.size, 1, none⟩ = some (.int .i64 0) := by rw [cell_of_row _ _ _ _ _ _ hn0]; rfl
    have f1 : (w1.alloc (.cells #[.int .i64 0, .int .i64 0, .slice none 0 0] 24)).frozen? ⟨w1.heap.size, 1, none⟩ = false := frozen_row hn0
    have z2 : (w1.alloc (.cells #[.int .i64 0, .int .i64 0, .slice none 0 0] 24)).cell? ⟨w1.heap.size, 2, none⟩ = some (.slice none 0 0) := by rw [cell_of_row _ _ _ _ _ _ hn0]; rfl
    have f2 : (w1.alloc (.cells #[.int .i64 0, .int .i64 0, .slice none 0 0] 24)).frozen? ⟨w1.heap.size, 2, none⟩ = false := frozen_row hn0
    have hout := heap_alloc_new w1 (.cells #[.int .i64 t.kind, .int .i64 t.num, .slice none 0 0] 24)
    rw [← hgb] at hout
    have ha := alr w1 (.cells #[.int .i64 t.kind, .int .i64 t.num, .slice none 0 0] 24)
    have hb3 := HB1.out.trans (ha.mono (by rw [HS1.out]; omega))
    have hs3 : (w1.alloc (.cells #[.int .i64 t.kind, .int .i64 t.num, .slice none 0 0] 24)).heap.size = gb + 1 := by rw [World.size_alloc, hgb]
    rcases hgd with bk | ⟨bk, bn⟩
    all_goals
      go_enter Tryd.func28, Tryd.ntmps28
      go_upto_region 1 with fail
      rw [← HG.out, ← HW1.out]
      go_upto_region 4 with fail
      rw [← HGB.out]
      obtain ⟨w3, hw3⟩ : ∃ w3, w3 = (w1.alloc (.cells #[.int .i64 t.kind, .int .i64 t.num, .slice none 0 0] 24)) := ⟨_, rfl⟩
      rw [← hw3] at hout ha hb3 hs3 ⊢
      have hoth3 : ∀ k, k < gb → w3.heap[k]? = w1.heap[k]? := fun k hk => ha.block k (by omega)
      have x0' : w3.cell? ⟨g, 0, none⟩ = some (.int .i64 t.kind) := by rw [cell_of_row _ _ _ _ _ _ ((hoth3 g (by have := HGB2.out; omega)).trans HX.out)]; rfl
      have HX3 := Lib.hid ((hoth3 g (by have := HGB2.out; omega)).trans HX.out)
      have HV3 := Lib.hid ((hoth3 (g + 1) (by have := HGB2.out; omega)).trans HV.out)
      have HY3 := Lib.hid ((hoth3 (g + 1 + 1) (by have := HGB2.out; omega)).trans HY.out)
      have HGW := Lib.hid (show w.heap.size ≤ gb by have := HGB2.out; have := HG.out; omega)
      have hgl : gb < w3.heap.size := by omega
      have HINV : Hid (RInv w w3 w3 B0 gb t.kind t.num 0 [] (.slice none 0 0)) := Lib.hid ⟨rfl, World.ownsRow_nil _ _ _ _, hout, hb3, fun _ _ => rfl, fun q hq => by simp at hq⟩
      clear hw3 hout hb3 hs3 hoth3 ha z0 z1 z2 f0 f1 f2 x0 x1 x2 x0' hgb hgl hn0
      go_wp2_with fail
      go_loopw [8] (fun v8 wr => ∃ (j : Nat) (l : List TQ) (V : Value), j ≤ m ∧ v8 = .int .i64 (j : Int) ∧ Hid (RInv w w3 wr B0 gb t.kind t.num j l V) ∧ Hid (l.map (·.t) = (putL k b t.kids).take j)) (fun v8 _ => m - (RowKit.intOf v8).toNat)
      case atStart => exact ⟨0, [], _, by omega, rfl, HINV, Lib.hid rfl⟩
      case round =>
        obtain ⟨j, l, V, hj, rfl, hI, hL⟩ := hrel
        have hX := (hI.out.bx g (by have := HGB2.out; omega)).trans HX3.out
        have hV := (hI.out.bx (g + 1) (by have := HGB2.out; omega)).trans HV3.out
        have hY := (hI.out.bx (g + 1 + 1) (by have := HGB2.out; omega)).trans HY3.out
        have x2 : wr.cell? ⟨g, 2, none⟩ = some (.slice A m c) := by rw [cell_of_row _ _ _ _ _ _ hX]; rfl
        have hgr : gb < wr.heap.size := (Array.getElem?_eq_some_iff.1 hI.out.out).1
        by_cases hlt : j < m
        · obtain ⟨b', off, rfl, A', m', c', hK⟩ := (h.out.kept hI.out.hb).kid hlt
          have hkd := Tr.kid_lt (t := t) (j := j) (by omega)
          have hsk := size_kid (t := t) (j := j) (by omega)
          have hpg := putL_get k b t.kids j (by omega)
          have hpl := putL_len k b t.kids
          obtain ⟨q, hq⟩ : ∃ q, q = t.kids.getD j default := ⟨_, rfl⟩
          rw [← hq] at hK hkd hsk hpg
          have c0 := hK.c0
          have c1 := hK.c1
          have c2 := hK.c2
          have v0 : wr.cell? ⟨g + 1, 0, none⟩ = some (.int .i64 b.kind) := by rw [cell_of_row _ _ _ _ _ _ hV]; rfl
          have v1 : wr.cell? ⟨g + 1, 1, none⟩ = some (.int .i64 b.num) := by rw [cell_of_row _ _ _ _ _ _ hV]; rfl
          have v2 : wr.cell? ⟨g + 1, 2, none⟩ = some (.slice B n d) := by rw [cell_of_row _ _ _ _ _ _ hV]; rfl
          have o2 : wr.cell? ⟨gb, 2, none⟩ = some V := by rw [cell_of_row _ _ _ _ _ _ hI.out.out]; rfl
          have CQ := Lib.hid (fun W h1 h2 h3 => IH.out q (by omega) A' m' c' B n d W h1 h2 h3 (by omega))
          have HTQ := Lib.hid (fun W (hb' : Below wr.heap.size wr W) => Lib.hid (hK.tr.kept hb'))
          have HTBQ := Lib.hid (fun W (hb' : Below wr.heap.size wr W) => Lib.hid ((hb.out.kept hI.out.hb).kept hb'))
          have HBS := Lib.hid (show B0 ≤ wr.heap.size by have := HGW.out; omega)
          obtain ⟨u, hu⟩ : ∃ u, u = putT k b q := ⟨_, rfl⟩
          rw [← hu] at hpg CQ
          have hqt : (putL k b t.kids).take (j + 1) = (putL k b t.kids).take j ++ [u] := by rw [take_snocT (by omega), hpg]
          have HQT := Lib.hid hqt
          have BD : Hid (Below wr.heap.size wr wr.drew) := Lib.hid (below_drewN' (Below.refl _ _) 1)
          have HOW := Lib.hid hI.out.own
          have HGR := Lib.hid hgr
          have HOO := Lib.hid hI.out.out
          have hlt2 : (j : Int) < (m : Int) := by omega
          have hj0 : (0 : Int) ≤ (j : Int) := by omega
          clear hK hkd hsk hpg hpl hq hu hqt hX hV hY
          go_wp2_with fail
          go_region_law (first
            | (refine step_append_sl kids_ty rfl (.tmp 32) (.tmp 41) rfl (gb + 1) rfl (by exact hO5.out.alloc _) rfl (by exact Sl.new _ _ [Value.int .i64 u.kind, .int .i64 u.num, .slice A3 m3 c3] 1 3 rfl (by omega)) (tq_one ⟨u, A3, m3, c3⟩) (by omega) (by omega) (by have := hs5.out; simp; omega) ?_; intro v9 w9 hown9 hg9 hat9; obtain ⟨A4, c4, rfl, _, _⟩ := own_form hown9
               have HST := Lib.hid (hI.out.step (u := u) (A3 := A3) (m3 := m3) (c3 := c3) (by have := HGW.out; omega) HGW.out BD1.out hT5.out hown9 hg9 hat9)
               have ho9 := (hg9.block gb (by have := hs5.out; simp; omega) (fun e => by have := (HOW.out.lt gb e.symm).1; omega)).trans ((Below.heap_alloc _ _ _ (by have := hs5.out; omega)).trans ((BD1.out.block gb HGR.out).trans HOO.out))
               have o9 : w9.cell? ⟨gb, 2, none⟩ = some V := by rw [cell_of_row _ _ _ _ _ _ ho9]; rfl
               have f9 : w9.frozen? ⟨gb, 2, none⟩ = false := by simp [World.frozen?, ho9]
               clear hown9 hg9 hat9 ho9)
            | (go_simp; go_at_call 28; refine (CQ.out _ (HTQ.out _ BD.out) (HTBQ.out _ BD.out) HBS.out).mono ?_; rintro e w5 ⟨A3, m3, c3, rfl, hT5, hb5⟩
               have BD1 := Lib.hid (below_then BD.out hb5.out)
               have hO5 := Lib.hid (own_below HOW.out BD1.out)
               have hs5 := Lib.hid (show gb + 1 ≤ w5.heap.size by have := BD1.out.size; have := HGR.out; omega)
               have o5 := cell_kept BD1.out o2
               have o5a : ∀ o, (w5.alloc o).cell? ⟨gb, 2, none⟩ = some V := fun o => cell_kept (alr w5 o) o5))
          all_goals
            go_wp2_with fail
            go_roundw
            case rel => exact ⟨j + 1, _, _, by omega, by go_num, HST, Lib.hid (by rw [HQT.out, ← hL.out]; simp)⟩
            case measure => simp [RowKit.intOf]; omega
        · have hjm : j = m := by omega
          subst hjm
          have hpl := putL_len k b t.kids
          have e1 : (putL k b t.kids).take j = putL k b t.kids := List.take_of_length_le (by omega)
          have hL2 := hL.out
          rw [e1] at hL2
          obtain ⟨A4, c4, rfl, hT⟩ := put_tree (kd := t.kind) (nm := t.num) (P := fun k => k < B0 ∨ gb ≤ k) hI.out.own hI.out.len (fun q hq => (hI.out.tr q hq).to (fun _ _ _ => rfl) (Nat.le_refl _) (fun k _ hk => by
            rcases hk with hk | ⟨hk, _⟩
            · exact .inl hk
            · exact .inr (by omega))) (fun k hk => .inr (by have := (hI.out.own.lt k hk).1; omega)) i1 i2
          rw [hL2] at hT
          have o0 : wr.cell? ⟨gb, 0, none⟩ = some (.int .i64 t.kind) := by rw [cell_of_row _ _ _ _ _ _ hI.out.out]; rfl
          have o1 : wr.cell? ⟨gb, 1, none⟩ = some (.int .i64 t.num) := by rw [cell_of_row _ _ _ _ _ _ hI.out.out]; rfl
          have o2 : wr.cell? ⟨gb, 2, none⟩ = some (.slice A4 j c4) := by rw [cell_of_row _ _ _ _ _ _ hI.out.out]; rfl
          have y0 : wr.cell? ⟨g + 1 + 1, 0, none⟩ = some (.int .i64 0) := by rw [cell_of_row _ _ _ _ _ _ hY]; rfl
          have y1 : wr.cell? ⟨g + 1 + 1, 1, none⟩ = some (.int .i64 0) := by rw [cell_of_row _ _ _ _ _ _ hY]; rfl
          have y2 : wr.cell? ⟨g + 1 + 1, 2, none⟩ = some (.slice none 0 0) := by rw [cell_of_row _ _ _ _ _ _ hY]; rfl
          have f0 : wr.frozen? ⟨g + 1 + 1, 0, none⟩ = false := by simp [World.frozen?, hY]
          have f1 : wr.frozen? ⟨g + 1 + 1, 1, none⟩ = false := by simp [World.frozen?, hY]
          have f2 : wr.frozen? ⟨g + 1 + 1, 2, none⟩ = false := by simp [World.frozen?, hY]
          have HEN2 := Lib.hid (below_set3 hI.out.hb (g := g + 1 + 1) (by rw [← HG.out]; omega) 0 (.int .i64 t.kind) (.int .i64 t.num) (.slice A4 j c4))
          have HEND : Hid (TrOut (fun k => k < B0 ∨ w.heap.size ≤ k) (set3 wr (g + 1 + 1) 0 (.int .i64 t.kind) (.int .i64 t.num) (.slice A4 j c4)) A4 j c4 (.mk t.kind t.num (putL k b t.kids))) := Lib.hid (hT.to (fun k hk _ => set3_other (by
            have := HG.out
            have := HGB2.out
            rcases hk with hk | hk <;> omega)) (by rw [set3_size]; exact Nat.le_refl _) (fun k _ hk => by
            have := HGW.out
            rcases hk with hk | hk
            · exact .inl hk
            · exact .inr (by omega)))
          clear e1 hL2 hpl hX hV hY hT
          go_wp2_with fail
          obtain ⟨qa, qb, qc⟩ := set3_steps y0 y1 y2 (.int .i64 t.kind) (.int .i64 t.num) (.slice A4 j c4)
          exact bodyPost_ret (v := .agg #[.int .i64 t.kind, .int .i64 t.num, .slice A4 j c4]) (by simp [results, Tryd.results28, go_sem, qa, qb, qc]) rfl ⟨_, _, _, rfl, HEND, HEN2⟩
theorem r_Put (k : Int) (b : Tr) (B0 : Nat) : ∀ N, RPutAt k b B0 N
  | 0 => fun t hN _ _ _ _ _ _ _ _ _ _ _ => by have := t.sz_pos; omega
  | N + 1 => r_Put_step k b B0 N (Lib.hid (r_Put k b B0 N))
end Go.Proofs.YtmfdiclbenmfbaaDoor
