/- Joined: Law 06: plain, clean. Printed by gen_pcB.py. -/
import Derived.Test.YtkpjhjoopdbkaaaGreatDoorG34
import Derived.Test.YtkpjhjoopdbkaaaGreatDoorG28
import Derived.Deep.RegionLaw
namespace Go.Proofs.YtkpjhjoopdbkaaaGreatDoor
open Go.RowKit
theorem plainL_cons (t : Tr) (r : List Tr) : plainL (t :: r) = (plainT t && plainL r) := by rw [plainL]
set_option maxRecDepth 100000 in
set_option maxHeartbeats 2000000 in
theorem law_plain : ∀ (N : Nat) (t : Tr), t.sz ≤ N → ∀ (A : Option Addr) (m c : Nat) (w : World), Hid (TrAt w A m c t) → Calls Tryz.prog 18 #[t.val A m c] w fun e w' => e = .returned (.bool (plainT t)) ∧ Below w.heap.size w w'
  | 0, t, hsz, _, _, _, _, _ => by have := t.sz_pos; omega
  | N + 1, t, hsz, A, m, c, w, h => by
    have IH := Lib.hid (fun t' h' A' m' c' w' H' => law_plain N t' h' A' m' c' w' H')
    obtain ⟨hl, hc, hc9⟩ := h.out.len
    have HB1 := Lib.hid ((Below.refl w.heap.size w).alloc (Nat.le_refl _) (.cells #[.int .i64 t.kind, .int .i64 t.num, .slice A m c] 30))
    have hX0 := Lib.hid (cell_new w #[.int .i64 t.kind, .int .i64 t.num, .slice A m c] 30 0 _ rfl)
    have hX1 := Lib.hid (cell_new w #[.int .i64 t.kind, .int .i64 t.num, .slice A m c] 30 1 _ rfl)
    have hX2 := Lib.hid (cell_new w #[.int .i64 t.kind, .int .i64 t.num, .slice A m c] 30 2 _ rfl)
    have hf := plainT_eq t
    obtain ⟨R, hR⟩ : ∃ R, R = plainT t := ⟨_, rfl⟩
    rw [← hR] at hf ⊢
    obtain ⟨kd, hkd⟩ : ∃ k, k = t.kind := ⟨_, rfl⟩
    obtain ⟨nn, hnn⟩ : ∃ n, n = t.num := ⟨_, rfl⟩
    have hv : t.val A m c = .agg #[.int .i64 kd, .int .i64 nn, .slice A m c] := by rw [hkd, hnn]
    rw [hv]
    rw [← hkd, ← hnn] at hf HB1 hX0 hX1 hX2
    obtain ⟨P, hP⟩ : ∃ P, P = plainL t.kids := ⟨_, rfl⟩
    have HF := Lib.hid (show R = (P && (decide (kd ≠ 1) || decide (0 ≤ nn))) by rw [hP]; exact hf)
    have HPL := Lib.hid hP
    clear hf hR hkd hnn hv hP
    go_enter Tryz.func18, Tryz.ntmps18
    go_wp2
    go_loopw [3] (fun v wr => ∃ (k : Nat), k ≤ m ∧ v = .int .i64 (k : Int) ∧ Hid (plainL (t.kids.drop k) = P) ∧ Hid (Below w.heap.size w wr) ∧ Hid (wr.cell? ⟨w.heap.size, 0, none⟩ = some (.int .i64 kd)) ∧ Hid (wr.cell? ⟨w.heap.size, 1, none⟩ = some (.int .i64 nn)) ∧ Hid (wr.cell? ⟨w.heap.size, 2, none⟩ = some (.slice A m c))) (fun v _ => m - (intOf v).toNat)
    case atStart => exact ⟨0, by omega, rfl, HPL.out.symm, HB1.out, hX0.out, hX1.out, hX2.out⟩
    case round =>
      obtain ⟨k, hk, rfl, hR, hB, hX0, hX1, hX2⟩ := hrel
      have x0 := hX0.out
      have x1 := hX1.out
      have x2 := hX2.out
      by_cases hlt : k < m
      · obtain ⟨b, off, rfl, A', m', c', hK⟩ := (h.out.kept hB.out).kid hlt
        have hst := hR.out
        rw [drop_tr (by omega), plainL_cons] at hst
        have hkd := Tr.kid_lt (t := t) (j := k) (by omega)
        obtain ⟨q, hq⟩ : ∃ q, q = t.kids.getD k default := ⟨_, rfl⟩
        rw [← hq] at hK hst hkd
        have c0 := hK.c0
        have c1 := hK.c1
        have c2 := hK.c2
        have cQ := Lib.hid (IH.out q (by omega) A' m' c' wr (Lib.hid hK.tr))
        obtain ⟨y, hy⟩ : ∃ y, y = plainT q := ⟨_, rfl⟩
        rw [← hy] at hst cQ
        have hlt2 : (k : Int) < (m : Int) := by omega
        have hk0 : (0 : Int) ≤ (k : Int) := by omega
        have HST := Lib.hid hst
        clear hK hq hy hst
        cases y with
        | false =>
          go_wp2_with (go_at_call 18; refine cQ.out.mono ?_; rintro e w5 ⟨rfl, hb5⟩; have HB5 := Lib.hid (hB.out.trans (hb5.mono hB.out.size)); clear hb5)
          go_ret
          refine ⟨ret1b ?_, HB5.out⟩
          have h1 := HST.out
          rw [Bool.false_and] at h1
          rw [HF.out, ← h1]
          rfl
        | true =>
          go_wp2_with (go_at_call 18; refine cQ.out.mono ?_; rintro e w5 ⟨rfl, hb5⟩; have HB5 := Lib.hid (hB.out.trans (hb5.mono hB.out.size)); have X0 := Lib.hid (cell_kept hb5 x0); have X1 := Lib.hid (cell_kept hb5 x1); have X2 := Lib.hid (cell_kept hb5 x2); clear hb5)
          go_roundw
          case rel => exact ⟨k + 1, by omega, by go_num, by have := HST.out; rw [Bool.true_and] at this; exact this, HB5, X0, X1, X2⟩
          case measure => simp [intOf]; omega
      · have e1 : t.kids.drop k = [] := List.drop_eq_nil_of_le (by omega)
        have hst := hR.out
        rw [e1, plainL] at hst
        have HR2 := Lib.hid (show R = (decide (kd ≠ 1) || decide (0 ≤ nn)) by rw [HF.out, ← hst]; rfl)
        clear hst e1
        by_cases k1 : kd = 1
        · have z1 : (kd != 1) = false := by simpa using k1
          have HK := Lib.hid k1
          by_cases n0 : 0 ≤ nn
          · clear k1
            go_wp2
            go_ret
            exact ⟨ret1b (by rw [HR2.out, HK.out]; simpa using n0), hB.out⟩
          · have n1 : nn < 0 := by omega
            have d0 : decide (0 ≤ nn) = false := decide_eq_false n0
            clear k1
            go_wp2
            go_ret
            exact ⟨ret1b (by rw [HR2.out, HK.out]; simpa using n0), hB.out⟩
        · have z1 : (kd != 1) = true := by simpa using k1
          have HK := Lib.hid k1
          clear k1
          go_wp2
          go_ret
          exact ⟨ret1b (by rw [HR2.out, decide_eq_true HK.out]; rfl), hB.out⟩
theorem sizeL_len : ∀ l : List Tr, l.length ≤ sizeL l
  | [] => Nat.zero_le _
  | t :: r => by
    rw [sizeL, List.length_cons]
    have := sizeL_len r
    have h : 1 ≤ sizeT t := by obtain ⟨k, n, q⟩ := t; rw [sizeT]; omega
    omega
theorem sizeL_kid : ∀ {l : List Tr} {j : Nat}, j < l.length → sizeT (l.getD j default) ≤ sizeL l
  | [], _, h => by simp at h
  | t :: r, 0, _ => by rw [sizeL]; exact Nat.le_add_right _ _
  | t :: r, j + 1, h => by
    rw [sizeL]
    exact Nat.le_trans (show sizeT (r.getD j default) ≤ sizeL r from sizeL_kid (by simpa using h)) (Nat.le_add_left _ _)
theorem res_clean {W : World} {b : Nat} {x y : Int} {A : Option Addr} {m c : Nat} {tmps : Array Value} (h : W.heap[b]? = some (.cells #[.int .i64 x, .int .i64 y, .slice A m c] 30 (0, 0))) (ht : tmps[2]? = some (.pointer (some ⟨b, 0, none⟩))) :
    (results Tryz.f20 tmps).run Tryz.prog W = .ok (.agg #[.int .i64 x, .int .i64 y, .slice A m c]) W := by
  have q0 := row_cell h 0 _ rfl
  have q1 := row_cell h 1 _ rfl
  have q2 := row_cell h 2 _ rfl
  simp [results, Tryz.results20, go_sem, q0, q1, q2, ht]
/-- The loop of clean. -/
structure ClI (w : World) (t : Tr) (x0 y0 : Int) (A : Option Addr) (m c : Nat) (g base k : Nat) (l : List KidV) (V : Value) (wr : World) : Prop where
  bs : base ≤ wr.heap.size
  len : l.length = k
  trees : l.map (·.t) = (cleanL t.kids).take k
  own : OwnR 3 KidV.cells KidV.at_ 30 base (fun i => i < base) V l wr
  r0 : wr.heap[g]? = some (.cells #[.int .i64 t.kind, .int .i64 t.num, .slice A m c] 30 (0, 0))
  r1 : wr.heap[g + 1]? = some (.cells #[.int .i64 0, .int .i64 0, .slice none 0 0] 30 (0, 0))
  r2 : wr.heap[g + 2]? = some (.cells #[.int .i64 x0, .int .i64 y0, V] 30 (0, 0))
  bel : Below w.heap.size w wr
theorem ClI.step {w : World} {t : Tr} {x0 y0 : Int} {A : Option Addr} {m c g base k : Nat} {l : List KidV} {V : Value} {wr w4 w6 : World} (hg : w.heap.size ≤ g) (h3 : g + 2 < base) (I : ClI w t x0 y0 A m c g base k l V wr) (hk : k < t.kids.length)
    {A2 : Option Addr} {m2 c2 : Nat} (hb : Below wr.heap.size wr w4) (htr : TrH wr.heap.size w4 A2 m2 c2 (cleanT (t.kids.getD k default))) {V' : Value}
    (hO : w6.ownsRow base 30 3 V' (l.length + 1) (l.flatMap KidV.cells ++ (KidV.mk (cleanT (t.kids.getD k default)) A2 m2 c2).cells)) (hgr : (w4.alloc (.cells #[.int .i64 (cleanT (t.kids.getD k default)).kind, .int .i64 (cleanT (t.kids.getD k default)).num, .slice A2 m2 c2] 30)).grownBy w6 V.ownBlock)
    (hat : V'.ownBlock = V.ownBlock ∨ V'.ownBlock = some (w4.alloc (.cells #[.int .i64 (cleanT (t.kids.getD k default)).kind, .int .i64 (cleanT (t.kids.getD k default)).num, .slice A2 m2 c2] 30)).heap.size) :
    ClI w t x0 y0 A m c g base (k + 1) (l ++ [⟨cleanT (t.kids.getD k default), A2, m2, c2⟩]) V' (w6.setCell ⟨g + 2, 2, none⟩ V') := by
  have hbs := I.bs
  have oV : ∀ i, V.ownBlock = some i → base ≤ i ∧ i < wr.heap.size := fun i e => I.own.own.lt i e
  have a34 : AgH (fun _ => False) wr w4 := AgH.of_below hb
  have hs4 := hb.size
  have o4 := I.own.keep (H' := fun _ => False) a34 fun _ _ e => e.elim
  have o5 := o4.keep (H' := fun _ => False) (AgH.of_below (alrB w4 (.cells #[.int .i64 (cleanT (t.kids.getD k default)).kind, .int .i64 (cleanT (t.kids.getD k default)).num, .slice A2 m2 c2] 30))) fun _ _ e => e.elim
  have hx5 : HeldH (fun i => i < base ∨ V.ownBlock = some i) (w4.alloc (.cells #[.int .i64 (cleanT (t.kids.getD k default)).kind, .int .i64 (cleanT (t.kids.getD k default)).num, .slice A2 m2 c2] 30)) (KidV.at_ ⟨cleanT (t.kids.getD k default), A2, m2, c2⟩) :=
    (HeldH.keep (H' := fun _ => False) htr (AgH.of_below (alrB w4 _)) fun _ _ e => e.elim).mono fun i _ e => by
      show i < wr.heap.size
      rcases e with e | e
      · omega
      · exact (oV i e).2
  have o6 := o5.append hO hgr hat hx5
  have a46 : AgH (fun i => V.ownBlock = some i) w4 w6 := ((AgH.refl _ w4).alloc _).grown hgr fun i e _ => e
  have a67 : AgH (only (g + 2)) w6 (w6.setCell ⟨g + 2, 2, none⟩ V') := (AgH.refl (only (g + 2)) _).setCell (.inl rfl) _
  have kp : ∀ (b : Nat) (o : Obj), b < base → wr.heap[b]? = some o → w6.heap[b]? = some o := fun b o hb2 hr =>
    row_keep' (row_keep' hr a34 fun e => e) a46 fun e => by have := (oV b e).1; omega
  have hs6 := a46.size
  have hs7 := a67.size
  refine ⟨by omega, by rw [List.length_append, I.len]; rfl, ?_, ?_, ?_, ?_, ?_, ?_⟩
  · rw [List.map_append, I.trees, cleanL_map, List.take_succ_eq_append_getElem (by rw [List.length_map]; exact hk)]
    simp [List.getD, hk]
  · refine o6.keep a67 fun i _ e => ?_
    rw [show i = g + 2 from e]
    exact ⟨by show g + 2 < base; exact h3, fun q => by have := (hO.lt _ q).1; omega⟩
  · exact row_keep' (kp g _ (by omega) I.r0) a67 (by show g ≠ g + 2; omega)
  · exact row_keep' (kp (g + 1) _ (by omega) I.r1) a67 (by show g + 1 ≠ g + 2; omega)
  · exact row_set (kp (g + 2) _ h3 I.r2) rfl
  · have b6 : Below w.heap.size w w6 := (below_then I.bel (below_then hb (alrB w4 _))).grown hgr (by have := I.bel.size; have e := World.size_alloc w4 (.cells #[.int .i64 (cleanT (t.kids.getD k default)).kind, .int .i64 (cleanT (t.kids.getD k default)).num, .slice A2 m2 c2] 30); omega) (fun q hq => by have := (oV q hq).1; omega)
    exact b6.setCell (by show w.heap.size ≤ g + 2; omega) _
set_option maxRecDepth 100000 in
set_option maxHeartbeats 8000000 in
theorem law_clean : ∀ (N : Nat) (t : Tr), t.sz ≤ N → ∀ (A : Option Addr) (m c : Nat) (w : World), Hid (TrAt w A m c t) → Hid (sizeT t ≤ 100000) → Calls Tryz.prog 20 #[t.val A m c] w fun e w' => ∃ A2 m2 c2, e = .returned ((cleanT t).val A2 m2 c2) ∧ TrH w.heap.size w' A2 m2 c2 (cleanT t) ∧ Below w.heap.size w w'
  | 0, t, hsz, _, _, _, _, _, _ => by have := t.sz_pos; omega
  | N + 1, t, hsz, A, m, c, w, h, hz => by
    have IH := Lib.hid (fun t' h' A' m' c' w' H' z' => law_clean N t' h' A' m' c' w' H' z')
    obtain ⟨hl, hc, hc9⟩ := h.out.len
    have hi := h.out.nums
    have HZ := Lib.hid (show sizeL t.kids + 1 ≤ 100000 by have e : sizeT t = sizeL t.kids + 1 := by obtain ⟨k, n, q⟩ := t; rw [sizeT]; rfl
                                                          have := hz.out; omega)
    have HZL := Lib.hid (show m ≤ 100000 by have := sizeL_len t.kids; have := HZ.out; omega)
    obtain ⟨w1, hw1⟩ : ∃ y, y = ((w.alloc (.cells #[.int .i64 t.kind, .int .i64 t.num, .slice A m c] 30)).alloc (.cells #[.int .i64 0, .int .i64 0, .slice none 0 0] 30)).alloc (.cells #[.int .i64 t.kind, .int .i64 0, .slice none 0 0] 30) := ⟨_, rfl⟩
    have hz1 : (w.alloc (.cells #[.int .i64 t.kind, .int .i64 t.num, .slice A m c] 30)).heap.size = w.heap.size + 1 := World.size_alloc _ _
    have hz2 : ((w.alloc (.cells #[.int .i64 t.kind, .int .i64 t.num, .slice A m c] 30)).alloc (.cells #[.int .i64 0, .int .i64 0, .slice none 0 0] 30)).heap.size = w.heap.size + 2 := by rw [World.size_alloc, hz1]
    have r0 : w1.heap[w.heap.size]? = some (.cells #[.int .i64 t.kind, .int .i64 t.num, .slice A m c] 30 (0, 0)) := by rw [hw1]; exact row_alloc (row_alloc (heap_alloc_new w _) _) _
    have r1 : w1.heap[w.heap.size + 1]? = some (.cells #[.int .i64 0, .int .i64 0, .slice none 0 0] 30 (0, 0)) := by rw [hw1, ← hz1]; exact row_alloc (heap_alloc_new _ _) _
    have r2 : w1.heap[w.heap.size + 2]? = some (.cells #[.int .i64 t.kind, .int .i64 0, .slice none 0 0] 30 (0, 0)) := by rw [hw1, ← hz2]; exact heap_alloc_new _ _
    have HB1 := Lib.hid (show Below w.heap.size w w1 by rw [hw1]; exact below_then (below_then (alrB w _) (alrB _ _)) (alrB _ _))
    have HS1 := Lib.hid (show w1.heap.size = w.heap.size + 3 by rw [hw1, World.size_alloc, hz2])
    have HW := Lib.hid hw1.symm
    have hcl := cleanT_eq t
    obtain ⟨kd, hkd⟩ : ∃ k, k = t.kind := ⟨_, rfl⟩
    obtain ⟨nn, hnn⟩ : ∃ n, n = t.num := ⟨_, rfl⟩
    have hv : t.val A m c = .agg #[.int .i64 kd, .int .i64 nn, .slice A m c] := by rw [hkd, hnn]
    rw [hv]
    rw [← hkd, ← hnn] at hcl hi
    obtain ⟨g, hg⟩ : ∃ y, y = w.heap.size := ⟨_, rfl⟩
    have HG := Lib.hid (show w.heap.size ≤ g by omega)
    have HGE := Lib.hid hg.symm
    rw [← hg] at r0 r1 r2
    have HR0 := Lib.hid r0
    have HR1 := Lib.hid r1
    have HR2 := Lib.hid (show w1.heap[g + 2]? = some (.cells #[.int .i64 kd, .int .i64 0, .slice none 0 0] 30 (0, 0)) by rw [hkd]; exact r2)
    have HW2 := Lib.hid (show ((w.alloc (.cells #[.int .i64 kd, .int .i64 nn, .slice A m c] 30)).alloc (.cells #[.int .i64 0, .int .i64 0, .slice none 0 0] 30)).alloc (.cells #[.int .i64 kd, .int .i64 0, .slice none 0 0] 30) = w1 by rw [hkd, hnn]; exact HW.out)
    have z0 : w1.cell? ⟨g, 0, none⟩ = some (.int .i64 kd) := by rw [hkd]; exact row_cell r0 0 _ rfl
    have z1 : w1.cell? ⟨g, 1, none⟩ = some (.int .i64 nn) := by rw [hnn]; exact row_cell r0 1 _ rfl
    have x1 : w1.cell? ⟨g + 2, 1, none⟩ = some (.int .i64 0) := row_cell HR2.out 1 _ rfl
    have fx : w1.frozen? ⟨g + 2, 1, none⟩ = false := frozen_row HR2.out
    have HCLT := Lib.hid hcl
    have HI := Lib.hid hi
    have HSB := Lib.hid (show w1.heap.size = g + 3 by rw [HS1.out, hg])
    clear hw1 hz1 hz2 r0 r1 r2 hcl hkd hnn hv hg hi hz
    go_enter Tryz.func20, Tryz.ntmps20
    go_upto_region 2 with fail
    rw [HGE.out, HW2.out]
    go_cut [20] (fun v wx => v = .bool (decide (kd = 1 ∨ kd = 2 ∨ kd = 5)) ∧ wx = w1)
    case first =>
      by_cases q1 : kd = 1
      · have b1 : (kd == 1) = true := by simpa using q1
        have Q := Lib.hid (decide_eq_true (show kd = 1 ∨ kd = 2 ∨ kd = 5 from .inl q1))
        clear q1
        go_wp2
        go_meet
        exact ⟨by rw [Q.out], rfl⟩
      · have b1 : (kd == 1) = false := by simpa using q1
        by_cases q2 : kd = 2
        · have b2 : (kd == 2) = true := by simpa using q2
          have Q := Lib.hid (decide_eq_true (show kd = 1 ∨ kd = 2 ∨ kd = 5 from .inr (.inl q2)))
          clear q1 q2
          go_wp2
          go_meet
          exact ⟨by rw [Q.out], rfl⟩
        · have b2 : (kd == 2) = false := by simpa using q2
          by_cases q5 : kd = 5
          · have b5 : (kd == 5) = true := by simpa using q5
            have Q := Lib.hid (decide_eq_true (show kd = 1 ∨ kd = 2 ∨ kd = 5 from .inr (.inr q5)))
            clear q1 q2 q5
            go_wp2
            go_meet
            exact ⟨by rw [Q.out], rfl⟩
          · have b5 : (kd == 5) = false := by simpa using q5
            have Q := Lib.hid (decide_eq_false (show ¬ (kd = 1 ∨ kd = 2 ∨ kd = 5) by omega))
            clear q1 q2 q5
            go_wp2
            go_meet
            exact ⟨by rw [Q.out], rfl⟩
    case rest =>
      obtain ⟨rfl, rfl⟩ := hcut
      by_cases hq : kd = 1 ∨ kd = 2 ∨ kd = 5
      · have HCL := Lib.hid (show cleanT t = .mk kd nn (cleanL t.kids) by rw [HCLT.out, if_pos hq])
        have HK64 := HI
        rw [decide_eq_true hq]
        clear hq
        go_upto_region 4 with fail
        obtain ⟨w2, hw2⟩ : ∃ y, y = wc.setCell ⟨g + 2, 1, none⟩ (.int .i64 nn) := ⟨_, rfl⟩
        have a2 : AgH (only (g + 2)) wc w2 := by rw [hw2]; exact (AgH.refl (only (g + 2)) _).setCell (.inl rfl) _
        have HST0 := Lib.hid (show ClI w t kd nn A m c g (g + 3) 0 [] (.slice none 0 0) w2 from
          ⟨by have := a2.size; have := HSB.out; omega, rfl, rfl, OwnR.nil, row_keep' HR0.out a2 (by show g ≠ g + 2; omega), row_keep' HR1.out a2 (by show g + 1 ≠ g + 2; omega), by rw [hw2]; exact row_set HR2.out rfl, by rw [hw2]; exact HB1.out.setCell (by show w.heap.size ≤ g + 2; have := HG.out; omega) _⟩)
        rw [← hw2]
        clear hw2 a2 z0 z1 x1 fx
        go_wp2_with fail
        go_loopw [4] (fun v wr => ∃ (k : Nat) (l : List KidV) (A1 : Option Addr) (n1 c1 : Nat), k ≤ m ∧ v = .int .i64 (k : Int) ∧ Hid (ClI w t kd (nn) A m c g (g + 3) k l (.slice A1 n1 c1) wr)) (fun v _ => m - (intOf v).toNat)
        case atStart => exact ⟨0, [], none, 0, 0, by omega, rfl, HST0⟩
        case round =>
          obtain ⟨k, l, A1, n1, c1, hk, rfl, hI⟩ := hrel
          have x2 : wr.cell? ⟨g, 2, none⟩ = some (.slice A m c) := row_cell hI.out.r0 2 _ rfl
          have y2 : wr.cell? ⟨g + 2, 2, none⟩ = some (.slice A1 n1 c1) := row_cell hI.out.r2 2 _ rfl
          by_cases hlt : k < m
          · obtain ⟨b, off, rfl, A', m', c', hK⟩ := (h.out.kept hI.out.bel).kid hlt
            have hkd := Tr.kid_lt (t := t) (j := k) (by omega)
            have hsz1 := sizeL_kid (l := t.kids) (j := k) (by omega)
            have HKL := Lib.hid (show k < t.kids.length by omega)
            obtain ⟨q, hq⟩ : ∃ q, q = t.kids.getD k default := ⟨_, rfl⟩
            rw [← hq] at hK hkd hsz1
            have HQ := Lib.hid hq
            have c0 := hK.c0
            have c1' := hK.c1
            have c2' := hK.c2
            have CQ := Lib.hid (IH.out q (by omega) A' m' c' wr.drew (Lib.hid (hK.tr.kept (below_drewN' (Below.refl _ _) 1))) (Lib.hid (by have := HZ.out; omega)))
            have hlt2 : (k : Int) < (m : Int) := by omega
            have hk0 : (0 : Int) ≤ (k : Int) := by omega
            have HLL := Lib.hid (show l.length ≤ 1000000 by rw [hI.out.len]; have := HZL.out; omega)
            have HGL := Lib.hid (show g + 2 < wr.heap.size by have := hI.out.bs; omega)
            clear hK hq hkd hsz1
            go_wp2_with fail
            go_region_law (first
              | (refine step_append_sl kids_ty rfl (.tmp 32) (.tmp 39) rfl (g + 3) rfl (by exact HO5.out.alloc _) rfl (by exact Sl.new _ _ [.int .i64 (cleanT q).kind, .int .i64 (cleanT q).num, .slice A2 m2 c2] 1 3 rfl (by omega)) (kidv_one ⟨cleanT q, A2, m2, c2⟩) (by have := HLL.out; omega) (by have := HLL.out; omega) (by have := HS5.out; simp; omega) ?_; intro v9 w9 hown9 hg9 hat9; obtain ⟨A4, c4, rfl, _, _⟩ := own_form hown9
                 have HST := Lib.hid (show ClI w t kd (nn) (some ⟨b, off, none⟩) m c g (g + 3) (k + 1) (l ++ [⟨cleanT q, A2, m2, c2⟩]) (.slice A4 (l.length + 1) c4) (w9.setCell ⟨g + 2, 2, none⟩ (.slice A4 (l.length + 1) c4)) by
                   have hq := HQ.out
                   subst hq
                   exact ClI.step (by have := HG.out; omega) (by omega) hI.out HKL.out HBB.out HTQ.out hown9 hg9 hat9)
                 have r9 := row_keep' (row_alloc HR5.out _) ((AgH.refl (fun i => (Value.slice A1 n1 c1).ownBlock = some i) _).grown hg9 fun i e _ => e) (fun e => by have := (HON.out _ e).1; omega)
                 have o9 := row_cell r9 2 _ rfl
                 have f9 := frozen_row (o := 2) r9
                 clear hown9 hg9 hat9 r9)
              | (go_simp; go_at_call 20; refine CQ.out.mono ?_; rintro e w5 ⟨A2, m2, c2, rfl, hT, hb5⟩
                 have HBB := Lib.hid (show Below wr.heap.size wr w5 from below_then (below_drewN' (Below.refl _ _) 1) hb5)
                 have HTQ := Lib.hid (show TrH wr.heap.size w5 A2 m2 c2 (cleanT q) from hT)
                 have HO5 := Lib.hid (own_keep hI.out.own.own (AgH.of_below (H := fun _ => False) HBB.out) fun _ _ e => e)
                 have HON := Lib.hid (fun i (e : (Value.slice A1 n1 c1).ownBlock = some i) => hI.out.own.own.lt i e)
                 have HS5 := Lib.hid (show g + 3 ≤ w5.heap.size by have := HBB.out.size; have := hI.out.bs; omega)
                 have hr5 := row_below hI.out.r2 HBB.out
                 have HR5 := Lib.hid hr5
                 have z2 : w5.cell? ⟨g + 2, 2, none⟩ = some (.slice A1 n1 c1) := row_cell hr5 2 _ rfl
                 have z2a := fun o => cell_kept (alrB w5 o) z2
                 clear hT hb5 hr5))
            all_goals
              go_wp2_with fail
              go_roundw
              case rel => exact ⟨k + 1, _, A4, l.length + 1, c4, by omega, by go_num, HST⟩
              case measure => simp [intOf]; omega
          · obtain rfl : k = m := by omega
            have y0' : wr.cell? ⟨g + 2, 0, none⟩ = some (.int .i64 kd) := row_cell hI.out.r2 0 _ rfl
            have y1' : wr.cell? ⟨g + 2, 1, none⟩ = some (.int .i64 (nn)) := row_cell hI.out.r2 1 _ rfl
            have s0 := row_cell hI.out.r1 0 _ rfl
            have s1 := row_cell hI.out.r1 1 _ rfl
            have s2 := row_cell hI.out.r1 2 _ rfl
            have f0 := frozen_row (o := 0) hI.out.r1
            have f1 := frozen_row (o := 1) hI.out.r1
            have f2 := frozen_row (o := 2) hI.out.r1
            go_wp2
            refine bodyPost_ret (res_clean (row_put3 hI.out.r1 _ _ _) rfl) rfl ?_
            obtain ⟨A9, c9, hv, hT⟩ := kids_tree (B := g + 3) (k := kd) (n := nn) hI.out.own HK64.out.1 HK64.out.2 (Nat.le_refl _) (fun i hi => hi)
            injection hv with hv1 hv2 hv3
            subst hv1
            subst hv3
            have hll := hI.out.len
            have hcl : Tr.mk kd (nn) (l.map (·.t)) = cleanT t := by
              rw [hI.out.trees, HCL.out, List.take_of_length_le (by rw [cleanL_map, List.length_map]; omega)]
            rw [hcl] at hT
            refine ⟨A1, n1, c1, by rw [HCL.out] <;> rfl, ?_, ?_⟩
            · rw [hv2]
              exact (hT.go (ag_put3 (H := only (g + 1)) (AgH.refl _ _) (.inl rfl) _ _ _) (fun i _ e => by rw [show i = g + 1 from e]; omega) (Nat.le_refl _)).mono fun i _ e => by
                show i < g + 3
                have e2 : i < w.heap.size := e
                have := HG.out
                omega
            · have hg2 := HG.out
              exact ((hI.out.bel.setCell (p := ⟨g + 1, 0, none⟩) (by show w.heap.size ≤ g + 1; omega) _).setCell (p := ⟨g + 1, 1, none⟩) (by show w.heap.size ≤ g + 1; omega) _).setCell (p := ⟨g + 1, 2, none⟩) (by show w.heap.size ≤ g + 1; omega) _
      · have HCL := Lib.hid (show cleanT t = .mk kd 0 (cleanL t.kids) by rw [HCLT.out, if_neg hq])
        have HK64 := Lib.hid (show I64 kd ∧ I64 0 from ⟨HI.out.1, by unfold I64; omega⟩)
        rw [decide_eq_false hq]
        clear hq
        have HST0 := Lib.hid (show ClI w t kd 0 A m c g (g + 3) 0 [] (.slice none 0 0) wc from
          ⟨by have := HSB.out; omega, rfl, rfl, OwnR.nil, HR0.out, HR1.out, HR2.out, HB1.out⟩)
        clear z0 z1 x1 fx
        go_wp2_with fail
        go_loopw [4] (fun v wr => ∃ (k : Nat) (l : List KidV) (A1 : Option Addr) (n1 c1 : Nat), k ≤ m ∧ v = .int .i64 (k : Int) ∧ Hid (ClI w t kd (0) A m c g (g + 3) k l (.slice A1 n1 c1) wr)) (fun v _ => m - (intOf v).toNat)
        case atStart => exact ⟨0, [], none, 0, 0, by omega, rfl, HST0⟩
        case round =>
          obtain ⟨k, l, A1, n1, c1, hk, rfl, hI⟩ := hrel
          have x2 : wr.cell? ⟨g, 2, none⟩ = some (.slice A m c) := row_cell hI.out.r0 2 _ rfl
          have y2 : wr.cell? ⟨g + 2, 2, none⟩ = some (.slice A1 n1 c1) := row_cell hI.out.r2 2 _ rfl
          by_cases hlt : k < m
          · obtain ⟨b, off, rfl, A', m', c', hK⟩ := (h.out.kept hI.out.bel).kid hlt
            have hkd := Tr.kid_lt (t := t) (j := k) (by omega)
            have hsz1 := sizeL_kid (l := t.kids) (j := k) (by omega)
            have HKL := Lib.hid (show k < t.kids.length by omega)
            obtain ⟨q, hq⟩ : ∃ q, q = t.kids.getD k default := ⟨_, rfl⟩
            rw [← hq] at hK hkd hsz1
            have HQ := Lib.hid hq
            have c0 := hK.c0
            have c1' := hK.c1
            have c2' := hK.c2
            have CQ := Lib.hid (IH.out q (by omega) A' m' c' wr.drew (Lib.hid (hK.tr.kept (below_drewN' (Below.refl _ _) 1))) (Lib.hid (by have := HZ.out; omega)))
            have hlt2 : (k : Int) < (m : Int) := by omega
            have hk0 : (0 : Int) ≤ (k : Int) := by omega
            have HLL := Lib.hid (show l.length ≤ 1000000 by rw [hI.out.len]; have := HZL.out; omega)
            have HGL := Lib.hid (show g + 2 < wr.heap.size by have := hI.out.bs; omega)
            clear hK hq hkd hsz1
            go_wp2_with fail
            go_region_law (first
              | (refine step_append_sl kids_ty rfl (.tmp 32) (.tmp 39) rfl (g + 3) rfl (by exact HO5.out.alloc _) rfl (by exact Sl.new _ _ [.int .i64 (cleanT q).kind, .int .i64 (cleanT q).num, .slice A2 m2 c2] 1 3 rfl (by omega)) (kidv_one ⟨cleanT q, A2, m2, c2⟩) (by have := HLL.out; omega) (by have := HLL.out; omega) (by have := HS5.out; simp; omega) ?_; intro v9 w9 hown9 hg9 hat9; obtain ⟨A4, c4, rfl, _, _⟩ := own_form hown9
                 have HST := Lib.hid (show ClI w t kd (0) (some ⟨b, off, none⟩) m c g (g + 3) (k + 1) (l ++ [⟨cleanT q, A2, m2, c2⟩]) (.slice A4 (l.length + 1) c4) (w9.setCell ⟨g + 2, 2, none⟩ (.slice A4 (l.length + 1) c4)) by
                   have hq := HQ.out
                   subst hq
                   exact ClI.step (by have := HG.out; omega) (by omega) hI.out HKL.out HBB.out HTQ.out hown9 hg9 hat9)
                 have r9 := row_keep' (row_alloc HR5.out _) ((AgH.refl (fun i => (Value.slice A1 n1 c1).ownBlock = some i) _).grown hg9 fun i e _ => e) (fun e => by have := (HON.out _ e).1; omega)
                 have o9 := row_cell r9 2 _ rfl
                 have f9 := frozen_row (o := 2) r9
                 clear hown9 hg9 hat9 r9)
              | (go_simp; go_at_call 20; refine CQ.out.mono ?_; rintro e w5 ⟨A2, m2, c2, rfl, hT, hb5⟩
                 have HBB := Lib.hid (show Below wr.heap.size wr w5 from below_then (below_drewN' (Below.refl _ _) 1) hb5)
                 have HTQ := Lib.hid (show TrH wr.heap.size w5 A2 m2 c2 (cleanT q) from hT)
                 have HO5 := Lib.hid (own_keep hI.out.own.own (AgH.of_below (H := fun _ => False) HBB.out) fun _ _ e => e)
                 have HON := Lib.hid (fun i (e : (Value.slice A1 n1 c1).ownBlock = some i) => hI.out.own.own.lt i e)
                 have HS5 := Lib.hid (show g + 3 ≤ w5.heap.size by have := HBB.out.size; have := hI.out.bs; omega)
                 have hr5 := row_below hI.out.r2 HBB.out
                 have HR5 := Lib.hid hr5
                 have z2 : w5.cell? ⟨g + 2, 2, none⟩ = some (.slice A1 n1 c1) := row_cell hr5 2 _ rfl
                 have z2a := fun o => cell_kept (alrB w5 o) z2
                 clear hT hb5 hr5))
            all_goals
              go_wp2_with fail
              go_roundw
              case rel => exact ⟨k + 1, _, A4, l.length + 1, c4, by omega, by go_num, HST⟩
              case measure => simp [intOf]; omega
          · obtain rfl : k = m := by omega
            have y0' : wr.cell? ⟨g + 2, 0, none⟩ = some (.int .i64 kd) := row_cell hI.out.r2 0 _ rfl
            have y1' : wr.cell? ⟨g + 2, 1, none⟩ = some (.int .i64 (0)) := row_cell hI.out.r2 1 _ rfl
            have s0 := row_cell hI.out.r1 0 _ rfl
            have s1 := row_cell hI.out.r1 1 _ rfl
            have s2 := row_cell hI.out.r1 2 _ rfl
            have f0 := frozen_row (o := 0) hI.out.r1
            have f1 := frozen_row (o := 1) hI.out.r1
            have f2 := frozen_row (o := 2) hI.out.r1
            go_wp2
            refine bodyPost_ret (res_clean (row_put3 hI.out.r1 _ _ _) rfl) rfl ?_
            obtain ⟨A9, c9, hv, hT⟩ := kids_tree (B := g + 3) (k := kd) (n := 0) hI.out.own HK64.out.1 HK64.out.2 (Nat.le_refl _) (fun i hi => hi)
            injection hv with hv1 hv2 hv3
            subst hv1
            subst hv3
            have hll := hI.out.len
            have hcl : Tr.mk kd (0) (l.map (·.t)) = cleanT t := by
              rw [hI.out.trees, HCL.out, List.take_of_length_le (by rw [cleanL_map, List.length_map]; omega)]
            rw [hcl] at hT
            refine ⟨A1, n1, c1, by rw [HCL.out] <;> rfl, ?_, ?_⟩
            · rw [hv2]
              exact (hT.go (ag_put3 (H := only (g + 1)) (AgH.refl _ _) (.inl rfl) _ _ _) (fun i _ e => by rw [show i = g + 1 from e]; omega) (Nat.le_refl _)).mono fun i _ e => by
                show i < g + 3
                have e2 : i < w.heap.size := e
                have := HG.out
                omega
            · have hg2 := HG.out
              exact ((hI.out.bel.setCell (p := ⟨g + 1, 0, none⟩) (by show w.heap.size ≤ g + 1; omega) _).setCell (p := ⟨g + 1, 1, none⟩) (by show w.heap.size ≤ g + 1; omega) _).setCell (p := ⟨g + 1, 2, none⟩) (by show w.heap.size ≤ g + 1; omega) _
end Go.Proofs.YtkpjhjoopdbkaaaGreatDoor
