/- Joined: The writer's expr of numbers and variables; Text: the program's. Printed by gen_exprN.py. Contracts: Rows, Ints of the document's answer; slices.Equal of rows. -/
import Derived.Test.YtkpjhjoopdbkaaaGreatDoorG26
import Derived.Test.YtkpjhjoopdbkaaaGreatDoorG01
import Derived.Test.YtkpjhjoopdbkaaaGreatDoorG41
import Derived.Test.YtkpjhjoopdbkaaaGreatDoorG16
import Derived.Laws.StructEq
import Derived.ChangeKeysEq
namespace Go.Proofs.YtkpjhjoopdbkaaaGreatDoor
open Go.RowKit
/-- The table of powers of ten. -/
def TabT (W : World) : Prop := Lib.TabIs Tryz.prog W "internal/strconv.uint64pow10" .u64 Lib.pow10Tab
set_option maxRecDepth 100000 in
set_option maxHeartbeats 4000000 in
theorem w_expr_number (names : List ByteArray) (w0 : World) (B b : Nat) (NA : Option Addr) (nn nc : Nat) (N : Nat) (hB0 : w0.heap.size ≤ B) (IH : Hid (WExprAt names w0 B b NA nn nc N)) (t : Tr) (hN : t.sz ≤ N + 1) (A : Option Addr) (m c : Nat) (w : World) (l : List UInt8) (p v : Value)
    (h : Hid (TrAt w0 A m c t)) (hb : Hid (Below w0.heap.size w0 w)) (hW : Hid (WrAt w B b p NA nn nc l v)) (hp : p = .pointer none ∨ p = selfP b) (hlen : l.length + (textT names t).length ≤ 1000000000000) (hk : t.kind = 1) (htab : Hid (∀ W, Below w0.heap.size w0 W → TabT W)) :
    Calls Tryz.prog 38 #[.pointer (some ⟨b, 0, none⟩), t.val A m c] w (WrP B b NA nn nc w (l ++ textT names t)) := by
  have hbw : B ≤ w.heap.size := by have := hW.out.ge; have := hW.out.lt; omega
  obtain ⟨hi1, hi2⟩ := h.out.nums
  have HT := textT_eq names t
  obtain ⟨n, hn⟩ : ∃ n, n = t.num := ⟨_, rfl⟩
  obtain ⟨k, hkk⟩ : ∃ k, k = t.kind := ⟨_, rfl⟩
  have hv : t.val A m c = .agg #[.int .i64 k, .int .i64 n, .slice A m c] := by rw [hn, hkk]
  rw [hv]
  rw [← hn, ← hkk] at HT
  rw [← hkk] at hk
  rw [← hn] at hi2
  have CK := Lib.hid (fun (j : Nat) (s : Int) W l' p' v' (h1 : Hid (Below w0.heap.size w0 W)) (h2 : Hid (WrAt W B b p' NA nn nc l' v')) (hp' : p' = .pointer none ∨ p' = selfP b) (hj : j ≤ 2) (hl' : l'.length + (kidS (textL names t.kids) j s).length ≤ 1000000000000) => w_kid names w0 B b NA nn nc N hB0 IH t hN A m c j s W l' p' v' h h1 h2 hp' hj hl')
  rw [hv] at CK
  have hgb : w.heap.size ≠ b := by have := hW.out.lt; omega
  rw [show textN names k n (textL names t.kids) = decP n by unfold textN; rw [hk]; simp] at HT
  rw [HT] at hlen
  have hdl := dec_len hi2
  have CI := fun W (hT : TabT W) => Tryz.strconv_Itoa n hi2.1 hi2.2 W hT
  obtain ⟨d, hd⟩ : ∃ d : ByteArray, d = ⟨(Lib.itoa n).toArray⟩ := ⟨_, rfl⟩
  have hdt : d.data.toList = Lib.itoa n := by rw [hd]
  have hds : d.size = (Lib.itoa n).length := by rw [hd]; show (Lib.itoa n).toArray.size = _; simp
  rw [← hd] at CI
  have CII := Lib.hid CI
  have HDT := Lib.hid hdt
  have HTT := Lib.hid HT
  clear HT
  have hnn := hi2
  rw [← hds] at hdl
  have HDS := Lib.hid hds
  clear CI hdt hd hds
  clear hv hn hkk
  have HK1 := Lib.hid ((Wk.refl B b w).alloc hbw (.cells #[.int .i64 k, .int .i64 n, .slice A m c] 30))
  have hW1 := Lib.hid (hW.out.alloc (.cells #[.int .i64 k, .int .i64 n, .slice A m c] 30))
  have hx1 := heap_alloc_new w (.cells #[.int .i64 k, .int .i64 n, .slice A m c] 30)
  have x0 := cell_new w #[.int .i64 k, .int .i64 n, .slice A m c] 30 0 _ rfl
  have x1 := cell_new w #[.int .i64 k, .int .i64 n, .slice A m c] 30 1 _ rfl
  have x2 := cell_new w #[.int .i64 k, .int .i64 n, .slice A m c] 30 2 _ rfl
  obtain ⟨w1, hw1⟩ : ∃ w1, w1 = w.alloc (.cells #[.int .i64 k, .int .i64 n, .slice A m c] 30) := ⟨_, rfl⟩
  have hs1 : B ≤ w1.heap.size := by rw [hw1, World.size_alloc]; omega
  obtain ⟨g, hg⟩ : ∃ g, g = w.heap.size := ⟨_, rfl⟩
  have HW1 := Lib.hid hw1
  have HG := Lib.hid hg
  rw [← hw1] at HK1 hW1 hx1 x0 x1 x2
  rw [← hg] at hx1 x0 x1 x2 hgb
  have HX1 := Lib.hid hx1
  have HGB := Lib.hid hgb
  have HB1 := Lib.hid (hb.out.trans (HK1.out.below.mono hB0))
  clear hw1 hg hx1 hgb
  subst hk
  by_cases hneg : n < 0
  · have hlen2 : l.length + (⟨#[40]⟩ ++ d ++ ⟨#[41]⟩ : ByteArray).size ≤ 140737488355328 := by
      have e : (⟨#[40]⟩ ++ d ++ ⟨#[41]⟩ : ByteArray).size = 1 + d.size + 1 := by simp [ByteArray.size_append]; rfl
      have e2 : (decP n).length = d.size + 2 := by unfold decP; rw [if_pos hneg, HDS.out]; simp
      rw [e]; omega
    obtain ⟨ss, hss⟩ : ∃ ss, ss = (⟨#[40]⟩ ++ d ++ ⟨#[41]⟩ : ByteArray) := ⟨_, rfl⟩
    rw [← hss] at hlen2
    have hst : ss.data.toList = [40] ++ d.data.toList ++ [41] := by rw [hss]; simp
    have HL2 := Lib.hid hlen2
    have HSS := Lib.hid hss
    have HST := Lib.hid hst
    clear hss hst
    have q1 : (9223372036854775807 < 1 + d.size) = False := eq_false (by omega)
    have q2 : (9223372036854775807 < 1 + d.size + 1) = False := eq_false (by omega)
    clear hlen hlen2
    go_enter Tryz.func38, Tryz.ntmps38
    go_upto_region 1 with fail
    rw [← HG.out, ← HW1.out]
    go_wp2_with fail
    refine (CII.out w1 (htab.out w1 HB1.out)).mono ?_
    rintro e w2 ⟨rfl, q, os, hgr⟩
    have hbS : Below w1.heap.size w1 w2 := by rw [hgr]; exact Lib.below_grow _ _ (Nat.le_refl _) q os
    clear hgr
    have HBS := Lib.hid hbS
    clear hbS
    have hW2 := Lib.hid (hW1.out.ext HBS.out)
    have HK2 := Lib.hid (HK1.out.ext HBS.out hs1)
    have HB2 := Lib.hid (hb.out.trans (HK2.out.below.mono hB0))
    have HX2 := Lib.hid ((HBS.out.block g (Array.getElem?_eq_some_iff.1 HX1.out).1).trans HX1.out)
    have hs2 := Nat.le_trans hs1 HBS.out.size
    clear x0 x1 x2
    have x0 : w2.cell? ⟨g, 0, none⟩ = some (.int .i64 1) := by rw [cell_of_row _ _ _ _ _ _ HX2.out]; rfl
    have x1 : w2.cell? ⟨g, 1, none⟩ = some (.int .i64 n) := by rw [cell_of_row _ _ _ _ _ _ HX2.out]; rfl
    have x2 : w2.cell? ⟨g, 2, none⟩ = some (.slice A m c) := by rw [cell_of_row _ _ _ _ _ _ HX2.out]; rfl
    go_wp2_with fail
    rw [← HSS.out]
    refine (wr_WriteString B b nn nc p v NA l ss w2 hW2 hp hs2 HL2.out).mono ?_
    rintro e w3 ⟨⟨r3, rfl⟩, ⟨v3, hW3⟩, hK3⟩
    have HK3 := Lib.hid (HK2.out.trans hK3.out)
    have HB3 := Lib.hid (hb.out.trans (HK3.out.below.mono hB0))
    have HX3 := Lib.hid (hK3.out.box HX2.out HGB.out (by decide))
    have hs3 : B ≤ w3.heap.size := by have := hK3.out.below.size; omega
    clear x0 x1 x2
    have x0 : w3.cell? ⟨g, 0, none⟩ = some (.int .i64 1) := by rw [cell_of_row _ _ _ _ _ _ HX3.out]; rfl
    have x1 : w3.cell? ⟨g, 1, none⟩ = some (.int .i64 n) := by rw [cell_of_row _ _ _ _ _ _ HX3.out]; rfl
    have x2 : w3.cell? ⟨g, 2, none⟩ = some (.slice A m c) := by rw [cell_of_row _ _ _ _ _ _ HX3.out]; rfl
    go_wp2_with fail
    exact ⟨rfl, _, results_none rfl _ _ _, WrP.mk hW3 (by rw [HTT.out, HST.out]; unfold decP; rw [if_pos hneg, ← HDT.out]) HK3⟩
  · have hlen2 : l.length + d.size ≤ 140737488355328 := by
      have e2 : (decP n).length = d.size := by unfold decP; rw [if_neg hneg, HDS.out]
      omega
    have HL2 := Lib.hid hlen2
    clear hlen hlen2
    go_enter Tryz.func38, Tryz.ntmps38
    go_upto_region 1 with fail
    rw [← HG.out, ← HW1.out]
    go_wp2_with fail
    refine (CII.out w1 (htab.out w1 HB1.out)).mono ?_
    rintro e w2 ⟨rfl, q, os, hgr⟩
    have hbS : Below w1.heap.size w1 w2 := by rw [hgr]; exact Lib.below_grow _ _ (Nat.le_refl _) q os
    clear hgr
    have HBS := Lib.hid hbS
    clear hbS
    have hW2 := Lib.hid (hW1.out.ext HBS.out)
    have HK2 := Lib.hid (HK1.out.ext HBS.out hs1)
    have HB2 := Lib.hid (hb.out.trans (HK2.out.below.mono hB0))
    have HX2 := Lib.hid ((HBS.out.block g (Array.getElem?_eq_some_iff.1 HX1.out).1).trans HX1.out)
    have hs2 := Nat.le_trans hs1 HBS.out.size
    clear x0 x1 x2
    have x0 : w2.cell? ⟨g, 0, none⟩ = some (.int .i64 1) := by rw [cell_of_row _ _ _ _ _ _ HX2.out]; rfl
    have x1 : w2.cell? ⟨g, 1, none⟩ = some (.int .i64 n) := by rw [cell_of_row _ _ _ _ _ _ HX2.out]; rfl
    have x2 : w2.cell? ⟨g, 2, none⟩ = some (.slice A m c) := by rw [cell_of_row _ _ _ _ _ _ HX2.out]; rfl
    go_wp2_with fail
    refine (wr_WriteString B b nn nc p v NA l d w2 hW2 hp hs2 HL2.out).mono ?_
    rintro e w3 ⟨⟨r3, rfl⟩, ⟨v3, hW3⟩, hK3⟩
    have HK3 := Lib.hid (HK2.out.trans hK3.out)
    have HB3 := Lib.hid (hb.out.trans (HK3.out.below.mono hB0))
    have HX3 := Lib.hid (hK3.out.box HX2.out HGB.out (by decide))
    have hs3 : B ≤ w3.heap.size := by have := hK3.out.below.size; omega
    clear x0 x1 x2
    have x0 : w3.cell? ⟨g, 0, none⟩ = some (.int .i64 1) := by rw [cell_of_row _ _ _ _ _ _ HX3.out]; rfl
    have x1 : w3.cell? ⟨g, 1, none⟩ = some (.int .i64 n) := by rw [cell_of_row _ _ _ _ _ _ HX3.out]; rfl
    have x2 : w3.cell? ⟨g, 2, none⟩ = some (.slice A m c) := by rw [cell_of_row _ _ _ _ _ _ HX3.out]; rfl
    go_wp2_with fail
    exact ⟨rfl, _, results_none rfl _ _ _, WrP.mk hW3 (by rw [HTT.out]; unfold decP; rw [if_neg (by omega), ← HDT.out]) HK3⟩
set_option maxRecDepth 100000 in
set_option maxHeartbeats 4000000 in
theorem w_expr_variable (names : List ByteArray) (w0 : World) (B b : Nat) (NA : Option Addr) (nn nc : Nat) (N : Nat) (hB0 : w0.heap.size ≤ B) (IH : Hid (WExprAt names w0 B b NA nn nc N)) (t : Tr) (hN : t.sz ≤ N + 1) (A : Option Addr) (m c : Nat) (w : World) (l : List UInt8) (p v : Value)
    (h : Hid (TrAt w0 A m c t)) (hb : Hid (Below w0.heap.size w0 w)) (hW : Hid (WrAt w B b p NA nn nc l v)) (hp : p = .pointer none ∨ p = selfP b) (hlen : l.length + (textT names t).length ≤ 1000000000000) (hk : t.kind = 2) (hNA : Hid (Sl w0 (.slice NA nn nc) nn 1 (strCells names))) (hns : ∀ s ∈ names, s.size ≤ 1000) :
    Calls Tryz.prog 38 #[.pointer (some ⟨b, 0, none⟩), t.val A m c] w (WrP B b NA nn nc w (l ++ textT names t)) := by
  have hbw : B ≤ w.heap.size := by have := hW.out.ge; have := hW.out.lt; omega
  obtain ⟨hi1, hi2⟩ := h.out.nums
  have HT := textT_eq names t
  obtain ⟨n, hn⟩ : ∃ n, n = t.num := ⟨_, rfl⟩
  obtain ⟨k, hkk⟩ : ∃ k, k = t.kind := ⟨_, rfl⟩
  have hv : t.val A m c = .agg #[.int .i64 k, .int .i64 n, .slice A m c] := by rw [hn, hkk]
  rw [hv]
  rw [← hn, ← hkk] at HT
  rw [← hkk] at hk
  rw [← hn] at hi2
  have CK := Lib.hid (fun (j : Nat) (s : Int) W l' p' v' (h1 : Hid (Below w0.heap.size w0 W)) (h2 : Hid (WrAt W B b p' NA nn nc l' v')) (hp' : p' = .pointer none ∨ p' = selfP b) (hj : j ≤ 2) (hl' : l'.length + (kidS (textL names t.kids) j s).length ≤ 1000000000000) => w_kid names w0 B b NA nn nc N hB0 IH t hN A m c j s W l' p' v' h h1 h2 hp' hj hl')
  rw [hv] at CK
  have hgb : w.heap.size ≠ b := by have := hW.out.lt; omega
  rw [show textN names k n (textL names t.kids) = nameS names n by unfold textN; rw [hk]; simp] at HT
  have hnl : names.length = nn := by have := hNA.out.len; rw [strCells, List.length_map] at this; omega
  have hnm := name_len (names := names) (L := 1000) hns n
  rw [HT] at hlen
  have HTT := Lib.hid HT
  clear HT
  clear hv hn hkk
  have HK1 := Lib.hid ((Wk.refl B b w).alloc hbw (.cells #[.int .i64 k, .int .i64 n, .slice A m c] 30))
  have hW1 := Lib.hid (hW.out.alloc (.cells #[.int .i64 k, .int .i64 n, .slice A m c] 30))
  have hx1 := heap_alloc_new w (.cells #[.int .i64 k, .int .i64 n, .slice A m c] 30)
  have x0 := cell_new w #[.int .i64 k, .int .i64 n, .slice A m c] 30 0 _ rfl
  have x1 := cell_new w #[.int .i64 k, .int .i64 n, .slice A m c] 30 1 _ rfl
  have x2 := cell_new w #[.int .i64 k, .int .i64 n, .slice A m c] 30 2 _ rfl
  obtain ⟨w1, hw1⟩ : ∃ w1, w1 = w.alloc (.cells #[.int .i64 k, .int .i64 n, .slice A m c] 30) := ⟨_, rfl⟩
  have hs1 : B ≤ w1.heap.size := by rw [hw1, World.size_alloc]; omega
  obtain ⟨g, hg⟩ : ∃ g, g = w.heap.size := ⟨_, rfl⟩
  have HW1 := Lib.hid hw1
  have HG := Lib.hid hg
  rw [← hw1] at HK1 hW1 hx1 x0 x1 x2
  rw [← hg] at hx1 x0 x1 x2 hgb
  have HX1 := Lib.hid hx1
  have HGB := Lib.hid hgb
  have HB1 := Lib.hid (hb.out.trans (HK1.out.below.mono hB0))
  clear hw1 hg hx1 hgb
  subst hk
  have hWq := fun q => Lib.hid (hW1.out.ext (below_drewN' (Below.refl _ _) q))
  have HKq := fun q => Lib.hid (HK1.out.drewN q)
  have hsq : ∀ q, B ≤ (w1.drewN q).heap.size := fun q => hs1
  obtain ⟨b0, b1, b2⟩ := hW1.out.cells
  by_cases n0 : n < 0
  · have ht : nameS names n = [63] := by unfold nameS; rw [if_neg (by omega)]
    have HN := Lib.hid ht
    have d0 : decide (0 ≤ n) = false := decide_eq_false (by omega)
    have hl2 : l.length + (⟨#[63]⟩ : ByteArray).size ≤ 140737488355328 := by rw [ht] at hlen; show _ + 1 ≤ _; simp at hlen; omega
    clear ht hlen hnm hnl
    go_enter Tryz.func38, Tryz.ntmps38
    go_upto_region 1 with fail
    rw [← HG.out, ← HW1.out]
    go_wp2_with fail
    go_quiet (fail)
    go_wp2_with fail
    refine (wr_WriteString B b nn nc p v _ l ⟨#[63]⟩ _ (hWq _) hp (hsq _) hl2).mono ?_
    rintro e w3 ⟨⟨r3, rfl⟩, ⟨v3, hW3⟩, hK3⟩
    have HK3 := Lib.hid ((HKq _).out.trans hK3.out)
    go_wp2_with fail
    exact ⟨rfl, _, results_none rfl _ _ _, WrP.mk hW3 (by rw [HTT.out, HN.out]) HK3⟩
  · by_cases n1 : (nn : Int) ≤ n
    · have ht : nameS names n = [63] := by unfold nameS; rw [if_neg (by rw [hnl]; omega)]
      have HN := Lib.hid ht
      have d0 : 0 ≤ n := by omega
      have d1 : decide (n < (nn : Int)) = false := decide_eq_false (by omega)
      have hl2 : l.length + (⟨#[63]⟩ : ByteArray).size ≤ 140737488355328 := by rw [ht] at hlen; show _ + 1 ≤ _; simp at hlen; omega
      clear ht hlen hnm hnl n0
      go_enter Tryz.func38, Tryz.ntmps38
      go_upto_region 1 with fail
      rw [← HG.out, ← HW1.out]
      go_wp2_with fail
      go_quiet (fail)
      go_wp2_with fail
      refine (wr_WriteString B b nn nc p v _ l ⟨#[63]⟩ _ (hWq _) hp (hsq _) hl2).mono ?_
      rintro e w3 ⟨⟨r3, rfl⟩, ⟨v3, hW3⟩, hK3⟩
      have HK3 := Lib.hid ((HKq _).out.trans hK3.out)
      go_wp2_with fail
      exact ⟨rfl, _, results_none rfl _ _ _, WrP.mk hW3 (by rw [HTT.out, HN.out]) HK3⟩
    · obtain ⟨j, hj⟩ : ∃ j : Nat, n = (j : Int) := ⟨n.toNat, by omega⟩
      subst hj
      have hjn : j < nn := by omega
      have ht : nameS names (j : Int) = (names.getD j ⟨#[]⟩).data.toList := by unfold nameS; rw [if_pos (by rw [hnl]; omega)]; simp
      have hbw1 : Below w0.heap.size w0 w1 := HB1.out
      obtain ⟨nb, noff, rfl, hcell⟩ := (hNA.out.below hbw1).at_ (by omega)
      have hcj := hcell j (.string (names.getD j ⟨#[]⟩)) (by simp [strCells, List.getElem?_map, List.getD, List.getElem?_eq_getElem (show j < names.length by omega)])
      obtain ⟨d, hd⟩ : ∃ d, d = names.getD j ⟨#[]⟩ := ⟨_, rfl⟩
      rw [← hd] at ht hcj
      have hdm : d.size ≤ 1000 := by rw [hd, List.getD, List.getElem?_eq_getElem (show j < names.length by omega)]; exact hns _ (List.getElem_mem _)
      have HN := Lib.hid ht
      have d0 : (0 : Int) ≤ (j : Int) := by omega
      have d1 : (j : Int) < (nn : Int) := by omega
      have hl2 : l.length + d.size ≤ 140737488355328 := by
        have e : d.data.toList.length = d.size := by simp
        rw [ht] at hlen
        omega
      clear ht hlen hnm hnl n0 n1 hcell hd
      go_enter Tryz.func38, Tryz.ntmps38
      go_upto_region 1 with fail
      rw [← HG.out, ← HW1.out]
      go_wp2_with fail
      go_quiet (fail)
      go_wp2_with fail
      go_region
      go_wp2_with fail
      refine (wr_WriteString B b nn nc p v _ l d _ (hWq _) hp (hsq _) hl2).mono ?_
      rintro e w3 ⟨⟨r3, rfl⟩, ⟨v3, hW3⟩, hK3⟩
      have HK3 := Lib.hid ((HKq _).out.trans hK3.out)
      go_wp2_with fail
      exact ⟨rfl, _, results_none rfl _ _ _, WrP.mk hW3 (by rw [HTT.out, HN.out]) HK3⟩
theorem w_expr (names : List ByteArray) (w0 : World) (B b : Nat) (NA : Option Addr) (nn nc : Nat) (hB0 : w0.heap.size ≤ B) (htab : Hid (∀ W, Below w0.heap.size w0 W → TabT W)) (hNA : Hid (Sl w0 (.slice NA nn nc) nn 1 (strCells names))) (hns : ∀ s ∈ names, s.size ≤ 1000) : ∀ N, WExprAt names w0 B b NA nn nc N
  | 0 => fun t hN _ _ _ _ _ _ _ _ _ _ _ _ => by have := t.sz_pos; omega
  | N + 1 => by
    have IH := Lib.hid (w_expr names w0 B b NA nn nc hB0 htab hNA hns N)
    intro t hN A m c w l p v h hb hW hp hlen
    by_cases h1 : t.kind = 1
    · exact w_expr_number names w0 B b NA nn nc N hB0 IH t hN A m c w l p v h hb hW hp hlen h1 htab
    by_cases h2 : t.kind = 2
    · exact w_expr_variable names w0 B b NA nn nc N hB0 IH t hN A m c w l p v h hb hW hp hlen h2 hNA hns
    by_cases h3 : t.kind = 3
    · exact w_expr_minus names w0 B b NA nn nc N hB0 IH t hN A m c w l p v h hb hW hp hlen h3
    by_cases h4 : t.kind = 4
    · exact w_expr_not names w0 B b NA nn nc N hB0 IH t hN A m c w l p v h hb hW hp hlen h4
    by_cases h5 : t.kind = 5
    · exact w_expr_two names w0 B b NA nn nc N hB0 IH t hN A m c w l p v h hb hW hp hlen h5
    by_cases h6 : t.kind = 6
    · exact w_expr_if names w0 B b NA nn nc N hB0 IH t hN A m c w l p v h hb hW hp hlen h6
    exact w_expr_other names w0 B b NA nn nc N hB0 IH t hN A m c w l p v h hb hW hp hlen (by omega)
set_option maxRecDepth 100000 in
set_option maxHeartbeats 2000000 in
theorem ex_Text (names : List ByteArray) (NA : Option Addr) (nn nc : Nat) (t : Tr) (A : Option Addr) (m c : Nat) (w : World) (h : Hid (TrAt w A m c t)) (htab : Hid (∀ W, Below w.heap.size w W → TabT W)) (hNA : Hid (Sl w (.slice NA nn nc) nn 1 (strCells names))) (hns : ∀ s ∈ names, s.size ≤ 1000) (hlen : (textT names t).length ≤ 1000000000000) :
    Calls Tryz.prog 19 #[t.val A m c, .slice NA nn nc] w fun e w' => e = .returned (.string ⟨(textT names t).toArray⟩) ∧ Below w.heap.size w w' := by
  have hb1 := (Below.refl w.heap.size w).alloc (Nat.le_refl _) (.cells #[.int .i64 t.kind, .int .i64 t.num, .slice A m c] 30)
  have hz : (w.alloc (.cells #[.int .i64 t.kind, .int .i64 t.num, .slice A m c] 30)).heap.size = w.heap.size + 1 := World.size_alloc _ _
  have hb2 := hb1.alloc (by rw [hz]; omega) (.cells #[.pointer none, .slice none 0 0, .slice NA nn nc] 92)
  have hk := (Below.refl _ (w.alloc (.cells #[.int .i64 t.kind, .int .i64 t.num, .slice A m c] 30))).alloc (Nat.le_refl _) (.cells #[.pointer none, .slice none 0 0, .slice NA nn nc] 92)
  have s0 := cell_kept hk (cell_new w #[.int .i64 t.kind, .int .i64 t.num, .slice A m c] 30 0 _ rfl)
  have s1 := cell_kept hk (cell_new w #[.int .i64 t.kind, .int .i64 t.num, .slice A m c] 30 1 _ rfl)
  have s2 := cell_kept hk (cell_new w #[.int .i64 t.kind, .int .i64 t.num, .slice A m c] 30 2 _ rfl)
  have hw : (w.alloc (.cells #[.int .i64 t.kind, .int .i64 t.num, .slice A m c] 30)).heap.size = w.heap.size + 1 → WrAt ((w.alloc (.cells #[.int .i64 t.kind, .int .i64 t.num, .slice A m c] 30)).alloc (.cells #[.pointer none, .slice none 0 0, .slice NA nn nc] 92)) w.heap.size (w.heap.size + 1) (.pointer none) NA nn nc [] (.slice none 0 0) := fun hz =>
    ⟨by omega, by rw [← hz]; exact heap_alloc_new _ _, World.ownsRow_nil _ _ _ _, by simp [Value.ownBlock], by simp⟩
  have HW := Lib.hid (hw hz)
  have HB2 := Lib.hid hb2
  have CE := Lib.hid (w_expr names w w.heap.size (w.heap.size + 1) NA nn nc (Nat.le_refl _) htab hNA hns t.sz t (Nat.le_refl _) A m c _ [] (.pointer none) (.slice none 0 0) h HB2 HW (.inl rfl) (by simpa using hlen))
  clear hb1 hb2 hz hk hw
  go_enter Tryz.func19, Tryz.ntmps19
  go_wp2_with fail
  refine CE.out.mono ?_
  rintro e w3 ⟨⟨r3, rfl⟩, ⟨v3, hW3⟩, hK3⟩
  have HB3 := Lib.hid (HB2.out.trans hK3.out.below)
  go_wp2_with fail
  refine (wr_String w.heap.size (w.heap.size + 1) nn nc _ v3 NA _ w3 hW3).mono ?_
  rintro e w4 ⟨rfl, hb4⟩
  have HB4 := Lib.hid (HB3.out.trans hb4)
  clear hb4
  go_wp2_with fail
  go_ret
  exact ⟨rfl, HB4.out⟩
end Go.Proofs.YtkpjhjoopdbkaaaGreatDoor
namespace Go.Proofs.YtkpjhjoopdbkaaaGreatDoor
open Go.RowKit
theorem drew2 (w : World) (a b : Nat) : (w.drewN a).drewN b = w.drewN (a + b) := World.drewN_drewN _ _ _
theorem eq_pair (a b c d : Int) (w : World) (D : Nat) : (Op.equalIn (D + 2) 67 (.agg #[.int .i64 a, .int .i64 b]) (.agg #[.int .i64 c, .int .i64 d])).run Tryz.prog w = .ok (a == c && b == d) w := by
  obtain ⟨i, hi, _⟩ := info_parts (P := Tryz.prog) (e := 3) (z := .int .i64 0) (size := 1) (bytes := 8) (by kernel_rfl)
  rw [run_equalIn_array w (D + 1) #[.int .i64 a, .int .i64 b] #[.int .i64 c, .int .i64 d] Tryz.underlying67 hi]
  have hc : Tryz.prog.cellsOf 3 = 1 := by kernel_rfl
  have p0 : ∀ (x y : Int) (w : World), (part 3 #[.int .i64 x, .int .i64 y] 0).run Tryz.prog w = .ok (.int .i64 x) w := fun _ _ _ => by kernel_rfl
  have p1 : ∀ (x y : Int) (w : World), (part 3 #[.int .i64 x, .int .i64 y] 1).run Tryz.prog w = .ok (.int .i64 y) w := fun _ _ _ => by kernel_rfl
  have e1 : List.range 2 = [0, 1] := rfl
  have q := fun (x y : Int) (w : World) => run_equalIn_int (P := Tryz.prog) w D 3 .i64 .i64 x y Tryz.underlying3
  rw [hc, e1]
  simp only [Op.eqItems, Sem.run_bind, Nat.zero_mul, Nat.one_mul, p0, q, Result.andThen_ok]
  rcases h : (a == c) with _ | _
  · simp
  · simp only [Bool.not_true, Bool.false_eq_true, if_false, Sem.run_bind, p1, q, Result.andThen_ok, Bool.true_and]
    rcases (b == d) with _ | _ <;> simp
theorem neq_pair (a b c d : Int) (w : World) : (binOp .neq 67 (.agg #[.int .i64 a, .int .i64 b]) (.agg #[.int .i64 c, .int .i64 d])).run Tryz.prog w = .ok (.bool (!(a == c && b == d))) w := by
  rw [run_neq_struct, eq_pair a b c d w 9998]; rfl
theorem pairs_eq_of {l m : List (Int × Int)} (hl : l.length = m.length) (h : ∀ j, j < l.length → l.getD j (0, 0) = m.getD j (0, 0)) : l = m := by
  refine List.ext_getElem hl fun j h1 h2 => ?_
  have := h j h1
  simpa [List.getD, h1, h2] using this
set_option maxHeartbeats 1000000 in
theorem slices_EqualP (A B : Option Addr) (n m c d : Nat) (la lb : List (Int × Int)) (w : World) (hA : Hid (Sl w (.slice A n c) n 2 (pairCells la))) (hB : Hid (Sl w (.slice B m d) m 2 (pairCells lb))) (hn : n ≤ 9223372036854775807) (hm : m ≤ 9223372036854775807) :
    Calls Tryz.prog 105 #[.slice A n c, .slice B m d] w fun e w' => e = .returned (.bool (decide (la = lb))) ∧ ∃ k, w' = w.drewN k := by
  have hla := Lib.hid (show la.length = n by have := hA.out.len; rw [pairCells_len] at this; omega)
  have hlb := Lib.hid (show lb.length = m by have := hB.out.len; rw [pairCells_len] at this; omega)
  by_cases hnm : n = m
  · subst hnm
    go_enter Tryz.func105, Tryz.ntmps105
    go_wp2
    go_loopw [5, 13] (fun _ v wr => ∃ (k q : Nat), k ≤ n ∧ v = .int .i64 (k : Int) ∧ wr = w.drewN q ∧ Hid (∀ j, j < k → la.getD j (0, 0) = lb.getD j (0, 0))) (fun _ v _ => n - (RowKit.intOf v).toNat)
    case atStart => exact ⟨0, 0, by omega, rfl, rfl, fun j hj => by omega⟩
    case round =>
      obtain ⟨k, q, hk, rfl, rfl, hj⟩ := hrel
      by_cases hlt : k < n
      · obtain ⟨b1, o1, rfl, c1, c2⟩ := hA.out.pair_at hlt
        obtain ⟨b2, o2, rfl, c3, c4⟩ := hB.out.pair_at hlt
        obtain ⟨x, hx⟩ : ∃ x, x = la.getD k (0, 0) := ⟨_, rfl⟩
        obtain ⟨y, hy⟩ : ∃ y, y = lb.getD k (0, 0) := ⟨_, rfl⟩
        rw [← hx] at c1 c2
        rw [← hy] at c3 c4
        have HX := Lib.hid hx
        have HY := Lib.hid hy
        have hlt2 : (k : Int) < (n : Int) := by omega
        have hk0 : (0 : Int) ≤ (k : Int) := by omega
        clear hx hy
        obtain ⟨x1, x2⟩ := x
        obtain ⟨y1, y2⟩ := y
        simp only at c1 c2 c3 c4
        have nq := neq_pair
        rcases h1 : (x1 == y1) with _ | _
        · have H1 := Lib.hid h1
          go_wp2
          go_quiet (fail)
          go_wp2
          go_ret
          refine ⟨ret_b ?_, _, drew2 _ _ _⟩
          symm
          rw [decide_eq_false_iff_not]
          intro e
          have h3 := H1.out
          have h4 : (x1, x2) = (y1, y2) := by rw [HX.out, HY.out, e]
          injection h4 with h4 _
          rw [h4] at h3
          simp at h3
        · rcases h2 : (x2 == y2) with _ | _
          · have H1 := Lib.hid h2
            go_wp2
            go_quiet (fail)
            go_wp2
            go_ret
            refine ⟨ret_b ?_, _, drew2 _ _ _⟩
            symm
            rw [decide_eq_false_iff_not]
            intro e
            have h3 := H1.out
            have h4 : (x1, x2) = (y1, y2) := by rw [HX.out, HY.out, e]
            injection h4 with _ h4
            rw [h4] at h3
            simp at h3
          · have H1 := Lib.hid h1
            have H2 := Lib.hid h2
            go_wp2
            go_quiet (fail)
            go_wp2
            go_roundw
            case rel =>
              refine ⟨k + 1, _, by omega, by go_num, rfl, fun j hj2 => ?_⟩
              by_cases e : j = k
              · rw [e, ← HX.out, ← HY.out]
                have h3 : x1 = y1 := by simpa using H1.out
                have h4 : x2 = y2 := by simpa using H2.out
                rw [h3, h4]
              · exact hj.out j (by omega)
            case measure => simp [RowKit.intOf]; omega
      · go_wp2
        go_ret
        refine ⟨ret_b ?_, _, rfl⟩
        symm
        rw [decide_eq_true_eq]
        exact pairs_eq_of (by rw [hla.out, hlb.out]) fun j h => hj.out j (by rw [hla.out] at h; omega)
  · have d1 : ((n : Int) != (m : Int)) = true := by simp; omega
    have e1 : decide (la = lb) = false := by
      rw [decide_eq_false_iff_not]
      intro e
      have h1 := hla.out
      have h2 := hlb.out
      rw [e] at h1
      omega
    rw [e1]
    go_enter Tryz.func105, Tryz.ntmps105
    go_wp2
    go_ret
    exact ⟨rfl, 0, rfl⟩
end Go.Proofs.YtkpjhjoopdbkaaaGreatDoor
