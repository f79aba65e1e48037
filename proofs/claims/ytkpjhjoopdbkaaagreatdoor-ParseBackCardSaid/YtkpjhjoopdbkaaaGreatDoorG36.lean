/- Joined: Law ParseBack: the walk. Printed by gen_pcC.py. Expressions handed in. -/
import Derived.Test.YtkpjhjoopdbkaaaGreatDoorG35
import Derived.Test.YtkpjhjoopdbkaaaGreatDoorG29
import Derived.Test.YtkpjhjoopdbkaaaGreatDoorG28
import Derived.Deep.RegionHeld3
import Derived.Deep.DeepCutAuto
import Derived.Test.YtkpjhjoopdbkaaaGreatDoorG02
import Derived.Test.YtkpjhjoopdbkaaaGreatDoorG03
import Derived.ProofKit
import Derived.OpenShut
import Derived.SliceStrings
import Derived.Deep.Slices
namespace Go.Proofs.YtkpjhjoopdbkaaaGreatDoor
open Go.RowKit
theorem back_names : NmOk [⟨#[120]⟩, ⟨#[121]⟩, ⟨#[122, 49]⟩] := ⟨by intro n hn; simp only [List.mem_cons, List.not_mem_nil, or_false] at hn; rcases hn with rfl | rfl | rfl <;> decide +kernel, by decide +kernel⟩
/-- The text of a right expression is cut, and read as it was. -/
theorem back_text {t : Tr} (hr : rightT 3 t = true) (hp : plainT t = true) (hR : Real t) (hd : depthT t ≤ 20) : (textT [⟨#[120]⟩, ⟨#[121]⟩, ⟨#[122, 49]⟩] t).length ≤ 13600 ∧ (lexR (textT [⟨#[120]⟩, ⟨#[121]⟩, ⟨#[122, 49]⟩] t)).2.2 = 0 ∧ ∀ en, exprAll (lexR (textT [⟨#[120]⟩, ⟨#[121]⟩, ⟨#[122, 49]⟩] t)).1 en [⟨#[120]⟩, ⟨#[121]⟩, ⟨#[122, 49]⟩] = (cleanT t, en, 0) := by
  unfold rightT at hr
  simp only [Bool.and_eq_true, decide_eq_true_eq] at hr
  obtain ⟨h1, h2, h3⟩ := hr
  have h3' : partsT (([⟨#[120]⟩, ⟨#[121]⟩, ⟨#[122, 49]⟩] : List ByteArray).length : Int) t = true := h3
  have hs := text_short back_names t.sz t (Nat.le_refl _) h3' hp hR
  have hc := cut_text back_names t.sz t (Nat.le_refl _) h3' hp hR
  have hx := hc.1 [] safe_nil
  rw [List.append_nil, lxK_nil] at hx
  have hl : (textT [⟨#[120]⟩, ⟨#[121]⟩, ⟨#[122, 49]⟩] t).length ≤ 16384 := by omega
  rw [← lxK_lexR hl] at hx
  unfold lxO at hx
  by_cases q : (lexR (textT [⟨#[120]⟩, ⟨#[121]⟩, ⟨#[122, 49]⟩] t)).2.2 = 0
  · rw [if_pos q] at hx
    have hk : ktOf (lexR (textT [⟨#[120]⟩, ⟨#[121]⟩, ⟨#[122, 49]⟩] t)).1 = toksT [⟨#[120]⟩, ⟨#[121]⟩, ⟨#[122, 49]⟩] t := by simpa using hx
    exact ⟨by omega, q, fun en => back_plain back_names h3' hp hR hd hk en⟩
  · rw [if_neg q] at hx
    cases hx
set_option maxRecDepth 100000 in
set_option maxHeartbeats 16000000 in
theorem law_ParseBack (t : Tr) (A : Option Addr) (m c : Nat) (w : World) (h : Hid (TrAt w A m c t)) (ht : Hid (∀ W, Below w.heap.size w W → TabOk W)) (htab : Hid (∀ W, Below w.heap.size w W → TabT W)) :
    Calls Tryz.prog 5 #[t.val A m c] w fun e w' => e = .returned (.bool true) ∧ Below w.heap.size w w' := by
  obtain ⟨w1, hw1⟩ : ∃ y, y = w.alloc (.cells #[.int .i64 t.kind, .int .i64 t.num, .slice A m c] 30) := ⟨_, rfl⟩
  have HB1 := Lib.hid (show Below w.heap.size w w1 by rw [hw1]; exact alrB w _)
  have HR1 := Lib.hid (show w1.heap[w.heap.size]? = some (.cells #[.int .i64 t.kind, .int .i64 t.num, .slice A m c] 30 (0, 0)) by rw [hw1]; exact heap_alloc_new w _)
  have HW := Lib.hid hw1.symm
  obtain ⟨g, hg⟩ : ∃ y, y = w.heap.size := ⟨_, rfl⟩
  have HG := Lib.hid hg.symm
  rw [← hg] at HR1
  have HC := Lib.hid (show ∀ W, Below w1.heap.size w1 W → W.cell? ⟨g, 0, none⟩ = some (.int .i64 t.kind) ∧ W.cell? ⟨g, 1, none⟩ = some (.int .i64 t.num) ∧ W.cell? ⟨g, 2, none⟩ = some (.slice A m c) from fun W hb => ⟨row_cell (row_below HR1.out hb) 0 _ rfl, row_cell (row_below HR1.out hb) 1 _ rfl, row_cell (row_below HR1.out hb) 2 _ rfl⟩)
  have HT := Lib.hid (fun W (hb : Below w1.heap.size w1 W) => h.out.kept (below_then HB1.out hb))
  have CS := Lib.hid (law_small w1 (Lib.hid fun W hb => ht.out W (below_then HB1.out hb)) (Lib.hid fun W hb => htab.out W (below_then HB1.out hb)))
  have CF := Lib.hid (fun W (hb : Below w1.heap.size w1 W) => law_Few t A m c W (Lib.hid (HT.out W hb)))
  have HFS := Lib.hid (fun q => few_size t 60 q)
  obtain ⟨fw, hfw⟩ : ∃ y, y = decide (0 < fewT t 60) := ⟨_, rfl⟩
  rw [← hfw] at CF
  have HFW := Lib.hid hfw
  have HRL := Lib.hid (show Real t from ⟨w, A, m, c, h.out⟩)
  clear hw1 hg hfw
  cases fw with
  | false =>
    go_enter Tryz.func5, Tryz.ntmps5
    go_upto_region 1 with fail
    rw [HG.out, HW.out]
    go_wp2_with fail
    refine CS.out.mono ?_
    rintro e w2 ⟨rfl, hb2⟩
    have HB2 := Lib.hid hb2
    obtain ⟨c0, c1, c2⟩ := HC.out w2 hb2
    clear hb2
    go_wp2_with fail
    refine (CF.out w2 HB2.out).mono ?_
    rintro e w3 ⟨rfl, hb3⟩
    have HB3 := Lib.hid (below_then HB1.out (below_then HB2.out hb3))
    clear hb3
    go_wp2
    go_ret
    exact ⟨rfl, HB3.out⟩
  | true =>
  have hpos := of_decide_eq_true HFW.out.symm
  have hsz := (HFS.out hpos).1
  have hrg := few_range t 60
  have HSZ := Lib.hid (show sizeT t ≤ 500 by omega)
  have CD := Lib.hid (fun W (hb : Below w1.heap.size w1 W) => ex_Depth t.sz t (Nat.le_refl _) A m c W (Lib.hid (HT.out W hb)) (by have := HSZ.out; omega))
  have CR := Lib.hid (fun W (hb : Below w1.heap.size w1 W) => ex_Right 3 t A m c W (Lib.hid (HT.out W hb)) (by have := HSZ.out; omega))
  have CP := Lib.hid (fun W (hb : Below w1.heap.size w1 W) => law_plain t.sz t (Nat.le_refl _) A m c W (Lib.hid (HT.out W hb)))
  have CC := Lib.hid (fun W (hb : Below w1.heap.size w1 W) => law_clean t.sz t (Nat.le_refl _) A m c W (Lib.hid (HT.out W hb)) (Lib.hid (by have := HSZ.out; omega)))
  have HBT := Lib.hid (fun (a : rightT 3 t = true) (b : plainT t = true) (d : depthT t ≤ 20) => back_text a b HRL.out d)
  obtain ⟨rt, hrt⟩ : ∃ y, y = rightT 3 t := ⟨_, rfl⟩
  obtain ⟨pl, hpl⟩ : ∃ y, y = plainT t := ⟨_, rfl⟩
  rw [← hrt] at CR HBT
  rw [← hpl] at CP HBT
  obtain ⟨dp, hdp⟩ : ∃ y, y = depthT t := ⟨_, rfl⟩
  rw [← hdp] at CD HBT
  clear hpos hsz hrg hrt hpl hdp
  have hd20 : (20 : Int) < (dp : Int) ∨ ¬ (20 : Int) < (dp : Int) := Decidable.em _
  go_enter Tryz.func5, Tryz.ntmps5
  go_upto_region 1 with fail
  rw [HG.out, HW.out]
  go_wp2_with fail
  refine CS.out.mono ?_
  rintro e w2 ⟨rfl, hb2⟩
  have HB2 := Lib.hid hb2
  obtain ⟨c0, c1, c2⟩ := HC.out w2 hb2
  clear hb2
  go_wp2_with fail
  refine (CF.out w2 HB2.out).mono ?_
  rintro e w3 ⟨rfl, hb3⟩
  have HB3 := Lib.hid (below_then HB2.out hb3)
  obtain ⟨d0, d1, d2⟩ := HC.out w3 HB3.out
  clear hb3 c0 c1 c2
  go_wp2_with fail
  refine (CD.out w3 HB3.out).mono ?_
  rintro e w4 ⟨rfl, hb4⟩
  have HB4 := Lib.hid (below_then HB3.out hb4)
  obtain ⟨c0, c1, c2⟩ := HC.out w4 HB4.out
  clear hb4 d0 d1 d2
  rcases hd20 with hgt | hle
  · go_wp2
    go_ret
    exact ⟨rfl, below_then HB1.out HB4.out⟩
  have HLE := Lib.hid (show dp ≤ 20 by omega)
  have hle2 : (dp : Int) ≤ 20 := by omega
  go_wp2_with fail
  refine (CR.out w4 HB4.out).mono ?_
  rintro e w5 ⟨rfl, hb5⟩
  have HB5 := Lib.hid (below_then HB4.out hb5)
  obtain ⟨d0, d1, d2⟩ := HC.out w5 HB5.out
  clear hb5 c0 c1 c2 hle
  cases rt with
  | false =>
    go_wp2
    go_ret
    exact ⟨rfl, below_then HB1.out HB5.out⟩
  | true =>
  go_wp2_with fail
  refine (CP.out w5 HB5.out).mono ?_
  rintro e w6 ⟨rfl, hb6⟩
  have HB6 := Lib.hid (below_then HB5.out hb6)
  obtain ⟨c0, c1, c2⟩ := HC.out w6 HB6.out
  clear hb6 d0 d1 d2
  cases pl with
  | false =>
    go_wp2
    go_ret
    exact ⟨rfl, below_then HB1.out HB6.out⟩
  | true =>
  obtain ⟨q1, q2, q3⟩ := HBT.out (by first | rfl | trivial) (by first | rfl | trivial) HLE.out
  have HNS := Lib.hid (show ([⟨#[120]⟩, ⟨#[121]⟩, ⟨#[122, 49]⟩] : List ByteArray).length = 3 from rfl)
  have HNZ := Lib.hid (show ∀ s ∈ ([⟨#[120]⟩, ⟨#[121]⟩, ⟨#[122, 49]⟩] : List ByteArray), s.size ≤ 1000 by intro s hs; simp only [List.mem_cons, List.not_mem_nil, or_false] at hs; rcases hs with rfl | rfl | rfl <;> decide)
  have HSN := Lib.hid (show Sl (w6.alloc (.cells #[.string ⟨#[120]⟩, .string ⟨#[121]⟩, .string ⟨#[122, 49]⟩] 9)) (.slice (some ⟨w6.heap.size, 0, none⟩) 3 3) 3 1 (strCells [⟨#[120]⟩, ⟨#[121]⟩, ⟨#[122, 49]⟩]) from Sl.new w6 _ [.string ⟨#[120]⟩, .string ⟨#[121]⟩, .string ⟨#[122, 49]⟩] 3 1 rfl (by omega))
  obtain ⟨nms, hnm⟩ : ∃ y : List ByteArray, y = [⟨#[120]⟩, ⟨#[121]⟩, ⟨#[122, 49]⟩] := ⟨_, rfl⟩
  rw [← hnm] at q1 q2 q3 HSN HNZ
  have HTS := Lib.hid (lex_small (textT nms t))
  have CX := Lib.hid (fun NA nn nc W (hb : Below w1.heap.size w1 W) (hN : Sl W (.slice NA nn nc) nn 1 (strCells nms)) => ex_Text nms NA nn nc t A m c W (Lib.hid (HT.out W hb)) (Lib.hid fun W' hb' => htab.out W' (below_then (below_then HB1.out hb) hb')) (Lib.hid hN) HNZ.out (by omega))
  have CL := Lib.hid (fun W => tok_Lex ⟨(textT nms t).toArray⟩ W (by show (textT nms t).toArray.size ≤ _; simp; omega))
  have hcl := CL.out
  rw [show (⟨(textT nms t).toArray⟩ : ByteArray).data.toList = textT nms t by simp] at hcl
  obtain ⟨L, hL⟩ : ∃ y, y = lexR (textT nms t) := ⟨_, rfl⟩
  rw [← hL] at q2 q3 hcl HTS
  have CL2 := Lib.hid hcl
  obtain ⟨X, hX⟩ : ∃ y : ByteArray, y = ⟨(textT nms t).toArray⟩ := ⟨_, rfl⟩
  have hcx := CX.out
  have hcl2 := CL2.out
  rw [← hX] at hcx hcl2
  have CX2 := Lib.hid hcx
  have CL3 := Lib.hid hcl2
  obtain ⟨ts, en, el⟩ := L
  simp only at q2 q3
  subst q2
  have HQ3 := Lib.hid (q3 (en : Int))
  have HB7 := Lib.hid (below_then HB6.out (alrB w6 (.cells #[.string ⟨#[120]⟩, .string ⟨#[121]⟩, .string ⟨#[122, 49]⟩] 9)))
  clear q1 q3 hnm hcl hL hX hcx hcl2 c0 c1 c2
  go_upto_region 6 with fail
  obtain ⟨w7, hw7⟩ : ∃ y, y = w6.alloc (.cells #[.string ⟨#[120]⟩, .string ⟨#[121]⟩, .string ⟨#[122, 49]⟩] 9) := ⟨_, rfl⟩
  obtain ⟨gn, hgn⟩ : ∃ y, y = w6.heap.size := ⟨_, rfl⟩
  rw [← hw7] at HB7 HSN ⊢
  rw [← hgn] at HSN ⊢
  clear hw7 hgn
  obtain ⟨c0, c1, c2⟩ := HC.out w7 HB7.out
  go_wp2_with fail
  refine (CX2.out (some ⟨gn, 0, none⟩) 3 3 w7 HB7.out HSN.out).mono ?_
  rintro e w8 ⟨rfl, hb8⟩
  have HB8 := Lib.hid (below_then HB7.out hb8)
  have HD8 := Lib.hid hb8
  clear hb8 c0 c1 c2
  go_wp2_with fail
  refine (CL3.out w8).mono ?_
  rintro e w9 ⟨v, rfl, hS, hB⟩
  obtain ⟨A0, c0, rfl, hnc, hc9, hS2⟩ := hS.form
  have HS9 := Lib.hid hS2
  have HB9 := Lib.hid (below_then HB8.out hB)
  have HD9 := Lib.hid (below_then HD8.out hB)
  clear hS hS2 hB
  have CE := Lib.hid (pa_Expr (T := ts) (en := (en : Int)) (A := A0) (c := c0) nms (some ⟨gn, 0, none⟩) 3 3 w9 HTS (Lib.hid (ht.out w9 (below_then HB1.out HB9.out))) HS9 (Lib.hid (HSN.out.below HD9.out)))
  rw [HQ3.out] at CE
  obtain ⟨u, hu⟩ : ∃ y, y = cleanT t := ⟨_, rfl⟩
  rw [← hu] at CE CC
  clear hu
  go_wp2_with fail
  refine CE.out.mono ?_
  rintro e x1 ⟨E1, m1, k1, rfl, hT, hB⟩
  have HT1 := Lib.hid (hT.kept (alrB x1 (.cells #[.int .i64 u.kind, .int .i64 u.num, .slice E1 m1 k1] 30)))
  have HBX := Lib.hid (below_then HB9.out (below_then hB (alrB x1 (.cells #[.int .i64 u.kind, .int .i64 u.num, .slice E1 m1 k1] 30))))
  have RX := Lib.hid (heap_alloc_new x1 (.cells #[.int .i64 u.kind, .int .i64 u.num, .slice E1 m1 k1] 30))
  go_upto_region 10 with fail
  obtain ⟨y1, hy1⟩ : ∃ y, y = x1.alloc (.cells #[.int .i64 u.kind, .int .i64 u.num, .slice E1 m1 k1] 30) := ⟨_, rfl⟩
  obtain ⟨g1, hg1⟩ : ∃ y, y = x1.heap.size := ⟨_, rfl⟩
  rw [← hy1] at HT1 HBX RX ⊢
  rw [← hg1] at RX ⊢
  clear hT hB hy1 hg1
  have HCX := Lib.hid (show ∀ W, Below y1.heap.size y1 W → W.cell? ⟨g1, 0, none⟩ = some (.int .i64 u.kind) ∧ W.cell? ⟨g1, 1, none⟩ = some (.int .i64 u.num) ∧ W.cell? ⟨g1, 2, none⟩ = some (.slice E1 m1 k1) ∧ W.cell? ⟨g, 0, none⟩ = some (.int .i64 t.kind) ∧ W.cell? ⟨g, 1, none⟩ = some (.int .i64 t.num) ∧ W.cell? ⟨g, 2, none⟩ = some (.slice A m c) from fun W hb => ⟨row_cell (row_below RX.out hb) 0 _ rfl, row_cell (row_below RX.out hb) 1 _ rfl, row_cell (row_below RX.out hb) 2 _ rfl, HC.out W (below_then HBX.out hb)⟩)
  have BD := Lib.hid (below_drewN' (Below.refl y1.heap.size y1) 1)
  have CSM := Lib.hid (fun W A2 m2 c2 (hb : Below y1.heap.size y1 W) (hT : TrAt W A2 m2 c2 u) => (show Calls Tryz.prog 11 #[u.val E1 m1 k1, u.val A2 m2 c2] W fun e w' => e = .returned (.bool true) ∧ Below W.heap.size W w' by
    have hh := ex_Same u.sz u u (Nat.le_refl _) E1 m1 k1 A2 m2 c2 W (Lib.hid (HT1.out.kept hb)) (Lib.hid hT)
    rw [sameT_self] at hh
    exact hh))
  go_region_held3 (fun W => W.cell? ⟨g1, 0, none⟩ = some (.int .i64 u.kind) ∧ W.cell? ⟨g1, 1, none⟩ = some (.int .i64 u.num) ∧ W.cell? ⟨g1, 2, none⟩ = some (.slice E1 m1 k1) ∧ W.cell? ⟨g, 0, none⟩ = some (.int .i64 t.kind) ∧ W.cell? ⟨g, 1, none⟩ = some (.int .i64 t.num) ∧ W.cell? ⟨g, 2, none⟩ = some (.slice A m c))
    (first | exact HCX.out _ BD2.out | exact HCX.out _ BD1.out | exact HCX.out _ BD.out)
    (first
      | (go_at_call 11; refine (CSM.out _ _ _ _ BD1.out HTC.out).mono ?_; rintro e wb ⟨rfl, hbb⟩; have BD2 := Lib.hid (below_then BD1.out hbb); clear hbb)
      | (go_at_call 20; refine (CC.out _ (below_then HBX.out BD.out)).mono ?_; rintro e wa ⟨A2, m2, c2', rfl, hT2, hba⟩; have BD1 := Lib.hid (below_then BD.out hba); have HTC := Lib.hid hT2.now; clear hba hT2))
  all_goals
    go_wp2
    go_ret
    exact ⟨rfl, below_then HB1.out (below_then HBX.out BD2.out)⟩
end Go.Proofs.YtkpjhjoopdbkaaaGreatDoor
namespace Go.Proofs.YtkpjhjoopdbkaaaGreatDoor
open _root_.Go.ChangeShapes _root_.Go.WideShapes _root_.Go.ChangeAt _root_.Go.RowKit _root_.Go.Deep
section
variable {H : Type} {enc : TypeId × Value → H} {W : World} {base b0 : Nat} {spare : Nat → Bool} {held : Bool} {r : Reach}
set_option maxRecDepth 100000 in
set_option maxHeartbeats 1000000 in
/-- An expression's cells, read from what came in. -/
theorem open_tr : ∀ (fuel : Nat) (cs : List Value) (y : DataW H × List MemPlace), DataW.trod enc Tryz.prog W base spare held fuel 30 cs = some y →
    ∃ (t : Tr) (A : Option Addr) (m c : Nat), cs = [.int .i64 t.kind, .int .i64 t.num, .slice A m c] ∧ TrAt W A m c t := by
  intro fuel
  induction fuel using Nat.strongRecOn with
  | ind fuel IH =>
    intro cs y h
    obtain ⟨xs, k, hk, _, hl, hxl, hf⟩ := DataW.trod_struct Tryz.underlying30 h
    have h3 : cs.length = 3 := hl.trans (by kernel_rfl)
    match cs, h3 with
    | [v0, v1, v2], _ =>
      have hx3 : xs.length = 3 := hxl
      match xs, hx3 with
      | [y0, y1, y2], _ =>
        have ci : Tryz.prog.cellsOf 3 = 1 := by kernel_rfl
        have cs1 : Tryz.prog.cellsOf 28 = 1 := by kernel_rfl
        have ce : Tryz.prog.cellsOf 30 = 3 := by kernel_rfl
        have g0 : DataW.trod enc Tryz.prog W base spare held k 3 [v0] = some y0 := by have := hf 0 _ rfl; simpa [ci] using this
        have g1 : DataW.trod enc Tryz.prog W base spare held k 3 [v1] = some y1 := by have := hf 1 _ rfl; simpa [ci] using this
        have g2 : DataW.trod enc Tryz.prog W base spare held k 28 [v2] = some y2 := by have := hf 2 _ rfl; simpa [cs1] using this
        obtain ⟨kd, e0, _, w0⟩ := DataW.trod_int Tryz.underlying3 g0
        obtain ⟨nm, e1, _, w1⟩ := DataW.trod_int Tryz.underlying3 g1
        injection e0 with e0; injection e1 with e1
        subst e0; subst e1
        rcases DataW.trod_slice Tryz.underlying28 g2 with ⟨e2, _⟩ | ⟨a, len, cap, elems, rest, n, hn, e2, _, _, hlc, hm, hel, hx, _, _⟩
        · injection e2 with e2
          subst e2
          exact ⟨.mk kd nm [], none, 0, 0, rfl, TrAt.mk_ (t := .mk kd nm []) (wf_i64 w0) (wf_i64 w1) rfl (Nat.le_refl _) (by omega) (.inl rfl)⟩
        · injection e2 with e2
          subst e2
          have each : ∀ i, i < len → ∃ q : Tr × Option Addr × Nat × Nat, (∀ j u, [Value.int .i64 q.1.kind, .int .i64 q.1.num, .slice q.2.1 q.2.2.1 q.2.2.2][j]? = some u → W.cell? ((a.add (i * 3)).add j) = some u) ∧ TrAt W q.2.1 q.2.2.1 q.2.2.2 q.1 := by
            intro i hi
            have hb := hx i hi
            rw [List.getElem?_eq_getElem (by omega), Option.bind_eq_some_iff] at hb
            obtain ⟨cs', h1, h2⟩ := hb
            rw [ce] at h1
            obtain ⟨_, hlen, hcell⟩ := World.cells?_some h1
            obtain ⟨t, A, m, c, rfl, hT⟩ := IH n (by omega) cs' _ h2
            refine ⟨(t, A, m, c), fun j u hu => ?_, hT⟩
            have hj : j < 3 := (List.getElem?_eq_some_iff.1 hu).1
            rw [hcell j hj]
            exact hu
          obtain ⟨F, hF⟩ := choose_lt each
          have hlen : ((List.range len).map fun i => (F i).1).length = len := by simp
          refine ⟨.mk kd nm ((List.range len).map fun i => (F i).1), some a, len, cap, rfl, TrAt.mk_ (t := .mk kd nm ((List.range len).map fun i => (F i).1)) (wf_i64 w0) (wf_i64 w1) hlen hlc (by unfold maxLen at hm; exact hm) ?_⟩
          by_cases h0 : len = 0
          · exact .inl h0
          · obtain ⟨b, off, spot⟩ := a
            have hspot : spot = none := by simpa [Addr.add] using World.cell?_spot ((hF 0 (by omega)).1 0 _ rfl)
            subst hspot
            refine .inr ⟨b, off, rfl, fun j hj => ?_⟩
            obtain ⟨h1, h2⟩ := hF j hj
            have e : (Tr.mk kd nm ((List.range len).map fun i => (F i).1)).kids.getD j default = (F j).1 := by
              show ((List.range len).map fun i => (F i).1).getD j default = _
              simp [List.getD, hj]
            rw [e]
            have hc := fun i u hu => (show W.cell? ⟨b, off + j * 3 + i, none⟩ = some u by
              have := h1 i u hu
              rwa [Go.WideShapes.add_plain, Go.WideShapes.add_plain] at this)
            exact ⟨(F j).2.1, (F j).2.2.1, (F j).2.2.2, hc 0 _ rfl, hc 1 _ rfl, hc 2 _ rfl, h2⟩
set_option maxRecDepth 100000 in
theorem open_expr {v : Value} {d : DataW H} {p : List MemPlace} (hv : Value.okWide Tryz.prog W r b0 30 v) (h : DataW.Trod enc Tryz.prog W base spare held 30 v d p) :
    ∃ (t : Tr) (A : Option Addr) (m c : Nat), v = t.val A m c ∧ TrAt W A m c t := by
  obtain ⟨fuel, hf⟩ := h
  obtain ⟨t, A, m, c, hcs, hT⟩ := open_tr fuel _ _ hf
  obtain ⟨vs, rfl, _⟩ := okWide_struct Tryz.underlying30 hv
  refine ⟨t, A, m, c, ?_, hT⟩
  have e : vs.toList = [Value.int .i64 t.kind, .int .i64 t.num, .slice A m c] := hcs
  rw [← Array.toArray_toList (xs := vs), e]
end
end Go.Proofs.YtkpjhjoopdbkaaaGreatDoor
