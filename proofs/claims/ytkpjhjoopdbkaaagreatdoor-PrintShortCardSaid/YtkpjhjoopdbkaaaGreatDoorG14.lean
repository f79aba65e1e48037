/- Joined: Package parse: colour. Printed by gen_paS.py. -/
import Derived.Test.YtkpjhjoopdbkaaaGreatDoorG13
import Derived.Deep.DeepCutAuto
import Derived.Deep.CutBlock
import Derived.StillTailTactics
namespace Go.Proofs.YtkpjhjoopdbkaaaGreatDoor
open Go.RowKit
theorem cols_ty : SlTy Tryz.prog 35 82 7 80 := SlTy.mk (z := .agg #[.string ⟨#[]⟩, .int .i64 0, .int .i64 0, .int .i64 0, .slice none 0 0, .int .i64 0, .int .i64 0]) (by kernel_rfl) (by kernel_rfl) rfl (by decide)
theorem colv_one (k : ColV) : ∀ u ∈ k.cells, u.oneCell' = true := by
  intro u hu
  simp only [ColV.cells, List.mem_cons, List.not_mem_nil, or_false] at hu
  rcases hu with rfl | rfl | rfl | rfl | rfl | rfl | rfl <;> rfl
theorem integer_lo (K : List Kt) (s : Ps) : I64 (integerV K s) := by
  unfold integerV I64
  split
  · have := numb_lo K (stepP s); omega
  · have := numb_lo K s; omega
theorem known_lo {K : List Kt} {l : List ByteArray} (s : Ps) (hl : l.length ≤ 1000000) : I64 (knownV K (findN l) s) := by
  unfold knownV I64
  split
  · have := findN_lo l (nameV K s); omega
  · omega
section
variable {T : List Tok} {en : Int} {g : Nat} {A : Option Addr} {c : Nat} {h : Hs} {s : Ps}
theorem row_keep' {b : Nat} {o : Obj} {H : Nat → Prop} {w W : World} (h : w.heap[b]? = some o) (a : AgH H w W) (hn : ¬ H b) : W.heap[b]? = some o := (a.block b (Array.getElem?_eq_some_iff.1 h).1 hn).trans h
theorem Turned.store {s' : Ps} {w W : World} (hp : PAt T en g A c h s w) (ht : Turned T en g A c h s' w W) (hv : s'.vars = s.vars) {b : Nat} (hb : w.heap.size ≤ b) (hn : b ≠ g) (o : Nat) (u : Value) : Turned T en g A c h s' w (W.setCell ⟨b, o, none⟩ u) :=
  Turned.out hp (Below.refl _ _) ht hv ((AgH.refl _ _).setCell (.inl ⟨hb, hn⟩) u)
end
section
variable {T : List Tok} {en : Int} {g : Nat} {A : Option Addr} {c base : Nat} {h : Hs} {L1 : List ColV} {L2 : List PlV} {L3 : List TkV} {s : Ps}
set_option maxRecDepth 100000 in
set_option maxHeartbeats 16000000 in
theorem pa_colour (w : World) (hN : Hid (NAt T en g A c base h L1 L2 L3 s w)) (hb : Hid (s.cols.length ≤ 1000000)) :
    Calls Tryz.prog 69 #[.pointer (some ⟨g, 0, none⟩)] w fun e w' => e = .returned (.tuple #[]) ∧ NTurn T en g A c base h (colourS (ktOf T) s) w w' := by
  have hp := Lib.hid hN.out.pat
  have HGL := Lib.hid hp.out.blk.lt
  obtain ⟨nm, hnm⟩ : ∃ x, x = nameV (ktOf T) s := ⟨_, rfl⟩
  obtain ⟨s1, hs1⟩ : ∃ x, x = freshS (ktOf T) (hadT (findCol s)) s := ⟨_, rfl⟩
  obtain ⟨s2, hs2⟩ : ∃ x, x = wantP (ktOf T) ⟨#[61]⟩ s1 := ⟨_, rfl⟩
  obtain ⟨R, hR⟩ : ∃ x, x = colourK (ktOf T) (Col.named nm) s2 := ⟨_, rfl⟩
  obtain ⟨z, hz⟩ : ∃ x, x = wantP (ktOf T) ⟨#[59]⟩ R.2 := ⟨_, rfl⟩
  have HCS := Lib.hid (show colourS (ktOf T) s = { z with cols := z.cols ++ [R.1] } by unfold colourS; rw [hz, hR, hs2, hs1, hnm])
  have HM1 := Lib.hid (show Mv (ktOf T) s s1 by rw [hs1]; exact mv_fresh _ s)
  have HM2 := Lib.hid (show Mv (ktOf T) s s2 by rw [hs2]; exact HM1.out.trans (mv_want (by decide) _))
  have HZ := Lib.hid hz
  have HR := Lib.hid hR
  obtain ⟨Q, hQ⟩ : ∃ x, x = colourS (ktOf T) s := ⟨_, rfl⟩
  rw [← hQ] at HCS ⊢
  have CI := Lib.hid (pa_is (g := g) 127 w)
  have CF := Lib.hid (fun W b (hW : PAt T en g A c h s W) (a : AgH (only g) w W) (hb : FBox W b g 127) (hbg : b ≠ g) => (show Calls Tryz.prog 125 #[.pointer (some ⟨g, 0, none⟩), .func (.func 161) #[] #[.pointer (some ⟨b, 0, none⟩)]] W fun e w' => e = .returned (.string nm) ∧ Turned T en g A c h s1 W w' by
    rw [hnm, hs1]; exact pa_fresh_is 127 b (findCol s) W (Lib.hid hW) (Lib.hid (hN.out.fcol a)) (Lib.hid hb) hbg))
  have C2 := Lib.hid (fun W (hW : PAt T en g A c h s1 W) => (show Calls Tryz.prog 74 #[.pointer (some ⟨g, 0, none⟩), .string ⟨#[61]⟩] W fun e w' => e = .returned (.tuple #[]) ∧ Turned T en g A c h s2 W w' by
    rw [hs2]; exact pa_want ⟨#[61]⟩ (by decide) W (Lib.hid hW)))
  have CZ := Lib.hid (fun W (hW : PAt T en g A c h R.2 W) => (show Calls Tryz.prog 74 #[.pointer (some ⟨g, 0, none⟩), .string ⟨#[59]⟩] W fun e w' => e = .returned (.tuple #[]) ∧ Turned T en g A c h z W w' by
    rw [hz]; exact pa_want ⟨#[59]⟩ (by decide) W (Lib.hid hW)))
  clear hnm hs1 hs2 hR hz hQ
  go_enter Tryz.func69, Tryz.ntmps69
  go_wp2_with fail
  refine CI.out.mono ?_
  rintro e w1 ⟨rfl, hB1, hF1, hL1⟩
  have HB1 := Lib.hid hB1
  have HT0 := Lib.hid (turned_below hp.out hB1)
  have HF1 := Lib.hid hF1
  obtain ⟨b, hbb⟩ : ∃ b, b = w.heap.size := ⟨_, rfl⟩
  rw [← hbb] at HF1
  have HBB := Lib.hid hbb
  have HBN := Lib.hid (show b ≠ g by have := HGL.out; omega)
  rw [← hbb]
  clear hB1 hF1 hL1 hbb CI
  go_wp2_with fail
  refine (CF.out w1 b HT0.out.1 HT0.out.2 HF1.out HBN.out).mono ?_
  rintro e w2 ⟨rfl, hT⟩
  have HT2 := Lib.hid (HT0.out.then_ hT)
  obtain ⟨w3, hw3⟩ : ∃ y, y = w2.alloc (.cells #[.string nm, .int .i64 0, .int .i64 0, .int .i64 0, .slice none 0 0, .int .i64 0, .int .i64 0] 82) := ⟨_, rfl⟩
  obtain ⟨g2, hg2⟩ : ∃ y, y = w2.heap.size := ⟨_, rfl⟩
  have R3 := Lib.hid (show w3.heap[g2]? = some (.cells #[.string nm, .int .i64 0, .int .i64 0, .int .i64 0, .slice none 0 0, .int .i64 0, .int .i64 0] 82 (0, 0)) by rw [hw3, hg2]; exact heap_alloc_new w2 _)
  have HT3 := Lib.hid (show Turned T en g A c h s1 w w3 by rw [hw3]; exact HT2.out.below (alrB _ _))
  have HG2 := Lib.hid (show w.heap.size ≤ g2 by rw [hg2]; exact HT2.out.2.size)
  have HN2 := Lib.hid (show g2 ≠ g by have := HG2.out; have := HGL.out; omega)
  have HW3 := Lib.hid hw3.symm
  have HGG := Lib.hid hg2.symm
  clear hT hw3 hg2 CF
  go_upto_region 1 with fail
  rw [HW3.out, HGG.out]
  go_wp2_with fail
  refine (C2.out w3 HT3.out.1).mono ?_
  rintro e w4 ⟨rfl, hT⟩
  have HT4 := Lib.hid (HT3.out.then_ hT)
  have R4 := Lib.hid (row_keep R3.out hT.2 HN2.out)
  clear hT R3 C2
  go_upto_block 0 with fail
  go_cut [] (fun wx => ∃ k : ColV, Hid (k.c = R.1) ∧ Hid (wx.heap[g2]? = some (.cells k.cells.toArray 82 (0, 0))) ∧ Hid (Turned T en g A c h R.2 w wx) ∧ Hid (Mv (ktOf T) s R.2) ∧ Hid (HeldH (NX base g h) wx k.at_))
  case first =>
    have HRD := Lib.hid (show R = if takeB (ktOf T) ⟨#[105, 110, 116]⟩ s2 then ({ Col.named nm with kind := 1, lo := integerV (ktOf T) (stepP s2), hi := integerV (ktOf T) (wantP (ktOf T) ⟨#[46, 46]⟩ (integerS (ktOf T) (stepP s2))) }, integerS (ktOf T) (wantP (ktOf T) ⟨#[46, 46]⟩ (integerS (ktOf T) (stepP s2))))
      else if takeB (ktOf T) ⟨#[101, 110, 117, 109]⟩ s2 then ({ Col.named nm with kind := 2, names := (namesP (ktOf T) (((ktOf T)).length + 1) [] (stepP s2)).1 }, (namesP (ktOf T) (((ktOf T)).length + 1) [] (stepP s2)).2)
      else if takeB (ktOf T) ⟨#[112, 97, 105, 114]⟩ s2 then ({ Col.named nm with kind := 3, first := knownV (ktOf T) (findCol (stepP s2)) (stepP s2), then_ := knownV (ktOf T) (findCol (wantP (ktOf T) ⟨#[44]⟩ (knownS (ktOf T) (findCol (stepP s2)) (stepP s2)))) (wantP (ktOf T) ⟨#[44]⟩ (knownS (ktOf T) (findCol (stepP s2)) (stepP s2))) }, knownS (ktOf T) (findCol (wantP (ktOf T) ⟨#[44]⟩ (knownS (ktOf T) (findCol (stepP s2)) (stepP s2)))) (wantP (ktOf T) ⟨#[44]⟩ (knownS (ktOf T) (findCol (stepP s2)) (stepP s2))))
      else (Col.named nm, wrongP 4 s2) from HR.out)
    have CT1 := Lib.hid (fun W (hW : PAt T en g A c h s2 W) => pa_take ⟨#[105, 110, 116]⟩ (by decide) W (Lib.hid hW))
    have TT1 := Lib.hid (fun e => take_true (x := ⟨#[105, 110, 116]⟩) (K := (ktOf T)) (s := s2) e)
    have TF1 := Lib.hid (fun e => take_false (x := ⟨#[105, 110, 116]⟩) (K := (ktOf T)) (s := s2) e)
    obtain ⟨t1, ht1⟩ : ∃ t, t = takeB (ktOf T) ⟨#[105, 110, 116]⟩ s2 := ⟨_, rfl⟩
    obtain ⟨P1, hP1⟩ : ∃ P, P = takeP (ktOf T) ⟨#[105, 110, 116]⟩ s2 := ⟨_, rfl⟩
    rw [← ht1] at CT1 TT1 TF1 HRD
    rw [← hP1] at CT1 TT1 TF1
    have HB1t := Lib.hid ht1
    clear ht1 hP1
    have CT2 := Lib.hid (fun W (hW : PAt T en g A c h s2 W) => pa_take ⟨#[101, 110, 117, 109]⟩ (by decide) W (Lib.hid hW))
    have TT2 := Lib.hid (fun e => take_true (x := ⟨#[101, 110, 117, 109]⟩) (K := (ktOf T)) (s := s2) e)
    have TF2 := Lib.hid (fun e => take_false (x := ⟨#[101, 110, 117, 109]⟩) (K := (ktOf T)) (s := s2) e)
    obtain ⟨t2, ht2⟩ : ∃ t, t = takeB (ktOf T) ⟨#[101, 110, 117, 109]⟩ s2 := ⟨_, rfl⟩
    obtain ⟨P2, hP2⟩ : ∃ P, P = takeP (ktOf T) ⟨#[101, 110, 117, 109]⟩ s2 := ⟨_, rfl⟩
    rw [← ht2] at CT2 TT2 TF2 HRD
    rw [← hP2] at CT2 TT2 TF2
    have HB2t := Lib.hid ht2
    clear ht2 hP2
    have CT3 := Lib.hid (fun W (hW : PAt T en g A c h s2 W) => pa_take ⟨#[112, 97, 105, 114]⟩ (by decide) W (Lib.hid hW))
    have TT3 := Lib.hid (fun e => take_true (x := ⟨#[112, 97, 105, 114]⟩) (K := (ktOf T)) (s := s2) e)
    have TF3 := Lib.hid (fun e => take_false (x := ⟨#[112, 97, 105, 114]⟩) (K := (ktOf T)) (s := s2) e)
    obtain ⟨t3, ht3⟩ : ∃ t, t = takeB (ktOf T) ⟨#[112, 97, 105, 114]⟩ s2 := ⟨_, rfl⟩
    obtain ⟨P3, hP3⟩ : ∃ P, P = takeP (ktOf T) ⟨#[112, 97, 105, 114]⟩ s2 := ⟨_, rfl⟩
    rw [← ht3] at CT3 TT3 TF3 HRD
    rw [← hP3] at CT3 TT3 TF3
    have HB3t := Lib.hid ht3
    clear ht3 hP3
    go_wp2_with fail
    refine (CT1.out _ HT4.out.1).mono ?_
    rintro e w5 ⟨rfl, hT⟩
    have R5 := Lib.hid (row_keep R4.out hT.2 HN2.out)
    have HT5 := Lib.hid (HT4.out.then_ hT)
    clear hT
    cases t1 with
    | true =>
      have HRE := Lib.hid (HRD.out.trans (if_pos rfl))
      rw [TT1.out rfl] at HT5
      have hl1 := take_lt (x := ⟨#[105, 110, 116]⟩) (by decide) HB1t.out.symm
      obtain ⟨s3, hs3⟩ : ∃ y, y = stepP s2 := ⟨_, rfl⟩
      have HM3 := Lib.hid (show Mv (ktOf T) s s3 by rw [hs3]; exact HM2.out.trans (mv_step hl1.2))
      rw [← hs3] at HRE HT5
      obtain ⟨lo, hlo⟩ : ∃ y, y = integerV (ktOf T) s3 := ⟨_, rfl⟩
      obtain ⟨s4, hs4⟩ : ∃ y, y = integerS (ktOf T) s3 := ⟨_, rfl⟩
      rw [← hlo, ← hs4] at HRE
      obtain ⟨s5, hs5⟩ : ∃ y, y = wantP (ktOf T) ⟨#[46, 46]⟩ s4 := ⟨_, rfl⟩
      rw [← hs5] at HRE
      obtain ⟨hi, hhi⟩ : ∃ y, y = integerV (ktOf T) s5 := ⟨_, rfl⟩
      obtain ⟨s6, hs6⟩ : ∃ y, y = integerS (ktOf T) s5 := ⟨_, rfl⟩
      rw [← hhi, ← hs6] at HRE
      have HM4 := Lib.hid (show Mv (ktOf T) s s4 by rw [hs4]; exact HM3.out.trans (mv_integer _))
      have HM5 := Lib.hid (show Mv (ktOf T) s s5 by rw [hs5]; exact HM4.out.trans (mv_want (by decide) _))
      have HM6 := Lib.hid (show Mv (ktOf T) s s6 by rw [hs6]; exact HM5.out.trans (mv_integer _))
      have HLO := Lib.hid (show I64 lo by rw [hlo]; exact integer_lo _ _)
      have HHI := Lib.hid (show I64 hi by rw [hhi]; exact integer_lo _ _)
      have CA := Lib.hid (fun W (hW : PAt T en g A c h s3 W) => (show Calls Tryz.prog 128 #[.pointer (some ⟨g, 0, none⟩)] W fun e w' => e = .returned (.int .i64 lo) ∧ Turned T en g A c h s4 W w' by rw [hlo, hs4]; exact pa_integer W (Lib.hid hW)))
      have CB := Lib.hid (fun W (hW : PAt T en g A c h s4 W) => (show Calls Tryz.prog 74 #[.pointer (some ⟨g, 0, none⟩), .string ⟨#[46, 46]⟩] W fun e w' => e = .returned (.tuple #[]) ∧ Turned T en g A c h s5 W w' by rw [hs5]; exact pa_want _ (by decide) W (Lib.hid hW)))
      have CC := Lib.hid (fun W (hW : PAt T en g A c h s5 W) => (show Calls Tryz.prog 128 #[.pointer (some ⟨g, 0, none⟩)] W fun e w' => e = .returned (.int .i64 hi) ∧ Turned T en g A c h s6 W w' by rw [hhi, hs6]; exact pa_integer W (Lib.hid hW)))
      clear hs3 hlo hs4 hs5 hhi hs6 hl1
      have c1 : w5.cell? ⟨g2, 1, none⟩ = some (.int .i64 0) := row_cell R5.out 1 _ rfl
      have f1 := frozen_row (o := 1) R5.out
      go_upto_region 5 with fail
      obtain ⟨w6, hw6⟩ : ∃ y, y = w5.setCell ⟨g2, 1, none⟩ (.int .i64 1) := ⟨_, rfl⟩
      rw [← hw6]
      have HT6 := Lib.hid (show Turned T en g A c h s3 w w6 by rw [hw6]; exact Turned.store hp.out HT5.out HM3.out.vars HG2.out HN2.out _ _)
      have R6 := Lib.hid (show w6.heap[g2]? = some (.cells #[.string nm, .int .i64 1, .int .i64 0, .int .i64 0, .slice none 0 0, .int .i64 0, .int .i64 0] 82 (0, 0)) by rw [hw6]; exact row_set R5.out rfl)
      clear hw6 c1 f1
      go_wp2_with fail
      refine (CA.out w6 HT6.out.1).mono ?_
      rintro e w7 ⟨rfl, hT⟩
      have HT7 := Lib.hid (HT6.out.then_ hT)
      have R7 := Lib.hid (row_keep R6.out hT.2 HN2.out)
      clear hT
      have c2 : w7.cell? ⟨g2, 2, none⟩ = some (.int .i64 0) := row_cell R7.out 2 _ rfl
      have f2 := frozen_row (o := 2) R7.out
      go_upto_region 6 with fail
      obtain ⟨w8, hw8⟩ : ∃ y, y = w7.setCell ⟨g2, 2, none⟩ (.int .i64 lo) := ⟨_, rfl⟩
      rw [← hw8]
      have HT8 := Lib.hid (show Turned T en g A c h s4 w w8 by rw [hw8]; exact Turned.store hp.out HT7.out HM4.out.vars HG2.out HN2.out _ _)
      have R8 := Lib.hid (show w8.heap[g2]? = some (.cells #[.string nm, .int .i64 1, .int .i64 lo, .int .i64 0, .slice none 0 0, .int .i64 0, .int .i64 0] 82 (0, 0)) by rw [hw8]; exact row_set R7.out rfl)
      clear hw8 c2 f2
      go_wp2_with fail
      refine (CB.out w8 HT8.out.1).mono ?_
      rintro e w9 ⟨rfl, hT⟩
      have HT9 := Lib.hid (HT8.out.then_ hT)
      have R9 := Lib.hid (row_keep R8.out hT.2 HN2.out)
      clear hT
      go_wp2_with fail
      refine (CC.out w9 HT9.out.1).mono ?_
      rintro e w10 ⟨rfl, hT⟩
      have HT10 := Lib.hid (HT9.out.then_ hT)
      have R10 := Lib.hid (row_keep R9.out hT.2 HN2.out)
      clear hT
      have c3 : w10.cell? ⟨g2, 3, none⟩ = some (.int .i64 0) := row_cell R10.out 3 _ rfl
      have f3 := frozen_row (o := 3) R10.out
      go_wp2
      go_meet
      refine ⟨⟨R.1, none, 0, 0⟩, Lib.hid rfl, ?_, ?_, ?_, ?_⟩
      · rw [HRE.out]; exact Lib.hid (row_set R10.out rfl)
      · rw [HRE.out]; exact Lib.hid (Turned.store hp.out HT10.out HM6.out.vars HG2.out HN2.out _ _)
      · rw [HRE.out]; exact HM6
      · rw [HRE.out]
        have h1 := HLO.out
        have h2 := HHI.out
        exact Lib.hid (fun W _ => ⟨Sl.none_ _ _, by unfold Col.ok I64; simp only [Col.named]; unfold I64 at h1 h2; omega⟩)
    | false =>
      have HRD2 := Lib.hid (HRD.out.trans (if_neg (by decide)))
      rw [TF1.out rfl] at HT5
      go_wp2_with fail
      refine (CT2.out _ HT5.out.1).mono ?_
      rintro e w6 ⟨rfl, hT⟩
      have R6 := Lib.hid (row_keep R5.out hT.2 HN2.out)
      have HT6 := Lib.hid (HT5.out.then_ hT)
      clear hT
      cases t2 with
      | true =>
        have HRE := Lib.hid (HRD2.out.trans (if_pos rfl))
        rw [TT2.out rfl] at HT6
        have hl1 := take_lt (x := ⟨#[101, 110, 117, 109]⟩) (by decide) HB2t.out.symm
        obtain ⟨s3, hs3⟩ : ∃ y, y = stepP s2 := ⟨_, rfl⟩
        have HM3 := Lib.hid (show Mv (ktOf T) s s3 by rw [hs3]; exact HM2.out.trans (mv_step hl1.2))
        rw [← hs3] at HRE HT6
        obtain ⟨RR, hRR⟩ : ∃ y, y = namesP (ktOf T) (T.length + 1) [] s3 := ⟨_, rfl⟩
        rw [ktOf_len, ← hRR] at HRE
        have HRR := Lib.hid hRR.symm
        clear hs3 hl1 hRR
        have c1 : w6.cell? ⟨g2, 1, none⟩ = some (.int .i64 0) := row_cell R6.out 1 _ rfl
        have f1 := frozen_row (o := 1) R6.out
        go_upto_region 10 with fail
        obtain ⟨w7, hw7⟩ : ∃ y, y = w6.setCell ⟨g2, 1, none⟩ (.int .i64 2) := ⟨_, rfl⟩
        rw [← hw7]
        have HT7 := Lib.hid (show Turned T en g A c h s3 w w7 by rw [hw7]; exact Turned.store hp.out HT6.out HM3.out.vars HG2.out HN2.out _ _)
        have R7 := Lib.hid (show w7.heap[g2]? = some (.cells #[.string nm, .int .i64 2, .int .i64 0, .int .i64 0, .slice none 0 0, .int .i64 0, .int .i64 0] 82 (0, 0)) by rw [hw7]; exact row_set R6.out rfl)
        have HTS := Lib.hid hp.out.small.len
        clear hw7 c1 f1
        go_wp2_with fail
        go_loopg [3] (T.length + 1) (fun n v3 wr => ∃ (m : Bool) (l : List ByteArray) (sx : Ps) (Ax : Option Addr) (nx cx : Nat), v3 = .bool m ∧ Hid (wr.heap[g2]? = some (.cells #[.string nm, .int .i64 2, .int .i64 0, .int .i64 0, .slice Ax nx cx, .int .i64 0, .int .i64 0] 82 (0, 0))) ∧ Hid (wr.ownsRow (g2 + 1) 9 1 (.slice Ax nx cx) l.length (strCells l)) ∧ Hid (Turned T en g A c h sx w wr) ∧ Hid (Mv (ktOf T) s sx) ∧ Hid (l.length + n = T.length + 1) ∧ Hid (if m then namesP (ktOf T) n l sx = RR ∧ T.length + 1 ≤ sx.at_ + n else RR = (l, sx)))
        case atStart => exact ⟨true, [], s3, none, 0, 0, rfl, R7, Lib.hid (World.ownsRow_nil _ _ _ _), HT7, HM3, Lib.hid (by simp), Lib.hid ⟨HRR.out, by omega⟩⟩
        case round =>
          obtain ⟨m, l, sx, Ax, nx, cx, rfl, hR, hO, hT, hM, hln, hsp⟩ := hrel
          cases m with
          | false =>
            have HRZ := Lib.hid (show RR = (l, sx) from hsp.out)
            go_wp2
            go_meet
            have hnx : nx = l.length := by
              obtain ⟨A9, c9, e9, _⟩ := own_form hO.out
              injection e9
            refine ⟨⟨R.1, Ax, nx, cx⟩, Lib.hid rfl, ?_, ?_, ?_, ?_⟩
            · rw [HRE.out]; exact hR
            · rw [HRE.out, HRZ.out]; exact hT
            · rw [HRE.out, HRZ.out]; exact hM
            · rw [HRE.out, HRZ.out]
              have h1 := held_own (H := NX base g h) hO.out fun i hi e => by
                have hi2 := (hO.out.lt i hi).1
                have := HG2.out
                have := HGL.out
                have := hN.out.lb
                rcases e with e | e | e | e | e | e
                · omega
                · omega
                · have := (hN.out.lt1 e).2; omega
                · have := (hN.out.lt2 e).2; omega
                · have := (hN.out.lt3 e).2; omega
                · have := (hN.out.lt4 e).2; omega
              subst hnx
              exact Lib.hid (fun W a => ⟨h1 W a, by unfold Col.ok I64; simp only [Col.named]; omega⟩)
          | true =>
            obtain ⟨hsp1, hsp2⟩ := hsp.out
            obtain ⟨n, rfl⟩ : ∃ n, gk = n + 1 := ⟨gk - 1, by have := hT.out.1.at_; omega⟩
            obtain ⟨nv, hnv⟩ : ∃ y, y = nameV (ktOf T) sx := ⟨_, rfl⟩
            obtain ⟨sf, hsf⟩ : ∃ y, y = freshS (ktOf T) nobody sx := ⟨_, rfl⟩
            have HMF := Lib.hid (show Mv (ktOf T) s sf by rw [hsf]; exact hM.out.trans (mv_fresh _ _))
            have hat : sx.at_ ≤ sf.at_ := by rw [hsf]; exact (mv_fresh (K := (ktOf T)) nobody sx).le
            have CFR := Lib.hid (fun W (hW : PAt T en g A c h sx W) => (show Calls Tryz.prog 125 #[.pointer (some ⟨g, 0, none⟩), .func (.func 129) #[] #[]] W fun e w' => e = .returned (.string nv) ∧ Turned T en g A c h sf W w' by rw [hnv, hsf]; exact pa_fresh_nobody W (Lib.hid hW)))
            have CTK := Lib.hid (fun W (hW : PAt T en g A c h sf W) => pa_take ⟨#[44]⟩ (by decide) W (Lib.hid hW))
            rw [namesP, ← hnv, ← hsf] at hsp1
            obtain ⟨tk, htk⟩ : ∃ y, y = takeB (ktOf T) ⟨#[44]⟩ sf := ⟨_, rfl⟩
            obtain ⟨sk, hsk⟩ : ∃ y, y = takeP (ktOf T) ⟨#[44]⟩ sf := ⟨_, rfl⟩
            rw [← htk] at CTK hsp1
            rw [← hsk] at CTK
            have HMK := Lib.hid (show Mv (ktOf T) s sk by rw [hsk]; exact HMF.out.trans (mv_take (by decide) _))
            have HNX := Lib.hid (show if tk then namesP (ktOf T) n (l ++ [nv]) sk = RR ∧ T.length + 1 ≤ sk.at_ + n else RR = (l ++ [nv], sk) by
              cases tk with
              | true =>
                have e : sk = stepP sf := by rw [hsk]; exact take_true htk.symm
                rw [e]
                refine ⟨hsp1, ?_⟩
                have : (stepP sf).at_ = sf.at_ + 1 := rfl
                omega
              | false =>
                have e : sk = sf := by rw [hsk]; exact take_false htk.symm
                rw [e]
                exact hsp1.symm)
            have hTD : Turned T en g A c h sx w wr.drew := hT.out.below (below_drewN' (Below.refl _ wr) 1)
            have HTD := Lib.hid hTD
            have HPD := Lib.hid hTD.1
            have HLN := Lib.hid (show l.length + 1 ≤ 1000001 by have := hln.out; have := HTS.out; omega)
            have HL2 := Lib.hid (show (l ++ [nv]).length + n = T.length + 1 by have := hln.out; simp; omega)
            have q4 : wr.cell? ⟨g2, 4, none⟩ = some (.slice Ax nx cx) := row_cell hR.out 4 _ rfl
            have HGS := Lib.hid (show g2 < wr.heap.size from (Array.getElem?_eq_some_iff.1 hR.out).1)
            have HON := Lib.hid (fun i (e : (Value.slice Ax nx cx).ownBlock = some i) => hO.out.lt i e)
            clear hnv hsf htk hsk hsp1 hsp2 hat hTD
            go_wp2_with fail
            go_region_law (first
              | (refine step_append_sl strs_ty rfl (.tmp 34) (.tmp 37) rfl (g2 + 1) rfl (by exact HO5.out.alloc _) rfl (by exact Sl.new _ _ [.string nv] 1 1 rfl (by omega)) (by intro u hu; rw [List.mem_singleton.1 hu]; rfl) (by have := HLN.out; omega) (by have := HLN.out; omega) (by have := hs5.out; simp; omega) ?_; intro v9 w9 hown9 hg9 hat9; obtain ⟨A4, c4, rfl, _, _⟩ := own_form hown9
                 have a9 := ((AgH.refl (fun i => (Value.slice Ax nx cx).ownBlock = some i) _).alloc _).grown hg9 fun i e _ => e
                 have ho9 := row_keep' hR5.out a9 (fun e => by have := (HON.out g2 e).1; omega)
                 have o9 : w9.cell? ⟨g2, 4, none⟩ = some (.slice Ax nx cx) := row_cell ho9 4 _ rfl
                 have f9 : w9.frozen? ⟨g2, 4, none⟩ = false := frozen_row ho9
                 have HA9 := Lib.hid a9
                 have HO9 := Lib.hid hown9
                 have HR9 := Lib.hid ho9
                 clear hown9 hg9 hat9 ho9 a9)
              | (go_simp; go_at_call 125; refine (CFR.out _ HPD.out).mono ?_; rintro e w5 ⟨rfl, hS⟩
                 have hT5 := Lib.hid (HTD.out.then_ hS)
                 have hR5 := Lib.hid (row_keep (w := wr.drew) hR.out hS.2 HN2.out)
                 have HO5 := Lib.hid (own_keep (w := wr.drew) hO.out hS.2 (fun i e => by have := (HON.out i e).1; have := HG2.out; have := HGL.out; show i ≠ g; omega))
                 have hs5 := Lib.hid (show g2 + 1 ≤ w5.heap.size by have h1 := hS.2.size; have := HGS.out; have h2 : wr.drew.heap.size = wr.heap.size := rfl; omega)
                 have q5 : w5.cell? ⟨g2, 4, none⟩ = some (.slice Ax nx cx) := row_cell hR5.out 4 _ rfl
                 have q5a := fun o => cell_kept (alrB w5 o) q5
                 clear hS))
            all_goals
              have HTT : Hid (Turned T en g A c h sf w (w9.setCell ⟨g2, 4, none⟩ (.slice A4 (l.length + 1) c4))) := Lib.hid (Turned.out hp.out (Below.refl _ _) hT5.out HMF.out.vars ((HA9.out.mono fun i _ e => (by have := (HON.out i e).1; have := HG2.out; have := HGL.out; exact ⟨by omega, by omega⟩)).setCell (p := ⟨g2, 4, none⟩) (.inl ⟨HG2.out, HN2.out⟩) _))
              have HRT : Hid ((w9.setCell ⟨g2, 4, none⟩ (.slice A4 (l.length + 1) c4)).heap[g2]? = some (.cells #[.string nm, .int .i64 2, .int .i64 0, .int .i64 0, .slice A4 (l.length + 1) c4, .int .i64 0, .int .i64 0] 82 (0, 0))) := Lib.hid (row_set HR9.out rfl)
              have HOT : Hid ((w9.setCell ⟨g2, 4, none⟩ (.slice A4 (l.length + 1) c4)).ownsRow (g2 + 1) 9 1 (.slice A4 (l.length + 1) c4) (l ++ [nv]).length (strCells (l ++ [nv]))) := Lib.hid (by
                have h1 : w9.ownsRow (g2 + 1) 9 1 (.slice A4 (l.length + 1) c4) (l ++ [nv]).length (strCells (l ++ [nv])) := by
                  rw [List.length_append, show strCells (l ++ [nv]) = strCells l ++ [Value.string nv] by simp [strCells]]
                  exact HO9.out
                exact own_keep (H := only g2) h1 ((AgH.refl (only g2) _).setCell (p := ⟨g2, 4, none⟩) (.inl rfl) _) fun i e e2 => by have := (h1.lt i e).1; rw [show i = g2 from e2] at this; omega)
              obtain ⟨w10, hw10⟩ : ∃ y, y = w9.setCell ⟨g2, 4, none⟩ (.slice A4 (l.length + 1) c4) := ⟨_, rfl⟩
              rw [← hw10] at HTT HRT HOT ⊢
              clear hw10 o9 f9 q5 q5a q4 HR9 HO9 HA9
              go_wp2_with fail
              refine (CTK.out w10 HTT.out.1).mono ?_
              rintro e w11 ⟨rfl, hS⟩
              have HT11 := Lib.hid (HTT.out.then_ hS)
              have HR11 := Lib.hid (row_keep HRT.out hS.2 HN2.out)
              have HO11 := Lib.hid (own_keep HOT.out hS.2 (fun i e => by have := (HOT.out.lt i e).1; have := HG2.out; have := HGL.out; show i ≠ g; omega))
              clear hS
              go_wp2_with fail
              go_roundg n
              case measure => omega
              case rel => exact ⟨tk, l ++ [nv], sk, A4, l.length + 1, c4, rfl, HR11, HO11, HT11, HMK, HL2, HNX⟩
      | false =>
        have HRD3 := Lib.hid (HRD2.out.trans (if_neg (by decide)))
        rw [TF2.out rfl] at HT6
        go_wp2_with fail
        refine (CT3.out _ HT6.out.1).mono ?_
        rintro e w7 ⟨rfl, hT⟩
        have R7 := Lib.hid (row_keep R6.out hT.2 HN2.out)
        have HT7 := Lib.hid (HT6.out.then_ hT)
        clear hT
        cases t3 with
        | true =>
          have HRE := Lib.hid (HRD3.out.trans (if_pos rfl))
          rw [TT3.out rfl] at HT7
          have hl1 := take_lt (x := ⟨#[112, 97, 105, 114]⟩) (by decide) HB3t.out.symm
          obtain ⟨s3, hs3⟩ : ∃ y, y = stepP s2 := ⟨_, rfl⟩
          have HM3 := Lib.hid (show Mv (ktOf T) s s3 by rw [hs3]; exact HM2.out.trans (mv_step hl1.2))
          rw [← hs3] at HRE HT7
          obtain ⟨fi, hfi⟩ : ∃ y, y = knownV (ktOf T) (findCol s3) s3 := ⟨_, rfl⟩
          obtain ⟨s4, hs4⟩ : ∃ y, y = knownS (ktOf T) (findCol s3) s3 := ⟨_, rfl⟩
          rw [← hfi, ← hs4] at HRE
          obtain ⟨s5, hs5⟩ : ∃ y, y = wantP (ktOf T) ⟨#[44]⟩ s4 := ⟨_, rfl⟩
          rw [← hs5] at HRE
          obtain ⟨th, hth⟩ : ∃ y, y = knownV (ktOf T) (findCol s5) s5 := ⟨_, rfl⟩
          obtain ⟨s6, hs6⟩ : ∃ y, y = knownS (ktOf T) (findCol s5) s5 := ⟨_, rfl⟩
          rw [← hth, ← hs6] at HRE
          have HM4 := Lib.hid (show Mv (ktOf T) s s4 by rw [hs4]; exact HM3.out.trans (mv_known _ _))
          have HM5 := Lib.hid (show Mv (ktOf T) s s5 by rw [hs5]; exact HM4.out.trans (mv_want (by decide) _))
          have HM6 := Lib.hid (show Mv (ktOf T) s s6 by rw [hs6]; exact HM5.out.trans (mv_known _ _))
          have HFI := Lib.hid (show I64 fi by rw [hfi]; exact known_lo s3 (by rw [List.length_map, HM3.out.cols]; exact hb.out))
          have HTH := Lib.hid (show I64 th by rw [hth]; exact known_lo s5 (by rw [List.length_map, HM5.out.cols]; exact hb.out))
          have CA := Lib.hid (fun W (hW : PAt T en g A c h s3 W) (a : AgH (only g) w W) => (show Calls Tryz.prog 72 #[.pointer (some ⟨g, 0, none⟩), .func (.func 127) #[.pointer (some ⟨g, 0, none⟩)] #[]] W fun e w' => e = .returned (.int .i64 fi) ∧ Turned T en g A c h s4 W w' by
            rw [hfi, hs4]; exact pa_known 127 (findCol s3) W (Lib.hid hW) (Lib.hid (finds_col W (by rw [HM3.out.cols]; exact hN.out.held.1.go a)))))
          have CB := Lib.hid (fun W (hW : PAt T en g A c h s4 W) => (show Calls Tryz.prog 74 #[.pointer (some ⟨g, 0, none⟩), .string ⟨#[44]⟩] W fun e w' => e = .returned (.tuple #[]) ∧ Turned T en g A c h s5 W w' by rw [hs5]; exact pa_want _ (by decide) W (Lib.hid hW)))
          have CC := Lib.hid (fun W (hW : PAt T en g A c h s5 W) (a : AgH (only g) w W) => (show Calls Tryz.prog 72 #[.pointer (some ⟨g, 0, none⟩), .func (.func 127) #[.pointer (some ⟨g, 0, none⟩)] #[]] W fun e w' => e = .returned (.int .i64 th) ∧ Turned T en g A c h s6 W w' by
            rw [hth, hs6]; exact pa_known 127 (findCol s5) W (Lib.hid hW) (Lib.hid (finds_col W (by rw [HM5.out.cols]; exact hN.out.held.1.go a)))))
          clear hs3 hfi hs4 hs5 hth hs6 hl1
          have c1 : w7.cell? ⟨g2, 1, none⟩ = some (.int .i64 0) := row_cell R7.out 1 _ rfl
          have f1 := frozen_row (o := 1) R7.out
          go_upto_region 16 with fail
          obtain ⟨w8, hw8⟩ : ∃ y, y = w7.setCell ⟨g2, 1, none⟩ (.int .i64 3) := ⟨_, rfl⟩
          rw [← hw8]
          have HT8 := Lib.hid (show Turned T en g A c h s3 w w8 by rw [hw8]; exact Turned.store hp.out HT7.out HM3.out.vars HG2.out HN2.out _ _)
          have R8 := Lib.hid (show w8.heap[g2]? = some (.cells #[.string nm, .int .i64 3, .int .i64 0, .int .i64 0, .slice none 0 0, .int .i64 0, .int .i64 0] 82 (0, 0)) by rw [hw8]; exact row_set R7.out rfl)
          clear hw8 c1 f1
          go_wp2_with fail
          refine (CA.out w8 HT8.out.1 HT8.out.2).mono ?_
          rintro e w9 ⟨rfl, hT⟩
          have HT9 := Lib.hid (HT8.out.then_ hT)
          have R9 := Lib.hid (row_keep R8.out hT.2 HN2.out)
          clear hT
          have c5 : w9.cell? ⟨g2, 5, none⟩ = some (.int .i64 0) := row_cell R9.out 5 _ rfl
          have f5 := frozen_row (o := 5) R9.out
          go_upto_region 17 with fail
          obtain ⟨w10, hw10⟩ : ∃ y, y = w9.setCell ⟨g2, 5, none⟩ (.int .i64 fi) := ⟨_, rfl⟩
          rw [← hw10]
          have HT10 := Lib.hid (show Turned T en g A c h s4 w w10 by rw [hw10]; exact Turned.store hp.out HT9.out HM4.out.vars HG2.out HN2.out _ _)
          have R10 := Lib.hid (show w10.heap[g2]? = some (.cells #[.string nm, .int .i64 3, .int .i64 0, .int .i64 0, .slice none 0 0, .int .i64 fi, .int .i64 0] 82 (0, 0)) by rw [hw10]; exact row_set R9.out rfl)
          clear hw10 c5 f5
          go_wp2_with fail
          refine (CB.out w10 HT10.out.1).mono ?_
          rintro e w11 ⟨rfl, hT⟩
          have HT11 := Lib.hid (HT10.out.then_ hT)
          have R11 := Lib.hid (row_keep R10.out hT.2 HN2.out)
          clear hT
          go_wp2_with fail
          refine (CC.out w11 HT11.out.1 HT11.out.2).mono ?_
          rintro e w12 ⟨rfl, hT⟩
          have HT12 := Lib.hid (HT11.out.then_ hT)
          have R12 := Lib.hid (row_keep R11.out hT.2 HN2.out)
          clear hT
          have c6 : w12.cell? ⟨g2, 6, none⟩ = some (.int .i64 0) := row_cell R12.out 6 _ rfl
          have f6 := frozen_row (o := 6) R12.out
          go_wp2
          go_meet
          refine ⟨⟨R.1, none, 0, 0⟩, Lib.hid rfl, ?_, ?_, ?_, ?_⟩
          · rw [HRE.out]; exact Lib.hid (row_set R12.out rfl)
          · rw [HRE.out]; exact Lib.hid (Turned.store hp.out HT12.out HM6.out.vars HG2.out HN2.out _ _)
          · rw [HRE.out]; exact HM6
          · rw [HRE.out]
            have h1 := HFI.out
            have h2 := HTH.out
            exact Lib.hid (fun W _ => ⟨Sl.none_ _ _, by unfold Col.ok I64; simp only [Col.named]; unfold I64 at h1 h2; omega⟩)
        | false =>
          have HRE := Lib.hid (HRD3.out.trans (if_neg (by decide)))
          rw [TF3.out rfl] at HT7
          have HM6 := Lib.hid (HM2.out.trans (mv_wrong 4 s2))
          go_wp2_with fail
          refine (pa_wrong 4 (by decide) w7 (Lib.hid HT7.out.1)).mono ?_
          rintro e w8 ⟨rfl, hT⟩
          have HT8 := Lib.hid (HT7.out.then_ hT)
          have R8 := Lib.hid (row_keep R7.out hT.2 HN2.out)
          clear hT
          go_wp2
          go_meet
          refine ⟨⟨R.1, none, 0, 0⟩, Lib.hid rfl, ?_, ?_, ?_, ?_⟩
          · rw [HRE.out]; exact Lib.hid R8.out
          · rw [HRE.out]; exact HT8
          · rw [HRE.out]; exact HM6
          · rw [HRE.out]
            exact Lib.hid (fun W _ => ⟨Sl.none_ _ _, by unfold Col.ok I64; simp only [Col.named]; omega⟩)
  case rest =>
    obtain ⟨k, hk, hR2, hT, hM, hH⟩ := hcut
    go_wp2_with fail
    refine (CZ.out _ hT.out.1).mono ?_
    rintro e w8 ⟨rfl, hT8⟩
    have HT8 := Lib.hid (hT.out.then_ hT8)
    have HMZ := Lib.hid (show Mv (ktOf T) s z by rw [HZ.out]; exact hM.out.trans (mv_want (by decide) _))
    have N8 := hN.out.turn HT8.out HMZ.out
    have N8d : Hid (NAt T en g A c base h L1 L2 L3 z w8.drew) := Lib.hid (N8.turn (turned_below N8.pat (below_drewN' (Below.refl _ w8) 1)) (Mv.refl _))
    have HX8 : Hid (HeldH (NX base g h) w8.drew k.at_) := Lib.hid ((hH.out.keep hT8.2 fun i _ e => .inr (.inl e)).keep (H' := fun _ => False) (AgH.of_below (below_drewN' (Below.refl _ w8) 1)) fun _ _ e => e.elim)
    have R8 := row_keep hR2.out hT8.2 HN2.out
    have HR8 := Lib.hid R8
    have HLB := Lib.hid N8.lb
    have HLL := Lib.hid (show L1.length ≤ 1000000 by have := hb.out; rw [hN.out.e1, List.length_map] at this; exact this)
    have b5 := N8.blk.c5
    have fb := N8.blk.froz 5
    have HOW := Lib.hid N8.r1.own
    have HGB := Lib.hid N8.gb
    have hl5 : h.n1 = L1.length := by
      obtain ⟨A9, c9, e9, _⟩ := own_form HOW.out
      injection e9
    have HL5 := Lib.hid hl5
    have c0 : w8.cell? ⟨g2, 0, none⟩ = some (.string k.c.name) := row_cell R8 0 _ rfl
    have c1 : w8.cell? ⟨g2, 1, none⟩ = some (.int .i64 k.c.kind) := row_cell R8 1 _ rfl
    have c2 : w8.cell? ⟨g2, 2, none⟩ = some (.int .i64 k.c.lo) := row_cell R8 2 _ rfl
    have c3 : w8.cell? ⟨g2, 3, none⟩ = some (.int .i64 k.c.hi) := row_cell R8 3 _ rfl
    have c4 : w8.cell? ⟨g2, 4, none⟩ = some (.slice k.A k.n k.d) := row_cell R8 4 _ rfl
    have c5 : w8.cell? ⟨g2, 5, none⟩ = some (.int .i64 k.c.first) := row_cell R8 5 _ rfl
    have c6 : w8.cell? ⟨g2, 6, none⟩ = some (.int .i64 k.c.then_) := row_cell R8 6 _ rfl
    have b5a := fun o => cell_kept (alrB w8 o) b5
    have ca := fun o j u (hu : w8.cell? ⟨g2, j, none⟩ = some u) => cell_kept (alrB w8 o) hu
    clear hT8 N8 R8 hl5 ca
    go_wp2_with fail
    go_region_law (first
      | (refine step_append_sl cols_ty rfl (.tmp 63) (.tmp 65) rfl base rfl (by first | exact own_drew (HOW.out.alloc _) | exact (own_drew HOW.out).alloc _ | exact HOW.out.alloc _) rfl (by exact Sl.new _ _ [.string k.c.name, .int .i64 k.c.kind, .int .i64 k.c.lo, .int .i64 k.c.hi, .slice k.A k.n k.d, .int .i64 k.c.first, .int .i64 k.c.then_] 1 7 rfl (by omega)) (colv_one k) (by have := HLL.out; omega) (by have := HLL.out; omega) (by have := HLB.out; simp; omega) ?_; intro v9 w9 hown9 hg9 hat9; obtain ⟨A4, c4, rfl, _, _⟩ := own_form hown9
         have P9 := (N8d.out.blk.below (alrB _ _)).keep ((AgH.refl _ _).grown (H := fun i => h.V1.ownBlock = some i) hg9 fun i e _ => e) N8d.out.ne1
         have o9 := P9.c5
         have f9 := P9.froz 5
         have HST := Lib.hid (N8d.out.push1 _ k HX8.out hown9 hg9 hat9)
         clear hown9 hg9 hat9 P9))
    all_goals
      go_wp2
      refine bodyPost_end (results_none rfl _ _ _) rfl ⟨rfl, ?_⟩
      obtain ⟨N9, a9, sub9⟩ := HST.out
      rw [hk.out] at N9
      rw [HCS.out]
      refine ⟨_, _, _, _, N9, ?_, ?_⟩
      · exact (((HT8.out.2.mono fun _ _ e => .inl e).trans (AgH.of_below (below_drewN' (Below.refl _ w8) 1)))).trans a9
      · exact fun i hi e => sub9 i (Nat.lt_of_lt_of_le hi HT8.out.2.size) e
end
end Go.Proofs.YtkpjhjoopdbkaaaGreatDoor
