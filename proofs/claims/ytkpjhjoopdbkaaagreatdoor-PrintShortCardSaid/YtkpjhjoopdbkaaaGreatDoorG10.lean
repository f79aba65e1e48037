/- Joined: Package parse: choice, the walk. Printed by gen_paE2.py. Package parse: unary. Printed by gen_paE3.py. -/
import Derived.Test.YtkpjhjoopdbkaaaGreatDoorG09
import Derived.StillTailTactics
namespace Go.Proofs.YtkpjhjoopdbkaaaGreatDoor
open Go.RowKit
section
variable {T : List Tok} {en : Int} {g : Nat} {A : Option Addr} {c : Nat} {h : Hs} {s : Ps}
set_option maxRecDepth 100000 in
set_option maxHeartbeats 4000000 in
theorem pa_choice (f : Nat) (d d' : Int) (hd : 0 ≤ d) (hd1 : d ≤ 40) (hd' : Hid (d' = d + 1)) (hX : Hid (ExC T en g A c h f d')) (w : World) (hp : Hid (PAt T en g A c h s w)) :
    Calls Tryz.prog 118 #[.pointer (some ⟨g, 0, none⟩), .int .i64 d] w (ExP T en g A c h (choiceP (ktOf T) (exprsP (ktOf T) f).2 s) w) := by
  have hgl := hp.out.blk.lt
  obtain ⟨w1, hw1⟩ : ∃ y, y = w.alloc (.cells #[.int .i64 0, .int .i64 0, .slice none 0 0] 30) := ⟨_, rfl⟩
  have HB1 := Lib.hid (show Below w.heap.size w w1 by rw [hw1]; exact alrB w _)
  have R1 := Lib.hid (show w1.heap[w.heap.size]? = some (.cells #[.int .i64 0, .int .i64 0, .slice none 0 0] 30 (0, 0)) by rw [hw1]; exact heap_alloc_new w _)
  have HP1 := Lib.hid (hp.out.below HB1.out)
  have HW := Lib.hid hw1.symm
  have hsz : w1.heap.size = w.heap.size + 1 := by rw [hw1, World.size_alloc]
  obtain ⟨g1, hg1⟩ : ∃ y, y = w.heap.size := ⟨_, rfl⟩
  have HG := Lib.hid hg1.symm
  rw [← hg1] at R1
  have hne : g1 ≠ g := by omega
  have HNE := Lib.hid hne
  have HSZ := Lib.hid hsz
  clear hw1 hg1 hsz
  have wd : IntKind.i64.wrap (d + 1) = d' := by rw [hd'.out]; exact IntWalk.i64_in _ ⟨by omega, by omega⟩
  have wd2 : d + 1 = d' := hd'.out.symm
  have wd3 : IntKind.i64.wrap d' = d' := by have h1 := hd'.out; exact IntWalk.i64_in _ ⟨by omega, by omega⟩
  rw [choice_ch]
  obtain ⟨s9, hs9⟩ : ∃ y, y = wantP (ktOf T) ⟨#[41]⟩ (chP (ktOf T) (exprsP (ktOf T) f).2 s 3).2 := ⟨_, rfl⟩
  obtain ⟨L9, hL9⟩ : ∃ y, y = (chP (ktOf T) (exprsP (ktOf T) f).2 s 3).1 := ⟨_, rfl⟩
  rw [← hs9, ← hL9]
  have HS9 := Lib.hid hs9
  have HL9 := Lib.hid hL9
  clear hs9 hL9
  obtain ⟨w3, hw3⟩ : ∃ y, y = (w1.alloc (.cells #[.int .i64 6, .int .i64 0, .slice none 0 0] 30)).alloc (.cells #[.string ⟨#[40]⟩, .string ⟨#[44]⟩, .string ⟨#[44]⟩] 9) := ⟨_, rfl⟩
  obtain ⟨g2, hg2⟩ : ∃ y, y = w1.heap.size := ⟨_, rfl⟩
  have s2 : (w1.alloc (.cells #[.int .i64 6, .int .i64 0, .slice none 0 0] 30)).heap.size = g2 + 1 := by rw [World.size_alloc, hg2]
  have s3 : w3.heap.size = g2 + 2 := by rw [hw3, World.size_alloc, s2]
  have hg12 : g1 < g2 := by rw [hg2]; exact (Array.getElem?_eq_some_iff.1 R1.out).1
  have HG12 := Lib.hid hg12
  have HGW := Lib.hid (show w.heap.size ≤ g1 by rw [← HG.out]; exact Nat.le_refl _)
  have HI : Hid (ChI T en g A c h f w g1 g2 (g2 + 1) (g2 + 2) s 0 [] (.slice none 0 0) w3) := Lib.hid (by
    refine ⟨by omega, rfl, rfl, OwnR.nil, ?_, ?_, ?_, ?_⟩
    · rw [hw3]; exact row_alloc (row_alloc R1.out _) _
    · rw [hw3, hg2]; exact row_alloc (heap_alloc_new w1 _) _
    · rw [hw3, ← s2]; exact heap_alloc_new _ _
    · rw [hw3]; exact turned_below hp.out (below_then (below_then HB1.out (alrB _ _)) (alrB _ _)))
  have HW3 := Lib.hid hw3.symm
  have HG2 := Lib.hid hg2.symm
  have HGL := Lib.hid hgl
  clear hw3 hg2 s2 s3 hg12
  go_enter Tryz.func118, Tryz.ntmps118
  go_upto_region 1 with fail
  rw [HW.out, HG.out]
  go_wp2_with fail
  rw [HW3.out, HG2.out]
  go_loopw [11] (fun v11 wr => ∃ (k : Nat) (l : List KidV) (V : Value), k ≤ 3 ∧ v11 = .int .i64 (k : Int) ∧ Hid (ChI T en g A c h f w g1 g2 (g2 + 1) (g2 + 2) s k l V wr)) (fun v11 _ => 3 - (intOf v11).toNat)
  case atStart => exact ⟨0, [], _, by omega, rfl, HI⟩
  case round =>
    obtain ⟨k, l, V, hk, rfl, hI⟩ := hrel
    by_cases hlt : k < 3
    · have x3 : wr.cell? ⟨g2 + 1, k, none⟩ = some (.string (signT k)) := by
        rw [cell_of_row _ _ _ _ _ _ hI.out.r3]
        match k, hlt with
        | 0, _ => rfl
        | 1, _ => rfl
        | 2, _ => rfl
      have cW := pa_want (signT k) (signT_ne k) wr (Lib.hid hI.out.tn.1)
      obtain ⟨s1, hs1⟩ : ∃ y, y = wantP (ktOf T) (signT k) (chP (ktOf T) (exprsP (ktOf T) f).2 s k).2 := ⟨_, rfl⟩
      rw [← hs1] at cW
      have HS1 := Lib.hid hs1
      have CW := Lib.hid cW
      obtain ⟨r, hr⟩ : ∃ y, y = (exprsP (ktOf T) f).2 0 s1 := ⟨_, rfl⟩
      have cX := fun W (hW : PAt T en g A c h s1 W) => hX.out 0 s1 W (by omega) (by omega) hW
      rw [← hr] at cX
      obtain ⟨t, s2⟩ := r
      have CX := Lib.hid cX
      have HR := Lib.hid hr
      obtain ⟨sg, hsg⟩ : ∃ y, y = signT k := ⟨_, rfl⟩
      rw [← hsg] at x3 CW
      have k3 : (k : Int) < 3 := by omega
      have k0 : (0 : Int) ≤ (k : Int) := by omega
      clear hs1 cW hr cX hsg
      go_wp2_with fail
      refine CW.out.mono ?_
      rintro e w4 ⟨rfl, hT⟩
      have HT1 := Lib.hid hT
      have ne2 : g2 ≠ g := by have := HG12.out; have := HGW.out; have := HGL.out; omega
      have r2 := row_keep hI.out.r2 hT.2 ne2
      have q2 : w4.cell? ⟨g2, 2, none⟩ = some V := by rw [cell_of_row _ _ _ _ _ _ r2]; rfl
      have HR2 := Lib.hid r2
      have HNE2 := Lib.hid ne2
      have HOV := Lib.hid (fun i (e : V.ownBlock = some i) => hI.out.own.own.lt i e)
      have HLL := Lib.hid hI.out.len
      have HBS := Lib.hid hI.out.bs
      clear hT r2 ne2 x3 CW
      have HT1D : Hid (Turned T en g A c h s1 wr w4.drew) := Lib.hid (Turned.below HT1.out (below_drewN' (Below.refl _ w4) 1))
      have HPD := Lib.hid HT1D.out.1
      have HGN := Lib.hid (fun i (e : V.ownBlock = some i) => (show i ≠ g by have := (HOV.out i e).1; have := HG12.out; have := HGW.out; have := HGL.out; omega))
      go_wp2_with fail
      go_region_law (first
        | (refine step_append_sl kids_ty rfl (.tmp 19) (.tmp 24) rfl (g2 + 2) rfl (by exact HO5.out.alloc _) rfl (by exact Sl.new _ _ [Value.int .i64 t.kind, .int .i64 t.num, .slice A2 m2 c2] 1 3 rfl (by omega)) (kidv_one ⟨t, A2, m2, c2⟩) (by have := HLL.out; omega) (by have := HLL.out; omega) (by have := hs5.out; simp; omega) ?_; intro v9 w9 hown9 hg9 hat9; obtain ⟨A4, c4, rfl, _, _⟩ := own_form hown9
           have HST := Lib.hid (hI.out.step hp.out HGL.out HGW.out HG12.out (by omega) (by omega) HS1.out HR.out HT1D.out hT5.out hS5.out hown9 hg9 hat9)
           have ho9 := (hg9.block g2 (by have := hl5.out; simp; omega) (fun e => by have := (HOV.out g2 e.symm).1; omega)).trans (row_alloc hR5.out _)
           have o9 : w9.cell? ⟨g2, 2, none⟩ = some V := by rw [cell_of_row _ _ _ _ _ _ ho9]; rfl
           have f9 : w9.frozen? ⟨g2, 2, none⟩ = false := frozen_row ho9
           clear hown9 hg9 hat9 ho9)
        | (go_simp; go_at_call 29; refine (CX.out _ HPD.out).mono ?_; rintro e w5 ⟨A2, m2, c2, rfl, hT5', hS5'⟩
           have hT5 := Lib.hid hT5'
           have hS5 := Lib.hid hS5'
           have a5 := HT1D.out.2.trans hS5'.2
           have HO5 := Lib.hid (own_keep hI.out.own.own a5 HGN.out)
           have hR5 := Lib.hid (row_keep hI.out.r2 a5 HNE2.out)
           have hs5 := Lib.hid (show g2 + 2 ≤ w5.heap.size by have := a5.size; have := HBS.out; omega)
           have hl5 := Lib.hid (show g2 < w5.heap.size by have := a5.size; have := HBS.out; omega)
           have q5 : w5.cell? ⟨g2, 2, none⟩ = some V := by rw [cell_of_row _ _ _ _ _ _ hR5.out]; rfl
           have q5a : ∀ o, (w5.alloc o).cell? ⟨g2, 2, none⟩ = some V := fun o => cell_kept (alrB w5 o) q5
           clear hT5' hS5' a5))
      all_goals
        go_wp2_with fail
        go_roundw
        case rel => exact ⟨k + 1, _, _, by omega, by go_num, HST⟩
        case measure => simp [intOf]; omega
    · have hk3 : k = 3 := by omega
      subst hk3
      have hl := hI.out.len
      obtain ⟨A4, c4, hV, hT⟩ := kids_tree (B := g2 + 2) (k := 6) (n := 0) hI.out.own (by unfold I64; omega) (by unfold I64; omega) (Nat.le_refl _) (fun _ hi => hi)
      rw [hl] at hV hT
      rw [hI.out.trees] at hT
      subst hV
      have cW := pa_want ⟨#[41]⟩ (by decide) wr (Lib.hid hI.out.tn.1)
      have hmv := ((mv_ch (K := ktOf T) (mv_exprs f).2 s 3).trans (mv_want (x := ⟨#[41]⟩) (by decide) _)).vars
      rw [← HS9.out] at cW hmv
      rw [← HL9.out] at hT
      have HTN := Lib.hid hI.out.tn
      have HT := Lib.hid hT
      have HMV := Lib.hid hmv
      have CW := Lib.hid cW
      have HR1 := Lib.hid hI.out.r1
      have HR2 := Lib.hid hI.out.r2
      clear hT hmv cW hI hl
      go_wp2_with fail
      refine CW.out.mono ?_
      rintro e w4 ⟨rfl, hT4⟩
      have HT4 := Lib.hid hT4
      have ne2 : g2 ≠ g := by have := HG12.out; have := HGW.out; have := HGL.out; omega
      have R9 := row_keep HR1.out hT4.2 HNE.out
      have R8 := row_keep HR2.out hT4.2 ne2
      have HR9 := Lib.hid R9
      have c0 := row_cell R9 0 _ rfl
      have c1 := row_cell R9 1 _ rfl
      have c2' := row_cell R9 2 _ rfl
      have f0 := frozen_row (o := 0) R9
      have f1 := frozen_row (o := 1) R9
      have f2 := frozen_row (o := 2) R9
      have d0 := row_cell R8 0 _ rfl
      have d1 := row_cell R8 1 _ rfl
      have d2 := row_cell R8 2 _ rfl
      clear hT4 R9 R8 ne2
      go_wp2
      have hGW := HGW.out
      refine bodyPost_ret (res_choice (row_put3 HR9.out _ _ _) rfl) rfl ?_
      refine exp_finish (t := .mk 6 0 L9) hp.out (Below.refl _ _) (HTN.out.then_ HT4.out) HMV.out (ag_put3 (AgH.refl _ _) (.inl ⟨hGW, HNE.out⟩) _ _ _) ?_
      have hGL := HGL.out
      have h12 := HG12.out
      refine (HT.out.go HT4.out.2 (fun i _ e => ?_) (Nat.le_refl _)).go (ag_put3 (H := only g1) (AgH.refl _ _) (.inl rfl) _ _ _) (fun i _ e => ?_) (by omega)
      · rw [show i = g from e]; omega
      · rw [show i = g1 from e]; omega
end
end Go.Proofs.YtkpjhjoopdbkaaaGreatDoor
namespace Go.Proofs.YtkpjhjoopdbkaaaGreatDoor
open Go.RowKit
theorem tok_field (k : Int) (y : ByteArray) (a : Int) (w : World) : (Instr.field 44 (.agg #[.int .i64 k, .string y, .int .i64 a]) 0).run Tryz.prog w = .ok (.int .i64 k) w := by kernel_rfl
section
variable {T : List Tok} {en : Int} {g : Nat} {A : Option Addr} {c : Nat} {h : Hs} {s : Ps}
set_option maxRecDepth 100000 in
set_option maxHeartbeats 8000000 in
theorem pa_unary (f : Nat) (d d' : Int) (hd : 0 ≤ d) (hd1 : d ≤ 40) (hd' : Hid (d' = d + 1)) (hU : Hid (UnC T en g A c h f d')) (hX : Hid (ExC T en g A c h f d')) (w : World) (hp : Hid (PAt T en g A c h s w)) :
    Calls Tryz.prog 64 #[.pointer (some ⟨g, 0, none⟩), .int .i64 d] w (ExP T en g A c h (unaryP (ktOf T) (exprsP (ktOf T) f).2 (exprsP (ktOf T) f).1 s) w) := by
  have hgl := hp.out.blk.lt
  obtain ⟨w1, hw1⟩ : ∃ y, y = w.alloc (.cells #[.int .i64 0, .int .i64 0, .slice none 0 0] 30) := ⟨_, rfl⟩
  have HB1 := Lib.hid (show Below w.heap.size w w1 by rw [hw1]; exact alrB w _)
  have R1 := Lib.hid (show w1.heap[w.heap.size]? = some (.cells #[.int .i64 0, .int .i64 0, .slice none 0 0] 30 (0, 0)) by rw [hw1]; exact heap_alloc_new w _)
  have HP1 := Lib.hid (hp.out.below HB1.out)
  have HW := Lib.hid hw1.symm
  have hsz : w1.heap.size = w.heap.size + 1 := by rw [hw1, World.size_alloc]
  obtain ⟨g1, hg1⟩ : ∃ y, y = w.heap.size := ⟨_, rfl⟩
  have HG := Lib.hid hg1.symm
  rw [← hg1] at R1
  have hne : g1 ≠ g := by omega
  have HNE := Lib.hid hne
  have HSZ := Lib.hid hsz
  clear hw1 hg1 hsz
  have wd : IntKind.i64.wrap (d + 1) = d' := by rw [hd'.out]; exact IntWalk.i64_in _ ⟨by omega, by omega⟩
  have wd2 : d + 1 = d' := hd'.out.symm
  have hd2 : ¬ 40 < d := by omega
  have HMV := Lib.hid (mv_unary (K := (ktOf T)) (mv_exprs f).2 (mv_exprs f).1 s).vars
  have HUD := Lib.hid (show unaryP (ktOf T) (exprsP (ktOf T) f).2 (exprsP (ktOf T) f).1 s = if takeB (ktOf T) minusT s then (.mk 3 0 [((exprsP (ktOf T) f).1 (stepP s)).1], ((exprsP (ktOf T) f).1 (stepP s)).2)
    else if takeB (ktOf T) ⟨#[33]⟩ s then (.mk 4 0 [((exprsP (ktOf T) f).1 (stepP s)).1], ((exprsP (ktOf T) f).1 (stepP s)).2)
    else if takeB (ktOf T) ⟨#[40]⟩ s then (((exprsP (ktOf T) f).2 0 (stepP s)).1, wantP (ktOf T) ⟨#[41]⟩ ((exprsP (ktOf T) f).2 0 (stepP s)).2)
    else if takeB (ktOf T) ⟨#[105, 102]⟩ s then choiceP (ktOf T) (exprsP (ktOf T) f).2 (stepP s)
    else if (nextP (ktOf T) s).1 = 2 then (.mk 1 (numbV (ktOf T) s) [], numbS (ktOf T) s)
    else (.mk 2 (knownV (ktOf T) (findVar s) s) [], knownS (ktOf T) (findVar s) s) from rfl)
  obtain ⟨U, hUU⟩ : ∃ U, U = unaryP (ktOf T) (exprsP (ktOf T) f).2 (exprsP (ktOf T) f).1 s := ⟨_, rfl⟩
  rw [← hUU] at HMV HUD ⊢
  clear hUU
  have CT1 := Lib.hid (fun W (hW : PAt T en g A c h s W) => pa_take minusT (by decide) W (Lib.hid hW))
  have TT1 := Lib.hid (fun e => take_true (x := minusT) (K := (ktOf T)) (s := s) e)
  have TF1 := Lib.hid (fun e => take_false (x := minusT) (K := (ktOf T)) (s := s) e)
  obtain ⟨t1, ht1⟩ : ∃ t, t = takeB (ktOf T) minusT s := ⟨_, rfl⟩
  obtain ⟨P1, hP1⟩ : ∃ P, P = takeP (ktOf T) minusT s := ⟨_, rfl⟩
  rw [← ht1] at CT1 TT1 TF1 HUD
  rw [← hP1] at CT1 TT1 TF1
  clear ht1 hP1
  have CT2 := Lib.hid (fun W (hW : PAt T en g A c h s W) => pa_take ⟨#[33]⟩ (by decide) W (Lib.hid hW))
  have TT2 := Lib.hid (fun e => take_true (x := ⟨#[33]⟩) (K := (ktOf T)) (s := s) e)
  have TF2 := Lib.hid (fun e => take_false (x := ⟨#[33]⟩) (K := (ktOf T)) (s := s) e)
  obtain ⟨t2, ht2⟩ : ∃ t, t = takeB (ktOf T) ⟨#[33]⟩ s := ⟨_, rfl⟩
  obtain ⟨P2, hP2⟩ : ∃ P, P = takeP (ktOf T) ⟨#[33]⟩ s := ⟨_, rfl⟩
  rw [← ht2] at CT2 TT2 TF2 HUD
  rw [← hP2] at CT2 TT2 TF2
  clear ht2 hP2
  have CT3 := Lib.hid (fun W (hW : PAt T en g A c h s W) => pa_take ⟨#[40]⟩ (by decide) W (Lib.hid hW))
  have TT3 := Lib.hid (fun e => take_true (x := ⟨#[40]⟩) (K := (ktOf T)) (s := s) e)
  have TF3 := Lib.hid (fun e => take_false (x := ⟨#[40]⟩) (K := (ktOf T)) (s := s) e)
  obtain ⟨t3, ht3⟩ : ∃ t, t = takeB (ktOf T) ⟨#[40]⟩ s := ⟨_, rfl⟩
  obtain ⟨P3, hP3⟩ : ∃ P, P = takeP (ktOf T) ⟨#[40]⟩ s := ⟨_, rfl⟩
  rw [← ht3] at CT3 TT3 TF3 HUD
  rw [← hP3] at CT3 TT3 TF3
  clear ht3 hP3
  have CT4 := Lib.hid (fun W (hW : PAt T en g A c h s W) => pa_take ⟨#[105, 102]⟩ (by decide) W (Lib.hid hW))
  have TT4 := Lib.hid (fun e => take_true (x := ⟨#[105, 102]⟩) (K := (ktOf T)) (s := s) e)
  have TF4 := Lib.hid (fun e => take_false (x := ⟨#[105, 102]⟩) (K := (ktOf T)) (s := s) e)
  obtain ⟨t4, ht4⟩ : ∃ t, t = takeB (ktOf T) ⟨#[105, 102]⟩ s := ⟨_, rfl⟩
  obtain ⟨P4, hP4⟩ : ∃ P, P = takeP (ktOf T) ⟨#[105, 102]⟩ s := ⟨_, rfl⟩
  rw [← ht4] at CT4 TT4 TF4 HUD
  rw [← hP4] at CT4 TT4 TF4
  clear ht4 hP4
  go_enter Tryz.func64, Tryz.ntmps64
  go_upto_region 1 with fail
  rw [HW.out, HG.out]
  go_wp2_with fail
  refine (CT1.out _ HP1.out).mono ?_
  rintro e w2 ⟨rfl, hT⟩
  have HT2 := Lib.hid hT
  clear hT
  cases t1 with
  | true =>
    have HU := Lib.hid (HUD.out.trans (if_pos rfl))
    have HP := TT1.out rfl
    rw [HP] at HT2
    go_wp2_with fail
    refine (pa_turned f d d' 3 hd hd1 hd' (by decide) hU w2 (Lib.hid HT2.out.1)).mono ?_
    rintro e w9 ⟨A2, m2, c2, rfl, hT, hS⟩
    have HT := Lib.hid hT
    have HS := Lib.hid hS
    have HSK := Lib.hid HT2.out.2.size
    have R9 := row_keep R1.out (HT2.out.then_ hS).2 HNE.out
    have HR9 := Lib.hid R9
    have c0 := row_cell R9 0 _ rfl
    have c1 := row_cell R9 1 _ rfl
    have c2' := row_cell R9 2 _ rfl
    have f0 := frozen_row (o := 0) R9
    have f1 := frozen_row (o := 1) R9
    have f2 := frozen_row (o := 2) R9
    clear hT hS R9
    go_wp2
    have hsz := HSZ.out
    have hG := HG.out
    have hmv := HMV.out
    refine bodyPost_ret (res_unary (row_put3 HR9.out _ _ _) rfl) rfl ?_
    rw [HU.out] at hmv ⊢
    refine exp_finish hp.out HB1.out (HT2.out.then_ HS.out) hmv (ag_put3 (AgH.refl _ _) (.inl ⟨by omega, HNE.out⟩) _ _ _) ?_
    exact (HT.out.go (ag_put3 (H := only g1) (AgH.refl _ _) (.inl rfl) _ _ _) (fun i _ e => by have := HSK.out; rw [show i = g1 from e]; omega) (by have := HSK.out; omega))
  | false =>
  have HUD2 := Lib.hid (HUD.out.trans (if_neg (by decide)))
  rw [TF1.out rfl] at HT2
  go_wp2_with fail
  refine (CT2.out _ HT2.out.1).mono ?_
  rintro e w3 ⟨rfl, hT⟩
  have HT3 := Lib.hid (HT2.out.then_ hT)
  clear hT
  cases t2 with
  | true =>
    have HU := Lib.hid (HUD2.out.trans (if_pos rfl))
    have HP := TT2.out rfl
    rw [HP] at HT3
    go_wp2_with fail
    refine (pa_turned f d d' 4 hd hd1 hd' (by decide) hU w3 (Lib.hid HT3.out.1)).mono ?_
    rintro e w9 ⟨A2, m2, c2, rfl, hT, hS⟩
    have HT := Lib.hid hT
    have HS := Lib.hid hS
    have HSK := Lib.hid HT3.out.2.size
    have R9 := row_keep R1.out (HT3.out.then_ hS).2 HNE.out
    have HR9 := Lib.hid R9
    have c0 := row_cell R9 0 _ rfl
    have c1 := row_cell R9 1 _ rfl
    have c2' := row_cell R9 2 _ rfl
    have f0 := frozen_row (o := 0) R9
    have f1 := frozen_row (o := 1) R9
    have f2 := frozen_row (o := 2) R9
    clear hT hS R9
    go_wp2
    have hsz := HSZ.out
    have hG := HG.out
    have hmv := HMV.out
    refine bodyPost_ret (res_unary (row_put3 HR9.out _ _ _) rfl) rfl ?_
    rw [HU.out] at hmv ⊢
    refine exp_finish hp.out HB1.out (HT3.out.then_ HS.out) hmv (ag_put3 (AgH.refl _ _) (.inl ⟨by omega, HNE.out⟩) _ _ _) ?_
    exact (HT.out.go (ag_put3 (H := only g1) (AgH.refl _ _) (.inl rfl) _ _ _) (fun i _ e => by have := HSK.out; rw [show i = g1 from e]; omega) (by have := HSK.out; omega))
  | false =>
  have HUD3 := Lib.hid (HUD2.out.trans (if_neg (by decide)))
  rw [TF2.out rfl] at HT3
  go_wp2_with fail
  refine (CT3.out _ HT3.out.1).mono ?_
  rintro e w4 ⟨rfl, hT⟩
  have HT4 := Lib.hid (HT3.out.then_ hT)
  clear hT
  cases t3 with
  | true =>
    have HU := Lib.hid (HUD3.out.trans (if_pos rfl))
    have HP := TT3.out rfl
    rw [HP] at HT4
    have cX := hX.out 0 (stepP s) w4 (by omega) (by omega) HT4.out.1
    obtain ⟨r, hr⟩ : ∃ r, r = (exprsP (ktOf T) f).2 0 (stepP s) := ⟨_, rfl⟩
    rw [← hr] at cX HU
    obtain ⟨t, s5⟩ := r
    have CX := Lib.hid cX
    clear cX hr
    go_wp2_with fail
    refine CX.out.mono ?_
    rintro e w5 ⟨A2, m2, c2, rfl, hT, hS⟩
    have HT := Lib.hid hT
    have HS := Lib.hid hS
    have HSK := Lib.hid HT4.out.2.size
    have HSL := Lib.hid hS.2.size
    obtain ⟨w6, hw6⟩ : ∃ y, y = w5.alloc (.cells #[.int .i64 t.kind, .int .i64 t.num, .slice A2 m2 c2] 30) := ⟨_, rfl⟩
    obtain ⟨g6, hg6⟩ : ∃ y, y = w5.heap.size := ⟨_, rfl⟩
    have HB6 := Lib.hid (show Below w5.heap.size w5 w6 by rw [hw6]; exact alrB _ _)
    have R6 := Lib.hid (show w6.heap[g6]? = some (.cells #[.int .i64 t.kind, .int .i64 t.num, .slice A2 m2 c2] 30 (0, 0)) by rw [hw6, hg6]; exact heap_alloc_new w5 _)
    have HN6 := Lib.hid (show g6 ≠ g by have := (HT4.out.then_ hS).1.blk.lt; omega)
    have HG6 := Lib.hid hg6.symm
    have HW6 := Lib.hid hw6.symm
    have CW := Lib.hid (pa_want ⟨#[41]⟩ (by decide) w6 (Lib.hid (hS.1.below HB6.out)))
    clear hT hS hw6 hg6
    go_upto_region 10 with fail
    rw [HW6.out, HG6.out]
    go_wp2_with fail
    refine CW.out.mono ?_
    rintro e w7 ⟨rfl, hT7⟩
    have HT7 := Lib.hid hT7
    have hA := (Turned.below (HT4.out.then_ HS.out) HB6.out).then_ hT7
    have HA := Lib.hid hA
    have R9 := row_keep R1.out hA.2 HNE.out
    have R7 := row_keep R6.out hT7.2 HN6.out
    have HR9 := Lib.hid R9
    have c0 := row_cell R9 0 _ rfl
    have c1 := row_cell R9 1 _ rfl
    have c2' := row_cell R9 2 _ rfl
    have f0 := frozen_row (o := 0) R9
    have f1 := frozen_row (o := 1) R9
    have f2 := frozen_row (o := 2) R9
    have d0 := row_cell R7 0 _ rfl
    have d1 := row_cell R7 1 _ rfl
    have d2 := row_cell R7 2 _ rfl
    clear hT7 hA R9 R7
    go_wp2
    have hsz := HSZ.out
    have hG := HG.out
    have hmv := HMV.out
    refine bodyPost_ret (res_unary (row_put3 HR9.out _ _ _) rfl) rfl ?_
    rw [HU.out] at hmv ⊢
    refine exp_finish hp.out HB1.out HA.out hmv (ag_put3 (AgH.refl _ _) (.inl ⟨by omega, HNE.out⟩) _ _ _) ?_
    exact (((HT.out.go (H := fun _ => False) (AgH.of_below HB6.out) (fun _ _ e => e.elim) (Nat.le_refl _)).go HT7.out.2 (fun i _ e => by have := HT4.out.1.blk.lt; rw [show i = g from e]; exact this) (Nat.le_refl _)).go (ag_put3 (H := only g1) (AgH.refl _ _) (.inl rfl) _ _ _) (fun i _ e => by have := HSK.out; rw [show i = g1 from e]; omega) (by have := HSK.out; omega))
  | false =>
  have HUD4 := Lib.hid (HUD3.out.trans (if_neg (by decide)))
  rw [TF3.out rfl] at HT4
  go_wp2_with fail
  refine (CT4.out _ HT4.out.1).mono ?_
  rintro e w5 ⟨rfl, hT⟩
  have HT5 := Lib.hid (HT4.out.then_ hT)
  clear hT
  cases t4 with
  | true =>
    have HU := Lib.hid (HUD4.out.trans (if_pos rfl))
    have HP := TT4.out rfl
    rw [HP] at HT5
    go_wp2_with fail
    refine (pa_choice f d d' hd hd1 hd' hX w5 (Lib.hid HT5.out.1)).mono ?_
    rintro e w9 ⟨A2, m2, c2, rfl, hT, hS⟩
    rw [← HU.out] at hT hS
    have HT := Lib.hid hT
    have HS := Lib.hid hS
    have HSK := Lib.hid HT5.out.2.size
    have R9 := row_keep R1.out (HT5.out.then_ hS).2 HNE.out
    have HR9 := Lib.hid R9
    rw [← HU.out]
    have c0 := row_cell R9 0 _ rfl
    have c1 := row_cell R9 1 _ rfl
    have c2' := row_cell R9 2 _ rfl
    have f0 := frozen_row (o := 0) R9
    have f1 := frozen_row (o := 1) R9
    have f2 := frozen_row (o := 2) R9
    clear hT hS R9
    go_wp2
    have hsz := HSZ.out
    have hG := HG.out
    have hmv := HMV.out
    refine bodyPost_ret (res_unary (row_put3 HR9.out _ _ _) rfl) rfl ?_
    show ExP T en g A c h (U.1, U.2) w _ _
    refine exp_finish hp.out HB1.out (HT5.out.then_ HS.out) hmv (ag_put3 (AgH.refl _ _) (.inl ⟨by omega, HNE.out⟩) _ _ _) ?_
    exact (HT.out.go (ag_put3 (H := only g1) (AgH.refl _ _) (.inl rfl) _ _ _) (fun i _ e => by have := HSK.out; rw [show i = g1 from e]; omega) (by have := HSK.out; omega))
  | false =>
  have HUD5 := Lib.hid (HUD4.out.trans (if_neg (by decide)))
  rw [TF4.out rfl] at HT5
  have cN := pa_next w5 (Lib.hid HT5.out.1)
  unfold NextV at cN
  obtain ⟨x, hx⟩ : ∃ x, x = (nextP (ktOf T) s).1 := ⟨_, rfl⟩
  rw [← hx] at cN HUD5
  have CN := Lib.hid cN
  have fk := tok_field
  clear cN hx
  go_wp2_with fail
  refine CN.out.mono ?_
  rintro e w6 ⟨⟨a, rfl⟩, hb⟩
  have HT6 := Lib.hid (HT5.out.below hb)
  clear hb
  by_cases h2 : x = 2
  · have HU := Lib.hid (HUD5.out.trans (if_pos h2))
    have z2 : (x == 2) = true := by simpa using h2
    have hlo := numb_lo (ktOf T) s
    have cM := pa_number w6 (Lib.hid HT6.out.1)
    obtain ⟨v, hv⟩ : ∃ v, v = numbV (ktOf T) s := ⟨_, rfl⟩
    rw [← hv] at cM HU hlo
    have CM := Lib.hid cM
    have HLO := Lib.hid hlo
    subst h2
    clear hv cM hlo
    go_wp2_with fail
    refine CM.out.mono ?_
    rintro e w9 ⟨rfl, hS⟩
    have HS := Lib.hid hS
    have R9 := row_keep R1.out (HT6.out.then_ hS).2 HNE.out
    have HR9 := Lib.hid R9
    have c0 := row_cell R9 0 _ rfl
    have c1 := row_cell R9 1 _ rfl
    have c2' := row_cell R9 2 _ rfl
    have f0 := frozen_row (o := 0) R9
    have f1 := frozen_row (o := 1) R9
    have f2 := frozen_row (o := 2) R9
    clear hS R9 fk
    go_wp2
    have hsz := HSZ.out
    have hG := HG.out
    have hmv := HMV.out
    refine bodyPost_ret (res_unary (row_put3 HR9.out _ _ _) rfl) rfl ?_
    rw [HU.out] at hmv ⊢
    refine exp_finish hp.out HB1.out (HT6.out.then_ HS.out) hmv (ag_put3 (AgH.refl _ _) (.inl ⟨by omega, HNE.out⟩) _ _ _) ?_
    exact (TrH.leaf _ _ (by unfold I64; omega) (by have := HLO.out; unfold I64; omega))
  · have HU := Lib.hid (HUD5.out.trans (if_neg h2))
    have z2 : (x == 2) = false := beq_of_ne h2
    have hlo := findN_lo s.vars (nameV (ktOf T) s)
    have hvl : s.vars.length ≤ 9223372036854775807 := by
      have h1 := hp.out.vars.now
      have h2 := h1.len
      rw [strCells_len] at h2
      have h3 := h1.bound
      omega
    have HLO := Lib.hid (show -1 ≤ knownV (ktOf T) (findVar s) s ∧ knownV (ktOf T) (findVar s) s ≤ 9223372036854775807 by
      unfold knownV findVar
      split
      · omega
      · omega)
    have cM := pa_known 121 (findVar s) w6 (Lib.hid HT6.out.1) (Lib.hid (finds_var w6))
    obtain ⟨v, hv⟩ : ∃ v, v = knownV (ktOf T) (findVar s) s := ⟨_, rfl⟩
    rw [← hv] at cM HU HLO
    have CM := Lib.hid cM
    clear hv cM h2 hlo hvl
    go_wp2_with fail
    refine CM.out.mono ?_
    rintro e w9 ⟨rfl, hS⟩
    have HS := Lib.hid hS
    have R9 := row_keep R1.out (HT6.out.then_ hS).2 HNE.out
    have HR9 := Lib.hid R9
    have c0 := row_cell R9 0 _ rfl
    have c1 := row_cell R9 1 _ rfl
    have c2' := row_cell R9 2 _ rfl
    have f0 := frozen_row (o := 0) R9
    have f1 := frozen_row (o := 1) R9
    have f2 := frozen_row (o := 2) R9
    clear hS R9 fk
    go_wp2
    have hsz := HSZ.out
    have hG := HG.out
    have hmv := HMV.out
    refine bodyPost_ret (res_unary (row_put3 HR9.out _ _ _) rfl) rfl ?_
    rw [HU.out] at hmv ⊢
    refine exp_finish hp.out HB1.out (HT6.out.then_ HS.out) hmv (ag_put3 (AgH.refl _ _) (.inl ⟨by omega, HNE.out⟩) _ _ _) ?_
    exact (TrH.leaf _ _ (by unfold I64; omega) (by have := HLO.out; unfold I64; omega))
end
end Go.Proofs.YtkpjhjoopdbkaaaGreatDoor
