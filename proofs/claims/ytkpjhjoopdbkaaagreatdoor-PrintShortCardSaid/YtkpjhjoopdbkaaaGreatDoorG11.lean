/- Joined: Package parse: expr. Printed by gen_paE4.py. Package parse: expressions of all depths. Printed by gen_paE5.py. -/
import Derived.Test.YtkpjhjoopdbkaaaGreatDoorG10
namespace Go.Proofs.YtkpjhjoopdbkaaaGreatDoor
open Go.RowKit
theorem held_mk {H : Nat → Prop} {w : World} {b m c : Nat} {k n : Int} {kids : List Tr} (hk : I64 k) (hn : I64 n) (hnb : ¬ H b) (hb : b < w.heap.size) (hl : kids.length = m) (hm : m ≤ c) (hc : c ≤ 9223372036854775807)
    (h : ∀ j, j < kids.length → ∃ A' m' c', w.cell? ⟨b, j * 3, none⟩ = some (.int .i64 (kids.getD j default).kind) ∧ w.cell? ⟨b, j * 3 + 1, none⟩ = some (.int .i64 (kids.getD j default).num) ∧ w.cell? ⟨b, j * 3 + 2, none⟩ = some (.slice A' m' c') ∧ HeldH H w fun W => TrAt W A' m' c' (kids.getD j default)) :
    HeldH H w fun W => TrAt W (some ⟨b, 0, none⟩) m c (.mk k n kids) := fun W a => by
  show TrAt W (some ⟨b, 0, none⟩) m c (.mk k n kids)
  rw [TrAt]
  refine ⟨hk, hn, hl, hm, hc, .inr ⟨b, 0, rfl, KidsAt.mk_ fun j hj => ?_⟩⟩
  obtain ⟨A', m', c', h0, h1, h2, h3⟩ := h j hj
  have hw : W.heap[b]? = w.heap[b]? := a.block b hb hnb
  have cc : ∀ o, W.cell? ⟨b, o, none⟩ = w.cell? ⟨b, o, none⟩ := fun o => World.cell?_of_block (a := ⟨b, o, none⟩) hw
  refine ⟨A', m', c', ⟨?_, ?_, ?_, h3 W a⟩⟩
  · rw [show 0 + (0 + j) * 3 = j * 3 by omega, cc]; exact h0
  · rw [show 0 + (0 + j) * 3 + 1 = j * 3 + 1 by omega, cc]; exact h1
  · rw [show 0 + (0 + j) * 3 + 2 = j * 3 + 2 by omega, cc]; exact h2
abbrev two6 (t u : Tr) (A : Option Addr) (m c : Nat) (A2 : Option Addr) (m2 c2 : Nat) : Array Value := #[.int .i64 t.kind, .int .i64 t.num, .slice A m c, .int .i64 u.kind, .int .i64 u.num, .slice A2 m2 c2]
/-- Two kids in a block of their own. -/
theorem held_two {H : Nat → Prop} {w : World} {b : Nat} {k n : Int} {t u : Tr} {A A2 : Option Addr} {m c m2 c2 : Nat} (hk : I64 k) (hn : I64 n) (hnb : ¬ H b) (hr : w.heap[b]? = some (.cells (two6 t u A m c A2 m2 c2) 30 (0, 0)))
    (h1 : HeldH H w fun W => TrAt W A m c t) (h2 : HeldH H w fun W => TrAt W A2 m2 c2 u) : HeldH H w fun W => TrAt W (some ⟨b, 0, none⟩) 2 2 (.mk k n [t, u]) := by
  refine held_mk hk hn hnb (Array.getElem?_eq_some_iff.1 hr).1 rfl (Nat.le_refl _) (by omega) fun j hj => ?_
  match j, hj with
  | 0, _ => exact ⟨A, m, c, row_cell hr 0 _ rfl, row_cell hr 1 _ rfl, row_cell hr 2 _ rfl, h1⟩
  | 1, _ => exact ⟨A2, m2, c2, row_cell hr 3 _ rfl, row_cell hr 4 _ rfl, row_cell hr 5 _ rfl, h2⟩
theorem strI_lo (x : Int) : 0 ≤ strI x ∧ strI x ≤ 100 := by
  unfold strI
  repeat (first | omega | split)
theorem opN_lo (s : ByteArray) : 0 ≤ opN s ∧ opN s ≤ 11 := by
  have h := idxOfS_bd signStrs s
  have hl : signStrs.length = 11 := rfl
  unfold opN
  split
  · omega
  · omega
section
variable {T : List Tok} {en : Int} {g : Nat} {A : Option Addr} {c : Nat} {h : Hs} {s : Ps}
/-- The loop of signs. -/
structure LpI (T : List Tok) (en : Int) (g : Nat) (A : Option Addr) (c : Nat) (h : Hs) (f : Nat) (w w1 : World) (g1 g7 : Nat) (st : Int) (R : Tr × Ps) (n : Nat) (t : Tr) (s : Ps) (A1 : Option Addr) (m1 c1 : Nat) (wr : World) : Prop where
  r1 : wr.heap[g1]? = some (.cells #[.int .i64 0, .int .i64 0, .slice none 0 0] 30 (0, 0))
  r7 : wr.heap[g7]? = some (.cells #[.int .i64 t.kind, .int .i64 t.num, .slice A1 m1 c1] 30 (0, 0))
  tr : HeldH (fun k => k < w1.heap.size ∨ k = g7) wr fun W => TrAt W A1 m1 c1 t
  tn : Turned T en g A c h s w wr
  sp : loopP (ktOf T) (exprsP (ktOf T) f).2 st n t s = R
  fu : T.length + 1 ≤ s.at_ + n
theorem LpI.step {f : Nat} {w w1 : World} {g1 g7 : Nat} {st : Int} {R : Tr × Ps} {n : Nat} {t : Tr} {s0 s1 : Ps} {A1 : Option Addr} {m1 c1 : Nat} {wr : World} (hp : PAt T en g A c h s0 w) (hs1 : w1.heap.size = w.heap.size + 1) (hg : g < w.heap.size) (hg1 : g1 = w.heap.size) (h17 : w1.heap.size ≤ g7) (hv : s1.vars = s0.vars)
    (I : LpI T en g A c h f w w1 g1 g7 st R (n + 1) t s1 A1 m1 c1 wr) (hsg : signB (ktOf T) st s1 = true) {w5 w6 W : World} {u : Tr} {s3 : Ps} {A2 : Option Addr} {m2 c2 : Nat} (hex : (u, s3) = (exprsP (ktOf T) f).2 (strI (opN (seesP (ktOf T) s1))) (stepP s1))
    (ht5 : Turned T en g A c h (stepP s1) wr w5) (ht6 : Turned T en g A c h s3 w5 w6) (htr : TrH w5.heap.size w6 A2 m2 c2 u) (a : AgH (only g7) (w6.alloc (.cells (two6 t u A1 m1 c1 A2 m2 c2) 30)) W) (hW : W.heap[g7]? = some (.cells #[.int .i64 5, .int .i64 (opN (seesP (ktOf T) s1)), .slice (some ⟨w6.heap.size, 0, none⟩) 2 2] 30 (0, 0))) :
    LpI T en g A c h f w w1 g1 g7 st R n (.mk 5 (opN (seesP (ktOf T) s1)) [t, u]) s3 (some ⟨w6.heap.size, 0, none⟩) 2 2 W := by
  have hl7 : g7 < wr.heap.size := (Array.getElem?_eq_some_iff.1 I.r7).1
  have z5 := ht5.2.size
  have z6 := ht6.2.size
  have aA : AgH (only g) wr w6 := ht5.2.trans ht6.2
  have aL : AgH (fun _ => False) w6 (w6.alloc (.cells (two6 t u A1 m1 c1 A2 m2 c2) 30)) := AgH.of_below (alrB _ _)
  have mex := (mv_exprs (K := (ktOf T)) f).2 (strI (opN (seesP (ktOf T) s1))) (stepP s1)
  rw [← hex] at mex
  have hop := opN_lo (seesP (ktOf T) s1)
  have tq : HeldH (fun k => k < w1.heap.size ∨ k = g7) W fun W => TrAt W A1 m1 c1 t :=
    ((I.tr.keep aA fun i _ e => by rw [show i = g from e]; exact .inl (by omega)).keep aL fun _ _ e => e.elim).keep a fun i _ e => .inr e
  have uq : HeldH (fun k => k < w1.heap.size ∨ k = g7) W fun W => TrAt W A2 m2 c2 u := by
    have h1 : HeldH (fun k => k < w1.heap.size ∨ k = g7) w6 fun W => TrAt W A2 m2 c2 u := HeldH.mono htr fun i _ e => by
      show i < w5.heap.size
      rcases e with e | e <;> omega
    exact (h1.keep aL fun _ _ e => e.elim).keep a fun i _ e => .inr e
  have rb : W.heap[w6.heap.size]? = some (.cells (two6 t u A1 m1 c1 A2 m2 c2) 30 (0, 0)) := row_keep (heap_alloc_new w6 _) a (by omega)
  refine ⟨?_, hW, held_two (by unfold I64; omega) (by unfold I64; omega) (by omega) rb tq uq, ?_, ?_, ?_⟩
  · exact row_keep (row_alloc (row_keep I.r1 aA (by omega)) _) a (by omega)
  · refine Turned.out hp (Below.refl _ _) ((I.tn.then_ ht5).then_ ht6) (mex.vars.trans hv) ?_
    exact (aL.mono fun _ _ e => e.elim).trans (a.mono fun i _ e => by rw [show i = g7 from e]; exact ⟨by omega, by omega⟩)
  · have := I.sp
    rw [loopP, if_pos hsg, ← hex] at this
    exact this
  · have h1 := I.fu
    have h2 : (stepP s1).at_ ≤ s3.at_ := mex.le
    have h3 : (stepP s1).at_ = s1.at_ + 1 := rfl
    omega
set_option maxRecDepth 100000 in
set_option maxHeartbeats 8000000 in
theorem pa_expr (f : Nat) (d d' st : Int) (hd : 0 ≤ d) (hd1 : d ≤ 40) (hd' : Hid (d' = d + 1)) (_hst : 0 ≤ st) (_hst1 : st ≤ 100) (hU : Hid (UnC T en g A c h (f + 1) d)) (hX : Hid (ExC T en g A c h f d')) (w : World) (hp : Hid (PAt T en g A c h s w)) :
    Calls Tryz.prog 29 #[.pointer (some ⟨g, 0, none⟩), .int .i64 st, .int .i64 d] w (ExP T en g A c h ((exprsP (ktOf T) (f + 1)).2 st s) w) := by
  have hgl := hp.out.blk.lt
  obtain ⟨w1, hw1⟩ : ∃ y, y = w.alloc (.cells #[.int .i64 0, .int .i64 0, .slice none 0 0] 30) := ⟨_, rfl⟩
  have HB1 := Lib.hid (show Below w.heap.size w w1 by rw [hw1]; exact alrB w _)
  have R1 := Lib.hid (show w1.heap[w.heap.size]? = some (.cells #[.int .i64 0, .int .i64 0, .slice none 0 0] 30 (0, 0)) by rw [hw1]; exact heap_alloc_new w _)
  have HP1 := Lib.hid (hp.out.below HB1.out)
  have HW := Lib.hid hw1.symm
  have hsz : w1.heap.size = w.heap.size + 1 := by rw [hw1, World.size_alloc]
  obtain ⟨g1, hg1⟩ : ∃ y, y = w.heap.size := ⟨_, rfl⟩
  have HG := Lib.hid hg1.symm
  rw [← hg1] at R1
  have hne : g1 ≠ g := by omega
  have HNE := Lib.hid hne
  have HSZ := Lib.hid hsz
  clear hw1 hg1 hsz
  have wd : IntKind.i64.wrap (d + 1) = d' := by rw [hd'.out]; exact IntWalk.i64_in _ ⟨by omega, by omega⟩
  have wd2 : d + 1 = d' := hd'.out.symm
  have wd3 : IntKind.i64.wrap d' = d' := by have h1 := hd'.out; exact IntWalk.i64_in _ ⟨by omega, by omega⟩
  have HMV := Lib.hid ((mv_exprs (K := (ktOf T)) (f + 1)).2 st s).vars
  have cU := hU.out s w1 HP1.out
  have hmu := (mv_exprs (K := (ktOf T)) (f + 1)).1 s
  have HSP := Lib.hid (show loopP (ktOf T) (exprsP (ktOf T) f).2 st (T.length + 1) ((exprsP (ktOf T) (f + 1)).1 s).1 ((exprsP (ktOf T) (f + 1)).1 s).2 = (exprsP (ktOf T) (f + 1)).2 st s by rw [← ktOf_len T]; rfl)
  obtain ⟨R, hR⟩ : ∃ R, R = (exprsP (ktOf T) (f + 1)).2 st s := ⟨_, rfl⟩
  rw [← hR] at HMV HSP ⊢
  obtain ⟨r, hr⟩ : ∃ r, r = (exprsP (ktOf T) (f + 1)).1 s := ⟨_, rfl⟩
  rw [← hr] at cU HSP hmu
  obtain ⟨t0, s0⟩ := r
  have CU := Lib.hid cU
  have HV0 := Lib.hid hmu.vars
  have HGL := Lib.hid hgl
  have hs9 := hp.out.small.len
  clear hR hr cU hmu
  go_enter Tryz.func29, Tryz.ntmps29
  go_upto_region 1 with fail
  rw [HW.out, HG.out]
  go_wp2_with fail
  refine CU.out.mono ?_
  rintro e w2 ⟨A2, m2, c2, rfl, hT, hS⟩
  have HS := Lib.hid hS
  obtain ⟨w3, hw3⟩ : ∃ y, y = w2.alloc (.cells #[.int .i64 t0.kind, .int .i64 t0.num, .slice A2 m2 c2] 30) := ⟨_, rfl⟩
  obtain ⟨g7, hg7⟩ : ∃ y, y = w2.heap.size := ⟨_, rfl⟩
  have H17 := Lib.hid (show w1.heap.size ≤ g7 by rw [hg7]; exact hS.2.size)
  have HI : Hid (LpI T en g A c h f w w1 g1 g7 st R (T.length + 1) t0 s0 A2 m2 c2 w3) := Lib.hid (by
    have al := alrB w2 (.cells #[.int .i64 t0.kind, .int .i64 t0.num, .slice A2 m2 c2] 30)
    refine ⟨?_, ?_, ?_, ?_, HSP.out, by omega⟩
    · rw [hw3]; exact row_alloc (row_keep R1.out hS.2 HNE.out) _
    · rw [hw3, hg7]; exact heap_alloc_new w2 _
    · rw [hw3]
      have h1 : HeldH (fun k => k < w1.heap.size ∨ k = g7) w2 fun W => TrAt W A2 m2 c2 t0 := HeldH.mono hT fun i hi e => by
        rcases e with e | e
        · exact e
        · omega
      exact h1.keep (H' := fun _ => False) (AgH.of_below al) fun _ _ e => e.elim
    · rw [hw3]
      exact (Turned.of_below HB1.out hS).below al)
  have HW3 := Lib.hid hw3.symm
  have HG7 := Lib.hid hg7.symm
  clear hT hS hw3 hg7 HSP HB1 R1 HP1 HS CU
  go_upto_region 2 with fail
  rw [HW3.out, HG7.out]
  go_wp2_with fail
  go_loopg [] (T.length + 1) (fun n wr => ∃ (t : Tr) (s1 : Ps) (A1 : Option Addr) (m1 c1 : Nat), Hid (LpI T en g A c h f w w1 g1 g7 st R n t s1 A1 m1 c1 wr) ∧ Hid (s1.vars = s.vars))
  case atStart => exact ⟨t0, s0, A2, m2, c2, HI, HV0⟩
  case round =>
    obtain ⟨t, s1, A1, m1, c1, hI, hv⟩ := hrel
    obtain ⟨n, rfl⟩ : ∃ n, gk = n + 1 := ⟨gk - 1, by have := hI.out.fu; have := hI.out.tn.1.at_; omega⟩
    have cS := pa_sees wr (Lib.hid hI.out.tn.1)
    have HSG := Lib.hid (show signB (ktOf T) st s1 = (isOp (seesP (ktOf T) s1) && decide (st < strI (opN (seesP (ktOf T) s1)))) from rfl)
    have HLT := Lib.hid (show signB (ktOf T) st s1 = true → s1.at_ < T.length from fun e => by have := (sign_lt e).2; rwa [ktOf_len] at this)
    have hlo := strI_lo (opN (seesP (ktOf T) s1))
    obtain ⟨S, hS⟩ : ∃ S, S = seesP (ktOf T) s1 := ⟨_, rfl⟩
    rw [← hS] at cS HSG hlo
    have cO := fun W => calc_Op S W
    have cT := fun W => calc_Strength (opN S) W
    obtain ⟨op, hop⟩ : ∃ x, x = opN S := ⟨_, rfl⟩
    obtain ⟨io, hio⟩ : ∃ x, x = isOp S := ⟨_, rfl⟩
    obtain ⟨sx, hsx⟩ : ∃ x, x = strI (opN S) := ⟨_, rfl⟩
    rw [← hop, ← hio] at cO
    rw [← hsx, ← hop] at cT
    rw [← hsx, ← hio] at HSG
    rw [← hsx] at hlo
    have HOP := Lib.hid (show op = opN (seesP (ktOf T) s1) by rw [hop, hS])
    have HSX := Lib.hid (show sx = strI (opN (seesP (ktOf T) s1)) by rw [hsx, hS])
    have CS := Lib.hid cS
    have CO := Lib.hid cO
    have CT := Lib.hid cT
    obtain ⟨hl0, hl1⟩ := hlo
    have HNX := Lib.hid (show signB (ktOf T) st s1 = false → R = (t, s1) from fun e => by
      have h1 := hI.out.sp
      rw [loopP, if_neg (by rw [e]; decide)] at h1
      exact h1.symm)
    clear cS cO cT hop hio hsx hS
    cases io with
    | false =>
      have HRR := Lib.hid (HNX.out (by rw [HSG.out]; rfl))
      clear HNX HLT HSG
      go_wp2_with (first
        | (go_at_call 66; refine CS.out.mono ?_; rintro e w4 ⟨rfl, hb⟩; have HB4 := Lib.hid hb; clear hb)
        | (go_at_call 65; refine (CO.out _).mono ?_; rintro e w5 ⟨rfl, hb⟩; have HB5 := Lib.hid (below_then HB4.out hb); have q1 := row_below hI.out.r1 HB5.out; have HQ1 := Lib.hid q1; have q7 := row_below hI.out.r7 HB5.out; have c0 := row_cell q1 0 _ rfl; have c1' := row_cell q1 1 _ rfl; have c2' := row_cell q1 2 _ rfl; have f0 := frozen_row (o := 0) q1; have f1 := frozen_row (o := 1) q1; have f2 := frozen_row (o := 2) q1; have d0 := row_cell q7 0 _ rfl; have d1 := row_cell q7 1 _ rfl; have d2 := row_cell q7 2 _ rfl; clear q1 q7; clear hb)
        | (go_at_call 67; refine (CT.out _).mono ?_; rintro e w6 ⟨rfl, rfl⟩)
        | fail)
      have hsz := HSZ.out
      have hG := HG.out
      refine bodyPost_ret (res_expr (row_put3 HQ1.out _ _ _) rfl) rfl ?_
      rw [HRR.out]
      refine exp_finish hp.out (Below.refl _ _) (hI.out.tn.below HB5.out) hv.out (ag_put3 (AgH.refl _ _) (.inl ⟨by omega, HNE.out⟩) _ _ _) ?_
      exact (((hI.out.tr.keep (H' := fun _ => False) (AgH.of_below HB5.out) fun _ _ e => e.elim).keep (ag_put3 (H := only g1) (AgH.refl _ _) (.inl rfl) _ _ _) fun i _ e => by rw [show i = g1 from e]; exact .inl (by omega)).mono fun i _ e => .inl (by have : i < w.heap.size := e; omega))
    | true =>
      by_cases hlt : st < sx
      case neg =>
        have hle : sx ≤ st := by omega
        have HRR := Lib.hid (HNX.out (by rw [HSG.out, decide_eq_false hlt]; rfl))
        clear HNX HLT HSG
        go_wp2_with (first
          | (go_at_call 66; refine CS.out.mono ?_; rintro e w4 ⟨rfl, hb⟩; have HB4 := Lib.hid hb; clear hb)
          | (go_at_call 65; refine (CO.out _).mono ?_; rintro e w5 ⟨rfl, hb⟩; have HB5 := Lib.hid (below_then HB4.out hb); have q1 := row_below hI.out.r1 HB5.out; have HQ1 := Lib.hid q1; have q7 := row_below hI.out.r7 HB5.out; have c0 := row_cell q1 0 _ rfl; have c1' := row_cell q1 1 _ rfl; have c2' := row_cell q1 2 _ rfl; have f0 := frozen_row (o := 0) q1; have f1 := frozen_row (o := 1) q1; have f2 := frozen_row (o := 2) q1; have d0 := row_cell q7 0 _ rfl; have d1 := row_cell q7 1 _ rfl; have d2 := row_cell q7 2 _ rfl; clear q1 q7; clear hb)
          | (go_at_call 67; refine (CT.out _).mono ?_; rintro e w6 ⟨rfl, rfl⟩)
          | fail)
        have hsz := HSZ.out
        have hG := HG.out
        refine bodyPost_ret (res_expr (row_put3 HQ1.out _ _ _) rfl) rfl ?_
        rw [HRR.out]
        refine exp_finish hp.out (Below.refl _ _) (hI.out.tn.below HB5.out) hv.out (ag_put3 (AgH.refl _ _) (.inl ⟨by omega, HNE.out⟩) _ _ _) ?_
        exact (((hI.out.tr.keep (H' := fun _ => False) (AgH.of_below HB5.out) fun _ _ e => e.elim).keep (ag_put3 (H := only g1) (AgH.refl _ _) (.inl rfl) _ _ _) fun i _ e => by rw [show i = g1 from e]; exact .inl (by omega)).mono fun i _ e => .inl (by have : i < w.heap.size := e; omega))
      case pos =>
        have hnl : ¬ sx ≤ st := by omega
        have HT1 := Lib.hid (show signB (ktOf T) st s1 = true by rw [HSG.out, decide_eq_true hlt]; rfl)
        have hat := HLT.out HT1.out
        have HAT := Lib.hid hat
        obtain ⟨r, hr⟩ : ∃ r, r = (exprsP (ktOf T) f).2 (strI (opN (seesP (ktOf T) s1))) (stepP s1) := ⟨_, rfl⟩
        have cX := fun W (hW : PAt T en g A c h (stepP s1) W) => hX.out sx (stepP s1) W (by omega) hl1 hW
        rw [HSX.out, ← hr, ← HSX.out] at cX
        obtain ⟨u, s3⟩ := r
        have CX := Lib.hid cX
        have HR3 := Lib.hid hr
        have hs8 := hp.out.small.len
        clear cX hr HNX HLT HSG
        go_wp2_with (first
          | (go_at_call 66; refine CS.out.mono ?_; rintro e w4 ⟨rfl, hb⟩; have HB4 := Lib.hid hb; clear hb)
          | (go_at_call 65; refine (CO.out _).mono ?_; rintro e w5 ⟨rfl, hb⟩; have HB5 := Lib.hid (below_then HB4.out hb); have b1 := (hI.out.tn.1.below HB5.out).blk.c1; have fb := (hI.out.tn.1.below HB5.out).blk.froz 1; clear hb)
          | (go_at_call 67; refine (CT.out _).mono ?_; rintro e w6 ⟨rfl, rfl⟩)
          | fail)
        obtain ⟨w7, hw7⟩ : ∃ y, y = w5.setCell ⟨g, 1, none⟩ (.int .i64 ((s1.at_ : Int) + 1)) := ⟨_, rfl⟩
        rw [← hw7]
        have ht7 : Turned T en g A c h (stepP s1) wr w7 := by rw [hw7]; exact turned_step hI.out.tn.1 HB5.out HAT.out
        have ne7 : g7 ≠ g := by have := H17.out; have := HSZ.out; have := HGL.out; omega
        have HNE7 := Lib.hid ne7
        have r7 := row_keep hI.out.r7 ht7.2 ne7
        have q0 := row_cell r7 0 _ rfl
        have q1 := row_cell r7 1 _ rfl
        have q2 := row_cell r7 2 _ rfl
        have HT7 := Lib.hid ht7
        have HT7D : Hid (Turned T en g A c h (stepP s1) wr w7.drew) := Lib.hid (ht7.below (below_drewN' (Below.refl _ w7) 1))
        have HPD := Lib.hid HT7D.out.1
        have HR7 := Lib.hid r7
        clear hw7 ht7 ne7 r7 b1 fb
        go_region_law (first
          | (go_simp; go_at_call 29; refine (CX.out _ HPD.out).mono ?_; rintro e w8 ⟨A3, m3, c3, rfl, hT8', hS8'⟩
             have hT8 := Lib.hid hT8'
             have hS8 := Lib.hid hS8'
             have hR8 := Lib.hid (row_keep (o := .cells #[.int .i64 t.kind, .int .i64 t.num, .slice A1 m1 c1] 30 (0, 0)) (w := w7.drew) HR7.out hS8'.2 HNE7.out)
             have p0 := row_cell hR8.out 0 _ rfl
             have p1 := row_cell hR8.out 1 _ rfl
             have p2 := row_cell hR8.out 2 _ rfl
             have pa : ∀ o j u, w8.cell? ⟨g7, j, none⟩ = some u → (w8.alloc o).cell? ⟨g7, j, none⟩ = some u := fun o j u hu => cell_kept (alrB w8 o) hu
             have q0' := fun o => pa o 0 _ p0
             have q1' := fun o => pa o 1 _ p1
             have q2' := fun o => pa o 2 _ p2
             have f8 : ∀ o j, (w8.alloc o).frozen? ⟨g7, j, none⟩ = false := fun o j => frozen_row (row_alloc hR8.out o)
             clear hT8' hS8' pa))
        all_goals
          have hG := HG.out
          have HSTEP := Lib.hid (hI.out.step hp.out HSZ.out HGL.out (by omega) H17.out hv.out HT1.out HR3.out HT7D.out hS8.out hT8.out (ag_put3 (H := only g7) (AgH.refl _ _) (.inl rfl) (.int .i64 5) (.int .i64 op) (.slice (some ⟨w8.heap.size, 0, none⟩) 2 2)) (by rw [← HOP.out]; exact row_put3 (row_alloc hR8.out _) _ _ _))
          have HV3 := Lib.hid (show s3.vars = s.vars by
            have m3 := (mv_exprs (K := (ktOf T)) f).2 (strI (opN (seesP (ktOf T) s1))) (stepP s1)
            rw [← HR3.out] at m3
            exact m3.vars.trans hv.out)
          clear hG p0 p1 p2 q0' q1' q2' f8 q0 q1 q2
          go_wp2_with fail
          go_roundg n
          case measure => omega
          case rel => exact ⟨_, s3, _, _, _, HSTEP, HV3⟩
end
end Go.Proofs.YtkpjhjoopdbkaaaGreatDoor
namespace Go.Proofs.YtkpjhjoopdbkaaaGreatDoor
open Go.RowKit
section
variable {T : List Tok} {en : Int} {g : Nat} {A : Option Addr} {c : Nat} {h : Hs} {s : Ps}
set_option maxHeartbeats 2000000 in
theorem pa_unary0 (w : World) (hp : Hid (PAt T en g A c h s w)) : Calls Tryz.prog 64 #[.pointer (some ⟨g, 0, none⟩), .int .i64 41] w (ExP T en g A c h (.mk 0 0 [], wrongP 2 s) w) := by
  have hgl := hp.out.blk.lt
  obtain ⟨w1, hw1⟩ : ∃ y, y = w.alloc (.cells #[.int .i64 0, .int .i64 0, .slice none 0 0] 30) := ⟨_, rfl⟩
  have HB1 := Lib.hid (show Below w.heap.size w w1 by rw [hw1]; exact alrB w _)
  have R1 := Lib.hid (show w1.heap[w.heap.size]? = some (.cells #[.int .i64 0, .int .i64 0, .slice none 0 0] 30 (0, 0)) by rw [hw1]; exact heap_alloc_new w _)
  have HP1 := Lib.hid (hp.out.below HB1.out)
  have HW := Lib.hid hw1.symm
  have hsz : w1.heap.size = w.heap.size + 1 := by rw [hw1, World.size_alloc]
  obtain ⟨g1, hg1⟩ : ∃ y, y = w.heap.size := ⟨_, rfl⟩
  have HG := Lib.hid hg1.symm
  rw [← hg1] at R1
  have hne : g1 ≠ g := by omega
  have HNE := Lib.hid hne
  have HSZ := Lib.hid hsz
  clear hw1 hg1 hsz
  have CW := Lib.hid (pa_wrong 2 (by decide) w1 HP1)
  have HMV := Lib.hid (mv_wrong (K := (ktOf T)) 2 s).vars
  go_enter Tryz.func64, Tryz.ntmps64
  go_upto_region 1 with fail
  rw [HW.out, HG.out]
  go_wp2_with fail
  refine CW.out.mono ?_
  rintro e w2 ⟨rfl, hT⟩
  have HT := Lib.hid hT
  have R9 := row_keep R1.out hT.2 HNE.out
  have HR9 := Lib.hid R9
  have c0 := row_cell R9 0 _ rfl
  have c1 := row_cell R9 1 _ rfl
  have c2' := row_cell R9 2 _ rfl
  have f0 := frozen_row (o := 0) R9
  have f1 := frozen_row (o := 1) R9
  have f2 := frozen_row (o := 2) R9
  clear hT R9
  go_wp2
  have hG := HG.out
  refine bodyPost_ret (res_unary (row_put3 HR9.out _ _ _) rfl) rfl ?_
  refine exp_finish (t := .mk 0 0 []) hp.out HB1.out HT.out HMV.out (ag_put3 (AgH.refl _ _) (.inl ⟨by omega, HNE.out⟩) _ _ _) ?_
  exact TrH.leaf _ _ (by unfold I64; omega) (by unfold I64; omega)
set_option maxRecDepth 100000 in
set_option maxHeartbeats 4000000 in
theorem pa_expr0 (st : Int) (w : World) (hp : Hid (PAt T en g A c h s w)) : Calls Tryz.prog 29 #[.pointer (some ⟨g, 0, none⟩), .int .i64 st, .int .i64 41] w (ExP T en g A c h (.mk 0 0 [], wrongP 2 s) w) := by
  have hgl := hp.out.blk.lt
  obtain ⟨w1, hw1⟩ : ∃ y, y = w.alloc (.cells #[.int .i64 0, .int .i64 0, .slice none 0 0] 30) := ⟨_, rfl⟩
  have HB1 := Lib.hid (show Below w.heap.size w w1 by rw [hw1]; exact alrB w _)
  have R1 := Lib.hid (show w1.heap[w.heap.size]? = some (.cells #[.int .i64 0, .int .i64 0, .slice none 0 0] 30 (0, 0)) by rw [hw1]; exact heap_alloc_new w _)
  have HP1 := Lib.hid (hp.out.below HB1.out)
  have HW := Lib.hid hw1.symm
  have hsz : w1.heap.size = w.heap.size + 1 := by rw [hw1, World.size_alloc]
  obtain ⟨g1, hg1⟩ : ∃ y, y = w.heap.size := ⟨_, rfl⟩
  have HG := Lib.hid hg1.symm
  rw [← hg1] at R1
  have hne : g1 ≠ g := by omega
  have HNE := Lib.hid hne
  have HSZ := Lib.hid hsz
  clear hw1 hg1 hsz
  have CU := Lib.hid (pa_unary0 w1 HP1)
  have HMV := Lib.hid (mv_wrong (K := (ktOf T)) 2 s).vars
  have HES := Lib.hid (show seesP (ktOf T) (wrongP 2 s) = ByteArray.empty from sees_stuck (wrong_err (by decide)))
  have CO := Lib.hid (fun W => (show Calls Tryz.prog 65 #[.string ByteArray.empty] W fun e w' => e = .returned (.tuple #[.int .i64 (opN ByteArray.empty), .bool false]) ∧ Below W.heap.size W w' from calc_Op ByteArray.empty W))
  have CT := Lib.hid (fun W => calc_Strength (opN ByteArray.empty) W)
  obtain ⟨sx, hsx⟩ : ∃ x, x = strI (opN ByteArray.empty) := ⟨_, rfl⟩
  obtain ⟨op, hop⟩ : ∃ x, x = opN ByteArray.empty := ⟨_, rfl⟩
  rw [← hsx] at CT
  rw [← hop] at CT CO
  obtain ⟨s9, hs9⟩ : ∃ y, y = wrongP 2 s := ⟨_, rfl⟩
  rw [← hs9] at HMV HES CU ⊢
  clear hsx hop hs9
  go_enter Tryz.func29, Tryz.ntmps29
  go_upto_region 1 with fail
  rw [HW.out, HG.out]
  go_wp2_with fail
  refine CU.out.mono ?_
  rintro e w2 ⟨A2, m2, c2, he, hT, hS⟩
  have HT := Lib.hid hT
  have HS := Lib.hid hS
  subst he
  obtain ⟨w3, hw3⟩ : ∃ y, y = w2.alloc (.cells #[.int .i64 0, .int .i64 0, .slice A2 m2 c2] 30) := ⟨_, rfl⟩
  obtain ⟨g7, hg7⟩ : ∃ y, y = w2.heap.size := ⟨_, rfl⟩
  have HB3 := Lib.hid (show Below w2.heap.size w2 w3 by rw [hw3]; exact alrB _ _)
  have R7 := Lib.hid (show w3.heap[g7]? = some (.cells #[.int .i64 0, .int .i64 0, .slice A2 m2 c2] 30 (0, 0)) by rw [hw3, hg7]; exact heap_alloc_new w2 _)
  have R13 := Lib.hid (show w3.heap[g1]? = some (.cells #[.int .i64 0, .int .i64 0, .slice none 0 0] 30 (0, 0)) by rw [hw3]; exact row_alloc (row_keep R1.out hS.2 HNE.out) _)
  have HW3 := Lib.hid hw3.symm
  have HG7 := Lib.hid hg7.symm
  have HSZ2 := Lib.hid hS.2.size
  clear hT hS hw3 hg7
  go_upto_region 2 with fail
  rw [show (.mk 0 0 [] : Tr).kind = 0 from rfl, show (.mk 0 0 [] : Tr).num = 0 from rfl, HW3.out, HG7.out]
  go_wp2_with fail
  go_loopg [] 1 (fun _ wr => wr = w3)
  case atStart => rfl
  case round =>
    have hrel2 := hrel
    subst hrel2
    have cS := pa_sees _ (Lib.hid (HS.out.1.below HB3.out))
    rw [HES.out] at cS
    have CS := Lib.hid cS
    clear cS
    go_wp2_with (first
      | (go_at_call 66; refine CS.out.mono ?_; rintro e w4 ⟨rfl, hb⟩; have HB4 := Lib.hid hb; clear hb)
      | (go_at_call 65; refine (CO.out _).mono ?_; rintro e w5 ⟨rfl, hb⟩; have HB5 := Lib.hid (below_then HB4.out hb); have q1 := row_below R13.out HB5.out; have HQ1 := Lib.hid q1; have q7 := row_below R7.out HB5.out; have c0 := row_cell q1 0 _ rfl; have c1' := row_cell q1 1 _ rfl; have c2' := row_cell q1 2 _ rfl; have f0 := frozen_row (o := 0) q1; have f1 := frozen_row (o := 1) q1; have f2 := frozen_row (o := 2) q1; have d0 := row_cell q7 0 _ rfl; have d1 := row_cell q7 1 _ rfl; have d2 := row_cell q7 2 _ rfl; clear q1 q7; clear hb)
      | (go_at_call 67; refine (CT.out _).mono ?_; rintro e w6 ⟨rfl, rfl⟩)
      | fail)
    have hsz := HSZ.out
    have hG := HG.out
    refine bodyPost_ret (res_expr (row_put3 HQ1.out _ _ _) rfl) rfl ?_
    refine exp_finish (t := .mk 0 0 []) hp.out HB1.out ((HS.out.below HB3.out).below HB5.out) HMV.out (ag_put3 (AgH.refl _ _) (.inl ⟨by omega, HNE.out⟩) _ _ _) ?_
    refine TrH.go (B := w1.heap.size) (H := only g1) (W := _) (((show TrH w1.heap.size w2 A2 m2 c2 (.mk 0 0 []) from HT.out).keep (H' := fun _ => False) (AgH.of_below (below_then HB3.out HB5.out)) fun _ _ e => e.elim)) (ag_put3 (H := only g1) (AgH.refl _ _) (.inl rfl) _ _ _) (fun i _ e => by rw [show i = g1 from e]; omega) (by omega)
/-- All parts and expressions are read. -/
theorem pa_exprs : ∀ (f : Nat), f ≤ 40 → UnC T en g A c h f (41 - (f : Int)) ∧ ExC T en g A c h f (41 - (f : Int))
  | 0, _ => ⟨fun s w hp => pa_unary0 w (Lib.hid hp), fun st s w _ _ hp => pa_expr0 st w (Lib.hid hp)⟩
  | f + 1, hf => by
    obtain ⟨hU, hX⟩ := pa_exprs f (by omega)
    have e : (41 : Int) - (f : Int) = (41 - ((f + 1 : Nat) : Int)) + 1 := by omega
    have hU2 : UnC T en g A c h (f + 1) (41 - ((f + 1 : Nat) : Int)) := fun s w hp => pa_unary f _ _ (by omega) (by omega) (Lib.hid e) (Lib.hid hU) (Lib.hid hX) w (Lib.hid hp)
    exact ⟨hU2, fun st s w h1 h2 hp => pa_expr f _ _ st (by omega) (by omega) (Lib.hid e) h1 h2 (Lib.hid hU2) (Lib.hid hX) w (Lib.hid hp)⟩
theorem pa_expr1 (w : World) (hp : Hid (PAt T en g A c h s w)) : Calls Tryz.prog 29 #[.pointer (some ⟨g, 0, none⟩), .int .i64 0, .int .i64 1] w (ExP T en g A c h (exprP (ktOf T) 0 s) w) :=
  (pa_exprs 40 (Nat.le_refl _)).2 0 s w (by omega) (by omega) hp.out
end
end Go.Proofs.YtkpjhjoopdbkaaaGreatDoor
