/- Joined: Package parse: told, Expr. Printed by gen_paG.py. The net under way, in memory. Printed by gen_paN.py. The net's rows grow. Printed by gen_paO.py. -/
import Derived.Test.YtkpjhjoopdbkaaaGreatDoorG11
namespace Go.Proofs.YtkpjhjoopdbkaaaGreatDoor
open Go.RowKit
theorem res_told {W : World} {b : Nat} {x y p q : Int} {A : Option Addr} {m c : Nat} {tmps : Array Value} (h : W.heap[b]? = some (.cells #[.int .i64 x, .int .i64 y, .slice A m c] 30 (0, 0))) (h4 : tmps[4]? = some (.pointer (some ⟨b, 0, none⟩))) (h5 : tmps[5]? = some (.int .i64 p)) (h6 : tmps[6]? = some (.int .i64 q)) :
    (results Tryz.f28 tmps).run Tryz.prog W = .ok (.tuple #[.agg #[.int .i64 x, .int .i64 y, .slice A m c], .int .i64 p, .int .i64 q]) W := by
  have q0 := row_cell h 0 _ rfl
  have q1 := row_cell h 1 _ rfl
  have q2 := row_cell h 2 _ rfl
  simp [results, Tryz.results28, go_sem, q0, q1, q2, h4, h5, h6]
theorem res_Expr {W : World} {b : Nat} {x y p q : Int} {A : Option Addr} {m c : Nat} {tmps : Array Value} (h : W.heap[b]? = some (.cells #[.int .i64 x, .int .i64 y, .slice A m c] 30 (0, 0))) (h4 : tmps[6]? = some (.pointer (some ⟨b, 0, none⟩))) (h5 : tmps[7]? = some (.int .i64 p)) (h6 : tmps[8]? = some (.int .i64 q)) :
    (results Tryz.f10 tmps).run Tryz.prog W = .ok (.tuple #[.agg #[.int .i64 x, .int .i64 y, .slice A m c], .int .i64 p, .int .i64 q]) W := by
  have q0 := row_cell h 0 _ rfl
  have q1 := row_cell h 1 _ rfl
  have q2 := row_cell h 2 _ rfl
  simp [results, Tryz.results10, go_sem, q0, q1, q2, h4, h5, h6]
section
variable {T : List Tok} {en : Int} {g : Nat} {A : Option Addr} {c : Nat} {h : Hs} {s : Ps}
/-- What told tells: x, where nothing was wrong. -/
def ToldP (T : List Tok) (en : Int) (g : Nat) (t : Tr) (A2 : Option Addr) (m2 c2 : Nat) (s' : Ps) (w : World) (e : Ending) (w' : World) : Prop :=
  ((s'.err = 0 ∧ e = .returned (.tuple #[t.val A2 m2 c2, .int .i64 en, .int .i64 0])) ∨ (s'.err ≠ 0 ∧ e = .returned (.tuple #[(Tr.mk 0 0 []).val none 0 0, .int .i64 (placeT T en s'), .int .i64 s'.err]))) ∧ AgH (only g) w w'
set_option maxRecDepth 100000 in
set_option maxHeartbeats 4000000 in
theorem pa_told_e (t : Tr) (A2 : Option Addr) (m2 c2 : Nat) (w : World) (hp : Hid (PAt T en g A c h s w)) :
    Calls Tryz.prog 28 #[.pointer (some ⟨g, 0, none⟩), t.val A2 m2 c2] w (ToldP T en g t A2 m2 c2 (toldS (ktOf T) s) w) := by
  have hgl := hp.out.blk.lt
  obtain ⟨w1, hw1⟩ : ∃ y, y = (w.alloc (.cells #[.int .i64 t.kind, .int .i64 t.num, .slice A2 m2 c2] 30)).alloc (.cells #[.int .i64 0, .int .i64 0, .slice none 0 0] 30) := ⟨_, rfl⟩
  have HB1 := Lib.hid (show Below w.heap.size w w1 by rw [hw1]; exact below_then (alrB w _) (alrB _ _))
  have RX := Lib.hid (show w1.heap[w.heap.size]? = some (.cells #[.int .i64 t.kind, .int .i64 t.num, .slice A2 m2 c2] 30 (0, 0)) by rw [hw1]; exact row_alloc (heap_alloc_new w _) _)
  have R1 := Lib.hid (show w1.heap[w.heap.size + 1]? = some (.cells #[.int .i64 0, .int .i64 0, .slice none 0 0] 30 (0, 0)) by rw [hw1, ← World.size_alloc w (.cells #[.int .i64 t.kind, .int .i64 t.num, .slice A2 m2 c2] 30)]; exact heap_alloc_new _ _)
  have HP1 := Lib.hid (hp.out.below HB1.out)
  have HW := Lib.hid hw1.symm
  obtain ⟨g3, hg3⟩ : ∃ y, y = w.heap.size := ⟨_, rfl⟩
  have HG := Lib.hid hg3.symm
  rw [← hg3] at RX R1
  have HNE := Lib.hid (show g3 ≠ g by omega)
  have HNE1 := Lib.hid (show g3 + 1 ≠ g by omega)
  have HGW := Lib.hid (show w.heap.size ≤ g3 by omega)
  have CW := Lib.hid (fun W (q : Nat) (hW : PAt T en g A c h s W) => pa_wrong 4 (by decide) (W.drewN q) (Lib.hid (hW.drewN q)))
  have b0 := HP1.out.blk.c0
  have b1 := HP1.out.blk.c1
  have HTS := Lib.hid (show toldS (ktOf T) s = if s.at_ < T.length then wrongP 4 s else s by unfold toldS; rw [ktOf_len])
  obtain ⟨s9, hs9⟩ : ∃ y, y = toldS (ktOf T) s := ⟨_, rfl⟩
  rw [← hs9] at HTS ⊢
  clear hw1 hg3 hs9
  by_cases hlt : s.at_ < T.length
  · have hlt2 : (s.at_ : Int) < (T.length : Int) := by omega
    have d1 : decide ((s.at_ : Int) < (T.length : Int)) = true := by simpa using hlt
    have HS9 := Lib.hid (show s9 = wrongP 4 s by rw [HTS.out, if_pos hlt])
    have HER := Lib.hid (show s9.err ≠ 0 by rw [HS9.out]; exact wrong_err (by decide))
    go_enter Tryz.func28, Tryz.ntmps28
    go_upto_region 1 with fail
    rw [HW.out, HG.out]
    go_quiet (fail)
    go_wp2_with fail
    refine (CW.out _ _ HP1.out).mono ?_
    rintro e w2 ⟨rfl, hT⟩
    rw [← HS9.out] at hT
    have HT := Lib.hid hT
    have HA := Lib.hid (show AgH (only g) w1 w2 from ((AgH.refl (only g) w1).drewN _).trans hT.2)
    have b3 := hT.1.blk.c3
    have z1 : (s9.err != 0) = true := by have := HER.out; simpa using this
    clear hT b0 b1
    go_upto_region 4 with fail
    have al := alrB w2 (.cells #[.int .i64 0, .int .i64 0, .slice none 0 0] 30)
    have HAL := Lib.hid al
    have R7 := heap_alloc_new w2 (.cells #[.int .i64 0, .int .i64 0, .slice none 0 0] 30)
    have R4 := row_alloc (row_keep R1.out HA.out HNE1.out) (.cells #[.int .i64 0, .int .i64 0, .slice none 0 0] 30)
    have HP4 := HT.out.1.below al
    obtain ⟨w4, hw4⟩ : ∃ y, y = w2.alloc (.cells #[.int .i64 0, .int .i64 0, .slice none 0 0] 30) := ⟨_, rfl⟩
    rw [← hw4] at R7 R4 HP4 HAL
    have c0 := row_cell R7 0 _ rfl
    have c1' := row_cell R7 1 _ rfl
    have c2' := row_cell R7 2 _ rfl
    have p0 := row_cell R4 0 _ rfl
    have p1 := row_cell R4 1 _ rfl
    have p2 := row_cell R4 2 _ rfl
    have f0 := frozen_row (o := 0) R4
    have f1 := frozen_row (o := 1) R4
    have f2 := frozen_row (o := 2) R4
    have b3' := HP4.blk.c3
    have b4' := HP4.blk.c4
    have HR4 := Lib.hid R4
    have HW4 := Lib.hid hw4.symm
    clear al R7 R4 HP4 hw4 b3
    go_upto_region 5 with fail
    rw [HW4.out]
    go_region
    go_wp2
    refine bodyPost_ret (res_told (row_drewN (row_put3 HR4.out _ _ _) 1) rfl rfl rfl) rfl ⟨.inr ⟨HER.out, rfl⟩, ?_⟩
    exact (ag_put3 (((AgH.of_below HB1.out).trans HA.out).trans (AgH.of_below HAL.out)) (.inr (by have := HGW.out; omega)) _ _ _).drew
  ·
    have HS9 := Lib.hid (show s9 = s by rw [HTS.out, if_neg hlt])
    have d1 : decide ((s.at_ : Int) < (T.length : Int)) = false := by simp; omega
    have b3 := HP1.out.blk.c3
    have b2 := HP1.out.blk.c2
    have HP9 := Lib.hid (show PAt T en g A c h s9 w1 by rw [HS9.out]; exact HP1.out)
    by_cases he : s.err = 0
    · have z1 : (s.err != 0) = false := by simpa using he
      have HE := Lib.hid (show s9.err = 0 by rw [HS9.out]; exact he)
      have x0 := row_cell RX.out 0 _ rfl
      have x1 := row_cell RX.out 1 _ rfl
      have x2 := row_cell RX.out 2 _ rfl
      have p0 := row_cell R1.out 0 _ rfl
      have p1 := row_cell R1.out 1 _ rfl
      have p2 := row_cell R1.out 2 _ rfl
      have f0 := frozen_row (o := 0) R1.out
      have f1 := frozen_row (o := 1) R1.out
      have f2 := frozen_row (o := 2) R1.out
      have hne1 := HNE1.out
      have hne2 : g ≠ g3 + 1 := fun e => hne1 e.symm
      clear he
      go_enter Tryz.func28, Tryz.ntmps28
      go_upto_region 1 with fail
      rw [HW.out, HG.out]
      go_quiet (fail)
      go_wp2_with fail
      go_region
      go_wp2
      refine bodyPost_ret (res_told (row_drewN (row_put3 (row_drewN R1.out _) _ _ _) 1) rfl rfl rfl) rfl ⟨.inl ⟨HE.out, rfl⟩, ?_⟩
      exact ag_put3 ((AgH.of_below (H := only g) HB1.out).drewN _) (.inr (by have := HGW.out; omega)) _ _ _
    · have z1 : (s.err != 0) = true := by simpa using he
      have HER := Lib.hid (show s9.err ≠ 0 by rw [HS9.out]; exact he)
      clear he b2
      go_enter Tryz.func28, Tryz.ntmps28
      go_upto_region 1 with fail
      rw [HW.out, HG.out]
      go_quiet (fail)
      go_upto_region 4 with fail
      obtain ⟨w2, hw2⟩ : ∃ y, y = w1.drewN nq := ⟨_, rfl⟩
      have HA := Lib.hid (show AgH (only g) w1 w2 by rw [hw2]; exact (AgH.refl (only g) w1).drewN _)
      have HT2 : PAt T en g A c h s w2 := by rw [hw2]; exact HP1.out.drewN _
      rw [← hw2]
      have al := alrB w2 (.cells #[.int .i64 0, .int .i64 0, .slice none 0 0] 30)
      have HAL := Lib.hid al
      have R7 := heap_alloc_new w2 (.cells #[.int .i64 0, .int .i64 0, .slice none 0 0] 30)
      have R4 := row_alloc (row_keep R1.out HA.out HNE1.out) (.cells #[.int .i64 0, .int .i64 0, .slice none 0 0] 30)
      have HP4 := HT2.below al
      obtain ⟨w4, hw4⟩ : ∃ y, y = w2.alloc (.cells #[.int .i64 0, .int .i64 0, .slice none 0 0] 30) := ⟨_, rfl⟩
      rw [← hw4] at R7 R4 HP4 HAL
      have c0 := row_cell R7 0 _ rfl
      have c1' := row_cell R7 1 _ rfl
      have c2' := row_cell R7 2 _ rfl
      have p0 := row_cell R4 0 _ rfl
      have p1 := row_cell R4 1 _ rfl
      have p2 := row_cell R4 2 _ rfl
      have f0 := frozen_row (o := 0) R4
      have f1 := frozen_row (o := 1) R4
      have f2 := frozen_row (o := 2) R4
      have b3' := HP4.blk.c3
      have b4' := HP4.blk.c4
      have HR4 := Lib.hid R4
      have HW4 := Lib.hid hw4.symm
      clear al R7 R4 HP4 hw4 hw2 HT2 b0 b1 b3
      go_upto_region 5 with fail
      rw [HW4.out]
      go_region
      go_wp2
      refine bodyPost_ret (res_told (row_drewN (row_put3 HR4.out _ _ _) 1) rfl rfl rfl) rfl ⟨.inr ⟨HER.out, by rw [HS9.out]; rfl⟩, ?_⟩
      exact (ag_put3 (((AgH.of_below HB1.out).trans HA.out).trans (AgH.of_below HAL.out)) (.inr (by have := HGW.out; omega)) _ _ _).drew
/-- What Expr tells. -/
def exprAll (T : List Tok) (en : Int) (names : List ByteArray) : Tr × Int × Int :=
  let r := exprP (ktOf T) 0 { Ps.zero with vars := names }
  if (toldS (ktOf T) r.2).err = 0 then (r.1, en, 0) else (.mk 0 0 [], placeT T en (toldS (ktOf T) r.2), (toldS (ktOf T) r.2).err)
def ExprAns (r : Tr × Int × Int) (w : World) (e : Ending) (w' : World) : Prop :=
  ∃ A2 m2 c2, e = .returned (.tuple #[r.1.val A2 m2 c2, .int .i64 r.2.1, .int .i64 r.2.2]) ∧ TrAt w' A2 m2 c2 r.1 ∧ Below w.heap.size w w'
set_option maxRecDepth 100000 in
set_option maxHeartbeats 4000000 in
theorem pa_Expr (names : List ByteArray) (A4 : Option Addr) (n4 c4 : Nat) (w : World) (hT : Hid (TokS T)) (ht : Hid (TabOk w)) (hA : Hid (Sl w (.slice A T.length c) T.length 3 (toksCells T))) (hN : Hid (Sl w (.slice A4 n4 c4) n4 1 (strCells names))) :
    Calls Tryz.prog 10 #[.slice A T.length c, .int .i64 en, .slice A4 n4 c4] w (ExprAns (exprAll T en names) w) := by
  obtain ⟨w1, hw1⟩ : ∃ y, y = (w.alloc (.cells #[.int .i64 0, .int .i64 0, .slice none 0 0] 30)).alloc (.cells #[.slice A T.length c, .int .i64 0, .int .i64 en, .int .i64 0, .int .i64 0, .slice none 0 0, .slice none 0 0, .slice none 0 0, .int .i64 0, .int .i64 0, .slice A4 n4 c4] 75) := ⟨_, rfl⟩
  have HB1 := Lib.hid (show Below w.heap.size w w1 by rw [hw1]; exact below_then (alrB w _) (alrB _ _))
  have hsz : (w.alloc (.cells #[.int .i64 0, .int .i64 0, .slice none 0 0] 30)).heap.size = w.heap.size + 1 := World.size_alloc _ _
  have R1 := Lib.hid (show w1.heap[w.heap.size]? = some (.cells #[.int .i64 0, .int .i64 0, .slice none 0 0] 30 (0, 0)) by rw [hw1]; exact row_alloc (heap_alloc_new w _) _)
  have RP := Lib.hid (show w1.heap[w.heap.size + 1]? = some (.cells #[.slice A T.length c, .int .i64 0, .int .i64 en, .int .i64 0, .int .i64 0, .slice none 0 0, .slice none 0 0, .slice none 0 0, .int .i64 0, .int .i64 0, .slice A4 n4 c4] 75 (0, 0)) by rw [hw1, ← hsz]; exact heap_alloc_new _ _)
  have hl1 : w1.heap.size = w.heap.size + 2 := by rw [hw1, World.size_alloc, hsz]
  have HP1 : Hid (PAt T en (w.heap.size + 1) A c ⟨none, 0, 0, none, 0, 0, none, 0, 0, 0, 0, A4, n4, c4⟩ { Ps.zero with vars := names } w1) := Lib.hid (by
    have nb : ∀ i, i < w.heap.size → ¬ only (w.heap.size + 1) i := fun i hi e => by have : i = w.heap.size + 1 := e; omega
    refine ⟨RP.out, Nat.zero_le _, hT.out, ?_, ?_, ?_⟩
    · exact HeldH.of_below (B := w.heap.size) (by omega) nb fun W hW => hA.out.below (HB1.out.trans hW)
    · exact HeldH.of_below (B := w.heap.size) (by omega) nb fun W hW => ht.out.below (HB1.out.trans hW)
    · exact HeldH.of_below (B := w.heap.size) (by omega) nb fun W hW => hN.out.below (HB1.out.trans hW))
  have HW := Lib.hid hw1.symm
  obtain ⟨g1, hg1⟩ : ∃ y, y = w.heap.size := ⟨_, rfl⟩
  have HG := Lib.hid hg1.symm
  rw [← hg1] at R1 HP1
  clear RP hsz hw1
  have cX := pa_expr1 w1 HP1
  have HAL := Lib.hid (show exprAll T en names = if (toldS (ktOf T) (exprP (ktOf T) 0 { Ps.zero with vars := names }).2).err = 0 then ((exprP (ktOf T) 0 { Ps.zero with vars := names }).1, en, 0) else (.mk 0 0 [], placeT T en (toldS (ktOf T) (exprP (ktOf T) 0 { Ps.zero with vars := names }).2), (toldS (ktOf T) (exprP (ktOf T) 0 { Ps.zero with vars := names }).2).err) from rfl)
  obtain ⟨r, hr⟩ : ∃ r, r = exprP (ktOf T) 0 { Ps.zero with vars := names } := ⟨_, rfl⟩
  rw [← hr] at cX HAL
  obtain ⟨t, s1⟩ := r
  have CX := Lib.hid cX
  obtain ⟨Z, hZ⟩ : ∃ Z, Z = exprAll T en names := ⟨_, rfl⟩
  rw [← hZ] at HAL ⊢
  have HL1 := Lib.hid hl1
  have HGG := Lib.hid hg1
  clear hr cX hZ hl1 hg1
  go_enter Tryz.func10, Tryz.ntmps10
  go_wp2_with fail
  rw [HW.out, HG.out]
  refine CX.out.mono ?_
  rintro e w2 ⟨A2, m2, c2, rfl, hT2, hS⟩
  have HS := Lib.hid hS
  have HT2 := Lib.hid hT2
  have CT := Lib.hid (pa_told_e t A2 m2 c2 w2 (Lib.hid hS.1))
  have HGN := Lib.hid (show g1 ≠ g1 + 1 by omega)
  clear hT2 hS
  go_wp2_with fail
  refine CT.out.mono ?_
  rintro e w3 ⟨hcase, hA3⟩
  have HA := Lib.hid (HS.out.2.trans hA3)
  have HA3 := Lib.hid hA3
  have R9 := row_keep R1.out (HS.out.2.trans hA3) HGN.out
  have HR9 := Lib.hid R9
  have c0 := row_cell R9 0 _ rfl
  have c1 := row_cell R9 1 _ rfl
  have c2' := row_cell R9 2 _ rfl
  have f0 := frozen_row (o := 0) R9
  have f1 := frozen_row (o := 1) R9
  have f2 := frozen_row (o := 2) R9
  have HFR := Lib.hid (fun x y z => (ag_put3 (H := fun i => i = g1 ∨ i = g1 + 1) (HA.out.mono fun i _ e => .inr e) (.inl (.inl rfl)) x y z))
  have HBE := Lib.hid (fun x y z => HB1.out.trans ((HFR.out x y z).below (B := w.heap.size) (by have := HL1.out; omega) fun i hi e => by have := HGG.out; rcases e with e | e <;> omega))
  clear R9 hA3
  rcases hcase with ⟨he, rfl⟩ | ⟨he, rfl⟩
  · have HZ := Lib.hid (HAL.out.trans (if_pos he))
    clear he
    go_wp2
    refine bodyPost_ret (res_Expr (row_put3 HR9.out _ _ _) rfl rfl rfl) rfl ?_
    rw [HZ.out]
    refine ⟨A2, m2, c2, rfl, ?_, HBE.out _ _ _⟩
    have hg2 := HL1.out
    have hgg := HGG.out
    have h1 := HT2.out.go HA3.out (fun i _ e => by rw [show i = g1 + 1 from e]; omega) (Nat.le_refl _)
    exact (h1.go (ag_put3 (H := only g1) (AgH.refl _ _) (.inl rfl) _ _ _) (fun i _ e => by rw [show i = g1 from e]; omega) (Nat.le_refl _)).now
  · have HZ := Lib.hid (HAL.out.trans (if_neg he))
    clear he
    go_wp2
    refine bodyPost_ret (res_Expr (row_put3 HR9.out _ _ _) rfl rfl rfl) rfl ?_
    rw [HZ.out]
    exact ⟨none, 0, 0, rfl, (TrH.leaf 0 _ (by unfold I64; omega) (by unfold I64; omega)).now, HBE.out _ _ _⟩
end
end Go.Proofs.YtkpjhjoopdbkaaaGreatDoor
namespace Go.Proofs.YtkpjhjoopdbkaaaGreatDoor
open Go.RowKit
/-- A colour, its names' slice. -/
structure ColV where
  c : Col
  A : Option Addr
  n : Nat
  d : Nat
def ColV.cells (k : ColV) : List Value := [.string k.c.name, .int .i64 k.c.kind, .int .i64 k.c.lo, .int .i64 k.c.hi, .slice k.A k.n k.d, .int .i64 k.c.first, .int .i64 k.c.then_]
def ColV.at_ (k : ColV) (W : World) : Prop := Sl W (.slice k.A k.n k.d) k.n 1 (strCells k.c.names) ∧ k.c.ok
/-- A place, its tokens' slice. -/
structure PlV where
  p : Pl
  A : Option Addr
  n : Nat
  d : Nat
def PlV.cells (k : PlV) : List Value := [.string k.p.name, .int .i64 k.p.colour, .slice k.A k.n k.d]
def PlV.at_ (k : PlV) (W : World) : Prop := Sl W (.slice k.A k.n k.d) k.n 2 (pairCells k.p.first) ∧ I64 k.p.colour ∧ ∀ q ∈ k.p.first, I64 q.1 ∧ I64 q.2
/-- A task, its slices. -/
structure TkV where
  t : Tk
  Av : Option Addr
  nv : Nat
  cv : Nat
  Ag : Option Addr
  mg : Nat
  cg : Nat
  Ai : Option Addr
  ni : Nat
  ci : Nat
  Ao : Option Addr
  no : Nat
  co : Nat
  Ac : Option Addr
  nc : Nat
  cc : Nat
def TkV.cells (k : TkV) : List Value := [.string k.t.name, .slice k.Av k.nv k.cv, .int .i64 k.t.guard.kind, .int .i64 k.t.guard.num, .slice k.Ag k.mg k.cg, .int .i64 k.t.join, .int .i64 k.t.split, .slice k.Ai k.ni k.ci, .slice k.Ao k.no k.co, .slice k.Ac k.nc k.cc, .int .i64 k.t.after, .int .i64 k.t.m0, .int .i64 k.t.m1, .int .i64 k.t.m2]
structure TkV.at_ (k : TkV) (W : World) : Prop where
  vars : SlOf 2 VrAt W k.Av k.nv k.cv k.t.vars
  guard : TrAt W k.Ag k.mg k.cg k.t.guard
  ins : SlOf 4 ArAt W k.Ai k.ni k.ci k.t.ins
  outs : SlOf 4 ArAt W k.Ao k.no k.co k.t.outs
  cancel : Sl W (.slice k.Ac k.nc k.cc) k.nc 1 (intCells k.t.cancel)
  i5 : I64 k.t.join
  i6 : I64 k.t.split
  i9 : ∀ x ∈ k.t.cancel, I64 x
  i10 : I64 k.t.after
  i11 : I64 k.t.m0
  i12 : I64 k.t.m1
  i13 : I64 k.t.m2
abbrev Hs.V1 (h : Hs) : Value := .slice h.A1 h.n1 h.c1
abbrev Hs.V2 (h : Hs) : Value := .slice h.A2 h.n2 h.c2
abbrev Hs.V3 (h : Hs) : Value := .slice h.A3 h.n3 h.c3
abbrev Hs.V4 (h : Hs) : Value := .slice h.A4 h.n4 h.c4
/-- The blocks that a reader of nets turns: the parser's, the rows'. -/
def NH (g : Nat) (h : Hs) : Nat → Prop := fun i => i = g ∨ h.V1.ownBlock = some i ∨ h.V2.ownBlock = some i ∨ h.V3.ownBlock = some i ∨ h.V4.ownBlock = some i
/-- These, and what was there before. -/
abbrev NX (base g : Nat) (h : Hs) : Nat → Prop := fun i => i < base ∨ NH g h i
/-- Two rows' blocks are not one. -/
def Apart (V V' : Value) : Prop := ∀ i, V.ownBlock = some i → V'.ownBlock ≠ some i
/-- The parser, the net so far in rows of its own. -/
structure NAt (T : List Tok) (en : Int) (g : Nat) (A : Option Addr) (c : Nat) (base : Nat) (h : Hs) (L1 : List ColV) (L2 : List PlV) (L3 : List TkV) (s : Ps) (w : World) : Prop where
  blk : PBlk w g A T.length c s.at_ en s.err (placeT T en s) h
  at_ : s.at_ ≤ T.length
  small : TokS T
  gb : g < base
  lb : base ≤ w.heap.size
  toks : HeldH (NH g h) w fun W => Sl W (.slice A T.length c) T.length 3 (toksCells T)
  tab : HeldH (NH g h) w TabOk
  e1 : s.cols = L1.map (·.c)
  e2 : s.pls = L2.map (·.p)
  e3 : s.tks = L3.map (·.t)
  e4 : h.f = s.from_
  e5 : h.t = s.to_
  r1 : OwnR 7 ColV.cells ColV.at_ 82 base (NX base g h) h.V1 L1 w
  r2 : OwnR 3 PlV.cells PlV.at_ 66 base (NX base g h) h.V2 L2 w
  r3 : OwnR 14 TkV.cells TkV.at_ 59 base (NX base g h) h.V3 L3 w
  r4 : w.ownsRow base 9 1 h.V4 s.vars.length (strCells s.vars)
  a12 : Apart h.V1 h.V2
  a13 : Apart h.V1 h.V3
  a14 : Apart h.V1 h.V4
  a23 : Apart h.V2 h.V3
  a24 : Apart h.V2 h.V4
  a34 : Apart h.V3 h.V4
  i4 : I64 s.from_
  i5 : I64 s.to_
theorem Apart.symm {V V' : Value} (h : Apart V V') : Apart V' V := fun i e e' => h i e' e
theorem OwnR.rebase {α : Type} {size : Nat} {cells : α → List Value} {Q : α → World → Prop} {ty : TypeId} {base : Nat} {H H' : Nat → Prop} {V : Value} {l : List α} {w : World} (h : OwnR size cells Q ty base H V l w) (hH : ∀ i, i < w.heap.size → H' i → H i ∨ V.ownBlock = some i) : OwnR size cells Q ty base H' V l w :=
  ⟨h.own, fun x hx => (h.held x hx).mono fun i hi e => by
    rcases e with e | e
    · exact hH i hi e
    · exact .inr e⟩
section
variable {T : List Tok} {en : Int} {g : Nat} {A : Option Addr} {c base : Nat} {h : Hs} {L1 : List ColV} {L2 : List PlV} {L3 : List TkV} {s : Ps} {w W : World}
theorem NAt.lt1 (N : NAt T en g A c base h L1 L2 L3 s w) {i : Nat} (e : h.V1.ownBlock = some i) : base ≤ i ∧ i < w.heap.size := N.r1.own.lt i e
theorem NAt.lt2 (N : NAt T en g A c base h L1 L2 L3 s w) {i : Nat} (e : h.V2.ownBlock = some i) : base ≤ i ∧ i < w.heap.size := N.r2.own.lt i e
theorem NAt.lt3 (N : NAt T en g A c base h L1 L2 L3 s w) {i : Nat} (e : h.V3.ownBlock = some i) : base ≤ i ∧ i < w.heap.size := N.r3.own.lt i e
theorem NAt.lt4 (N : NAt T en g A c base h L1 L2 L3 s w) {i : Nat} (e : h.V4.ownBlock = some i) : base ≤ i ∧ i < w.heap.size := N.r4.lt i e
theorem NAt.ne1 (N : NAt T en g A c base h L1 L2 L3 s w) : h.V1.ownBlock ≠ some g := fun e => by have := (N.lt1 e).1; have := N.gb; omega
theorem NAt.ne2 (N : NAt T en g A c base h L1 L2 L3 s w) : h.V2.ownBlock ≠ some g := fun e => by have := (N.lt2 e).1; have := N.gb; omega
theorem NAt.ne3 (N : NAt T en g A c base h L1 L2 L3 s w) : h.V3.ownBlock ≠ some g := fun e => by have := (N.lt3 e).1; have := N.gb; omega
theorem NAt.ne4 (N : NAt T en g A c base h L1 L2 L3 s w) : h.V4.ownBlock ≠ some g := fun e => by have := (N.lt4 e).1; have := N.gb; omega
/-- A row of one's own, read whatever else turns. -/
theorem held_own {w : World} {b : Nat} {e : TypeId} {size n : Nat} {v : Value} {xs : List Value} {H : Nat → Prop} (h : w.ownsRow b e size v n xs) (hn : ∀ i, v.ownBlock = some i → ¬ H i) : HeldH H w fun W => Sl W v n size xs :=
  fun _ a => Sl.of_own (own_keep h a hn)
/-- The parser alone. -/
theorem NAt.pat (N : NAt T en g A c base h L1 L2 L3 s w) : PAt T en g A c h s w := by
  refine ⟨N.blk, N.at_, N.small, N.toks.mono fun i _ e => .inl e, N.tab.mono fun i _ e => .inl e, ?_⟩
  have hl := N.r4.1
  rcases hv : h.V4.ownBlock with _ | i
  all_goals
    have h4 := held_own (H := only g) N.r4 fun i hi e => N.ne4 (by rw [hi]; exact congrArg some e)
    obtain ⟨A4, c4, e4, hc⟩ := own_form N.r4
    have e5 : h.n4 = s.vars.length := by
      have e6 : (Value.slice h.A4 h.n4 h.c4) = .slice A4 s.vars.length c4 := e4
      injection e6
    rw [e5]
    intro W a
    have := h4 W a
    unfold Hs.V4 at this
    rw [e5] at this
    exact this
/-- A call that turned the parser alone. -/
theorem NAt.turn {s' : Ps} (N : NAt T en g A c base h L1 L2 L3 s w) (k : Turned T en g A c h s' w W) (m : Mv (ktOf T) s s') : NAt T en g A c base h L1 L2 L3 s' W := by
  have a := k.2
  refine ⟨k.1.blk, k.1.at_, N.small, N.gb, Nat.le_trans N.lb a.size, ?_, ?_, m.cols.trans N.e1, m.pls.trans N.e2, m.tks.trans N.e3, N.e4.trans m.from_.symm, N.e5.trans m.to_.symm, ?_, ?_, ?_, ?_, N.a12, N.a13, N.a14, N.a23, N.a24, N.a34, ?_, ?_⟩
  · exact N.toks.keep a fun i _ e => .inl e
  · exact N.tab.keep a fun i _ e => .inl e
  · exact N.r1.keep a fun i _ e => ⟨.inr (.inl e), by rw [show i = g from e]; exact N.ne1⟩
  · exact N.r2.keep a fun i _ e => ⟨.inr (.inl e), by rw [show i = g from e]; exact N.ne2⟩
  · exact N.r3.keep a fun i _ e => ⟨.inr (.inl e), by rw [show i = g from e]; exact N.ne3⟩
  · rw [m.vars]; exact own_keep N.r4 a fun i hi e => N.ne4 (by rw [hi]; exact congrArg some e)
  · rw [m.from_]; exact N.i4
  · rw [m.to_]; exact N.i5
/-- What reads a part of a net leaves. -/
def NTurn (T : List Tok) (en : Int) (g : Nat) (A : Option Addr) (c base : Nat) (h : Hs) (s' : Ps) (w w' : World) : Prop :=
  ∃ h' L1' L2' L3', NAt T en g A c base h' L1' L2' L3' s' w' ∧ AgH (NH g h) w w' ∧ ∀ i, i < w.heap.size → NH g h' i → NH g h i
theorem NTurn.of_turn {s' : Ps} (N : NAt T en g A c base h L1 L2 L3 s w) (k : Turned T en g A c h s' w W) (m : Mv (ktOf T) s s') : NTurn T en g A c base h s' w W :=
  ⟨h, L1, L2, L3, N.turn k m, k.2.mono fun _ _ e => .inl e, fun _ _ e => e⟩
end
end Go.Proofs.YtkpjhjoopdbkaaaGreatDoor
namespace Go.Proofs.YtkpjhjoopdbkaaaGreatDoor
open Go.RowKit
theorem OwnR.move {α : Type} {size : Nat} {cells : α → List Value} {Q : α → World → Prop} {ty : TypeId} {base : Nat} {H H' Ha : Nat → Prop} {V : Value} {l : List α} {w W : World} (h : OwnR size cells Q ty base H V l w) (a : AgH Ha w W) (h1 : ∀ i, i < w.heap.size → Ha i → H i ∧ V.ownBlock ≠ some i) (h2 : ∀ i, i < w.heap.size → H' i → H i ∨ V.ownBlock = some i) : OwnR size cells Q ty base H' V l W :=
  ⟨own_keep h.own a fun k hk e => (h1 k (h.own.lt k hk).2 e).2 hk, fun x hx W' a' => h.held x hx W' ((a.mono fun i hi e => .inl (h1 i hi e).1).then_ a' fun i hi e => by
    rcases e with e | e
    · exact h2 i hi e
    · exact .inr e)⟩
theorem HeldH.move {H H' Ha : Nat → Prop} {w W : World} {Q : World → Prop} (h : HeldH H w Q) (a : AgH Ha w W) (h1 : ∀ i, i < w.heap.size → Ha i → H i) (h2 : ∀ i, i < w.heap.size → H' i → H i) : HeldH H' W Q :=
  fun W' a' => h W' ((a.mono h1).then_ a' h2)
section
variable {T : List Tok} {en : Int} {g : Nat} {A : Option Addr} {c base : Nat} {h : Hs} {L1 : List ColV} {L2 : List PlV} {L3 : List TkV} {s : Ps} {w w' : World}
theorem NAt.push1 (N : NAt T en g A c base h L1 L2 L3 s w) (o : Obj) (x : ColV) (hx : HeldH (NX base g h) w x.at_) {A' : Option Addr} {n' c' : Nat} (hO : w'.ownsRow base 82 7 (.slice A' n' c') (L1.length + 1) (L1.flatMap ColV.cells ++ x.cells)) (hg : (w.alloc o).grownBy w' h.V1.ownBlock)
    (hat : (Value.slice A' n' c').ownBlock = h.V1.ownBlock ∨ (Value.slice A' n' c').ownBlock = some (w.alloc o).heap.size) :
    NAt T en g A c base { h with A1 := A', n1 := n', c1 := c' } (L1 ++ [x]) L2 L3 { s with cols := s.cols ++ [x.c] } (w'.setCell ⟨g, 5, none⟩ (.slice A' n' c')) ∧ AgH (NH g h) w (w'.setCell ⟨g, 5, none⟩ (.slice A' n' c')) ∧ ∀ i, i < w.heap.size → NH g { h with A1 := A', n1 := n', c1 := c' } i → NH g h i := by
  have sz : (w.alloc o).heap.size = w.heap.size + 1 := World.size_alloc _ _
  have aL : AgH (fun _ => False) w (w.alloc o) := AgH.of_below (alrB w o)
  have a1 : AgH (fun i => h.V1.ownBlock = some i) (w.alloc o) w' := (AgH.refl _ _).grown hg fun i e _ => e
  have a2 : AgH (only g) w' (w'.setCell ⟨g, 5, none⟩ (.slice A' n' c')) := (AgH.refl (only g) _).setCell (.inl rfl) _
  have aA : AgH (fun i => i = g ∨ h.V1.ownBlock = some i) w (w'.setCell ⟨g, 5, none⟩ (.slice A' n' c')) := ((aL.mono fun _ _ e => e.elim).trans (a1.mono fun _ _ e => .inr e)).trans (a2.mono fun _ _ e => .inl e)
  have aN : AgH (NH g h) w (w'.setCell ⟨g, 5, none⟩ (.slice A' n' c')) := aA.mono fun i _ e => by
    rcases e with e | e
    · exact .inl e
    · exact .inr (.inl e)
  have sub : ∀ i, i < w.heap.size → NH g { h with A1 := A', n1 := n', c1 := c' } i → NH g h i := fun i hi e => by
    rcases e with e | e | e | e | e
    · exact .inl e
    · rcases hat with h1 | h1
      · exact .inr (.inl (h1 ▸ e))
      · rw [show ({ h with A1 := A', n1 := n', c1 := c' } : Hs).V1 = .slice A' n' c' from rfl, h1] at e
        injection e with e
        omega
    · exact .inr (.inr (.inl e))
    · exact .inr (.inr (.inr (.inl e)))
    · exact .inr (.inr (.inr (.inr e)))
  have apK : ∀ {V' : Value}, Apart h.V1 V' → (∀ i, V'.ownBlock = some i → i < w.heap.size) → Apart (.slice A' n' c') V' := fun hap hlt i e e' => by
    rcases hat with h1 | h1
    · exact hap i (h1 ▸ e) e'
    · have := hlt i e'
      rw [h1] at e
      injection e with e
      omega
  refine ⟨?_, aN, sub⟩
  have hb : PBlk w' g A T.length c s.at_ en s.err (placeT T en s) h := (N.blk.below (alrB w o)).keep a1 N.ne1
  refine ⟨hb.set5 A' n' c', N.at_, N.small, N.gb, Nat.le_trans N.lb aN.size, ?_, ?_, by show s.cols ++ [x.c] = _; rw [N.e1, List.map_append]; rfl, N.e2, N.e3, N.e4, N.e5, ?_, ?_, ?_, ?_, apK N.a12 fun _ e => (N.lt2 e).2, apK N.a13 fun _ e => (N.lt3 e).2, apK N.a14 fun _ e => (N.lt4 e).2, N.a23, N.a24, N.a34, N.i4, N.i5⟩
  · refine N.toks.move aA (fun i _ e => ?_) sub
    rcases e with e | e
    · exact .inl e
    · exact .inr (.inl e)
  · refine N.tab.move aA (fun i _ e => ?_) sub
    rcases e with e | e
    · exact .inl e
    · exact .inr (.inl e)
  · refine (((N.r1.keep aL fun _ _ e => e.elim).append hO hg hat ((hx.keep aL fun _ _ e => e.elim).mono fun i _ e => ?_))).move a2 (fun i _ e => ?_) fun i _ e => ?_
    · rcases e with e | e
      · exact e
      · exact .inr (.inr (.inl e))
    · rw [show i = g from e]; exact ⟨.inr (.inl rfl), fun e => by have := (hO.lt g e).1; have := N.gb; omega⟩
    · rcases e with e | e | e | e | e | e
      · exact .inl (.inl e)
      · exact .inl (.inr (.inl e))
      · exact .inr e
      · exact .inl (.inr (.inr (.inr (.inl e))))
      · exact .inl (.inr (.inr (.inr (.inr (.inl e)))))
      · exact .inl (.inr (.inr (.inr (.inr (.inr e)))))
  · refine N.r2.move aA (fun i _ e => ?_) fun i hi e => .inl (Or.imp_right (sub i hi) e)
    rcases e with e | e
    · rw [e]; exact ⟨.inr (.inl rfl), N.ne2⟩
    · exact ⟨.inr (.inr (.inl e)), N.a12 i e⟩
  · refine N.r3.move aA (fun i _ e => ?_) fun i hi e => .inl (Or.imp_right (sub i hi) e)
    rcases e with e | e
    · rw [e]; exact ⟨.inr (.inl rfl), N.ne3⟩
    · exact ⟨.inr (.inr (.inl e)), N.a13 i e⟩
  · refine own_keep N.r4 aA fun i hi e => ?_
    rcases e with e | e
    · exact N.ne4 (by rw [hi, e])
    · exact N.a14 i e hi
theorem NAt.push2 (N : NAt T en g A c base h L1 L2 L3 s w) (o : Obj) (x : PlV) (hx : HeldH (NX base g h) w x.at_) {A' : Option Addr} {n' c' : Nat} (hO : w'.ownsRow base 66 3 (.slice A' n' c') (L2.length + 1) (L2.flatMap PlV.cells ++ x.cells)) (hg : (w.alloc o).grownBy w' h.V2.ownBlock)
    (hat : (Value.slice A' n' c').ownBlock = h.V2.ownBlock ∨ (Value.slice A' n' c').ownBlock = some (w.alloc o).heap.size) :
    NAt T en g A c base { h with A2 := A', n2 := n', c2 := c' } L1 (L2 ++ [x]) L3 { s with pls := s.pls ++ [x.p] } (w'.setCell ⟨g, 6, none⟩ (.slice A' n' c')) ∧ AgH (NH g h) w (w'.setCell ⟨g, 6, none⟩ (.slice A' n' c')) ∧ ∀ i, i < w.heap.size → NH g { h with A2 := A', n2 := n', c2 := c' } i → NH g h i := by
  have sz : (w.alloc o).heap.size = w.heap.size + 1 := World.size_alloc _ _
  have aL : AgH (fun _ => False) w (w.alloc o) := AgH.of_below (alrB w o)
  have a1 : AgH (fun i => h.V2.ownBlock = some i) (w.alloc o) w' := (AgH.refl _ _).grown hg fun i e _ => e
  have a2 : AgH (only g) w' (w'.setCell ⟨g, 6, none⟩ (.slice A' n' c')) := (AgH.refl (only g) _).setCell (.inl rfl) _
  have aA : AgH (fun i => i = g ∨ h.V2.ownBlock = some i) w (w'.setCell ⟨g, 6, none⟩ (.slice A' n' c')) := ((aL.mono fun _ _ e => e.elim).trans (a1.mono fun _ _ e => .inr e)).trans (a2.mono fun _ _ e => .inl e)
  have aN : AgH (NH g h) w (w'.setCell ⟨g, 6, none⟩ (.slice A' n' c')) := aA.mono fun i _ e => by
    rcases e with e | e
    · exact .inl e
    · exact .inr (.inr (.inl e))
  have sub : ∀ i, i < w.heap.size → NH g { h with A2 := A', n2 := n', c2 := c' } i → NH g h i := fun i hi e => by
    rcases e with e | e | e | e | e
    · exact .inl e
    · exact .inr (.inl e)
    · rcases hat with h1 | h1
      · exact .inr (.inr (.inl (h1 ▸ e)))
      · rw [show ({ h with A2 := A', n2 := n', c2 := c' } : Hs).V2 = .slice A' n' c' from rfl, h1] at e
        injection e with e
        omega
    · exact .inr (.inr (.inr (.inl e)))
    · exact .inr (.inr (.inr (.inr e)))
  have apK : ∀ {V' : Value}, Apart h.V2 V' → (∀ i, V'.ownBlock = some i → i < w.heap.size) → Apart (.slice A' n' c') V' := fun hap hlt i e e' => by
    rcases hat with h1 | h1
    · exact hap i (h1 ▸ e) e'
    · have := hlt i e'
      rw [h1] at e
      injection e with e
      omega
  refine ⟨?_, aN, sub⟩
  have hb : PBlk w' g A T.length c s.at_ en s.err (placeT T en s) h := (N.blk.below (alrB w o)).keep a1 N.ne2
  refine ⟨hb.set6 A' n' c', N.at_, N.small, N.gb, Nat.le_trans N.lb aN.size, ?_, ?_, N.e1, by show s.pls ++ [x.p] = _; rw [N.e2, List.map_append]; rfl, N.e3, N.e4, N.e5, ?_, ?_, ?_, ?_, (apK N.a12.symm fun _ e => (N.lt1 e).2).symm, N.a13, N.a14, apK N.a23 fun _ e => (N.lt3 e).2, apK N.a24 fun _ e => (N.lt4 e).2, N.a34, N.i4, N.i5⟩
  · refine N.toks.move aA (fun i _ e => ?_) sub
    rcases e with e | e
    · exact .inl e
    · exact .inr (.inr (.inl e))
  · refine N.tab.move aA (fun i _ e => ?_) sub
    rcases e with e | e
    · exact .inl e
    · exact .inr (.inr (.inl e))
  · refine N.r1.move aA (fun i _ e => ?_) fun i hi e => .inl (Or.imp_right (sub i hi) e)
    rcases e with e | e
    · rw [e]; exact ⟨.inr (.inl rfl), N.ne1⟩
    · exact ⟨.inr (.inr (.inr (.inl e))), N.a12.symm i e⟩
  · refine (((N.r2.keep aL fun _ _ e => e.elim).append hO hg hat ((hx.keep aL fun _ _ e => e.elim).mono fun i _ e => ?_))).move a2 (fun i _ e => ?_) fun i _ e => ?_
    · rcases e with e | e
      · exact e
      · exact .inr (.inr (.inr (.inl e)))
    · rw [show i = g from e]; exact ⟨.inr (.inl rfl), fun e => by have := (hO.lt g e).1; have := N.gb; omega⟩
    · rcases e with e | e | e | e | e | e
      · exact .inl (.inl e)
      · exact .inl (.inr (.inl e))
      · exact .inl (.inr (.inr (.inl e)))
      · exact .inr e
      · exact .inl (.inr (.inr (.inr (.inr (.inl e)))))
      · exact .inl (.inr (.inr (.inr (.inr (.inr e)))))
  · refine N.r3.move aA (fun i _ e => ?_) fun i hi e => .inl (Or.imp_right (sub i hi) e)
    rcases e with e | e
    · rw [e]; exact ⟨.inr (.inl rfl), N.ne3⟩
    · exact ⟨.inr (.inr (.inr (.inl e))), N.a23 i e⟩
  · refine own_keep N.r4 aA fun i hi e => ?_
    rcases e with e | e
    · exact N.ne4 (by rw [hi, e])
    · exact N.a24 i e hi
theorem NAt.push3 (N : NAt T en g A c base h L1 L2 L3 s w) (o : Obj) (x : TkV) (hx : HeldH (NX base g h) w x.at_) {A' : Option Addr} {n' c' : Nat} (hO : w'.ownsRow base 59 14 (.slice A' n' c') (L3.length + 1) (L3.flatMap TkV.cells ++ x.cells)) (hg : (w.alloc o).grownBy w' h.V3.ownBlock)
    (hat : (Value.slice A' n' c').ownBlock = h.V3.ownBlock ∨ (Value.slice A' n' c').ownBlock = some (w.alloc o).heap.size) :
    NAt T en g A c base { h with A3 := A', n3 := n', c3 := c' } L1 L2 (L3 ++ [x]) { s with tks := s.tks ++ [x.t] } (w'.setCell ⟨g, 7, none⟩ (.slice A' n' c')) ∧ AgH (NH g h) w (w'.setCell ⟨g, 7, none⟩ (.slice A' n' c')) ∧ ∀ i, i < w.heap.size → NH g { h with A3 := A', n3 := n', c3 := c' } i → NH g h i := by
  have sz : (w.alloc o).heap.size = w.heap.size + 1 := World.size_alloc _ _
  have aL : AgH (fun _ => False) w (w.alloc o) := AgH.of_below (alrB w o)
  have a1 : AgH (fun i => h.V3.ownBlock = some i) (w.alloc o) w' := (AgH.refl _ _).grown hg fun i e _ => e
  have a2 : AgH (only g) w' (w'.setCell ⟨g, 7, none⟩ (.slice A' n' c')) := (AgH.refl (only g) _).setCell (.inl rfl) _
  have aA : AgH (fun i => i = g ∨ h.V3.ownBlock = some i) w (w'.setCell ⟨g, 7, none⟩ (.slice A' n' c')) := ((aL.mono fun _ _ e => e.elim).trans (a1.mono fun _ _ e => .inr e)).trans (a2.mono fun _ _ e => .inl e)
  have aN : AgH (NH g h) w (w'.setCell ⟨g, 7, none⟩ (.slice A' n' c')) := aA.mono fun i _ e => by
    rcases e with e | e
    · exact .inl e
    · exact .inr (.inr (.inr (.inl e)))
  have sub : ∀ i, i < w.heap.size → NH g { h with A3 := A', n3 := n', c3 := c' } i → NH g h i := fun i hi e => by
    rcases e with e | e | e | e | e
    · exact .inl e
    · exact .inr (.inl e)
    · exact .inr (.inr (.inl e))
    · rcases hat with h1 | h1
      · exact .inr (.inr (.inr (.inl (h1 ▸ e))))
      · rw [show ({ h with A3 := A', n3 := n', c3 := c' } : Hs).V3 = .slice A' n' c' from rfl, h1] at e
        injection e with e
        omega
    · exact .inr (.inr (.inr (.inr e)))
  have apK : ∀ {V' : Value}, Apart h.V3 V' → (∀ i, V'.ownBlock = some i → i < w.heap.size) → Apart (.slice A' n' c') V' := fun hap hlt i e e' => by
    rcases hat with h1 | h1
    · exact hap i (h1 ▸ e) e'
    · have := hlt i e'
      rw [h1] at e
      injection e with e
      omega
  refine ⟨?_, aN, sub⟩
  have hb : PBlk w' g A T.length c s.at_ en s.err (placeT T en s) h := (N.blk.below (alrB w o)).keep a1 N.ne3
  refine ⟨hb.set7 A' n' c', N.at_, N.small, N.gb, Nat.le_trans N.lb aN.size, ?_, ?_, N.e1, N.e2, by show s.tks ++ [x.t] = _; rw [N.e3, List.map_append]; rfl, N.e4, N.e5, ?_, ?_, ?_, ?_, N.a12, (apK N.a13.symm fun _ e => (N.lt1 e).2).symm, N.a14, (apK N.a23.symm fun _ e => (N.lt2 e).2).symm, N.a24, apK N.a34 fun _ e => (N.lt4 e).2, N.i4, N.i5⟩
  · refine N.toks.move aA (fun i _ e => ?_) sub
    rcases e with e | e
    · exact .inl e
    · exact .inr (.inr (.inr (.inl e)))
  · refine N.tab.move aA (fun i _ e => ?_) sub
    rcases e with e | e
    · exact .inl e
    · exact .inr (.inr (.inr (.inl e)))
  · refine N.r1.move aA (fun i _ e => ?_) fun i hi e => .inl (Or.imp_right (sub i hi) e)
    rcases e with e | e
    · rw [e]; exact ⟨.inr (.inl rfl), N.ne1⟩
    · exact ⟨.inr (.inr (.inr (.inr (.inl e)))), N.a13.symm i e⟩
  · refine N.r2.move aA (fun i _ e => ?_) fun i hi e => .inl (Or.imp_right (sub i hi) e)
    rcases e with e | e
    · rw [e]; exact ⟨.inr (.inl rfl), N.ne2⟩
    · exact ⟨.inr (.inr (.inr (.inr (.inl e)))), N.a23.symm i e⟩
  · refine (((N.r3.keep aL fun _ _ e => e.elim).append hO hg hat ((hx.keep aL fun _ _ e => e.elim).mono fun i _ e => ?_))).move a2 (fun i _ e => ?_) fun i _ e => ?_
    · rcases e with e | e
      · exact e
      · exact .inr (.inr (.inr (.inr (.inl e))))
    · rw [show i = g from e]; exact ⟨.inr (.inl rfl), fun e => by have := (hO.lt g e).1; have := N.gb; omega⟩
    · rcases e with e | e | e | e | e | e
      · exact .inl (.inl e)
      · exact .inl (.inr (.inl e))
      · exact .inl (.inr (.inr (.inl e)))
      · exact .inl (.inr (.inr (.inr (.inl e))))
      · exact .inr e
      · exact .inl (.inr (.inr (.inr (.inr (.inr e)))))
  · refine own_keep N.r4 aA fun i hi e => ?_
    rcases e with e | e
    · exact N.ne4 (by rw [hi, e])
    · exact N.a34 i e hi
theorem NTurn.then_ {s1 s2 : Ps} {w1 w2 : World} (k1 : NTurn T en g A c base h s1 w w1) (k2 : ∀ h' L1' L2' L3', NAt T en g A c base h' L1' L2' L3' s1 w1 → NTurn T en g A c base h' s2 w1 w2) : NTurn T en g A c base h s2 w w2 := by
  obtain ⟨h', L1', L2', L3', N, a, sub⟩ := k1
  obtain ⟨h2, M1, M2, M3, N2, a2, sub2⟩ := k2 h' L1' L2' L3' N
  exact ⟨h2, M1, M2, M3, N2, a.then_ a2 sub, fun i hi e => sub i hi (sub2 i (Nat.lt_of_lt_of_le hi a.size) e)⟩
end
end Go.Proofs.YtkpjhjoopdbkaaaGreatDoor
