/- Joined: Package parse: kind, arc. Printed by gen_paT.py. Package parse: arc. Printed by gen_paU.py. Package parse: once, clause. Printed by gen_paV.py. How a place's counts are kept in a row; no program in sight. Maps of counts; contracts of package bag: of, both. -/
import Derived.Test.YtkpjhjoopdbkaaaGreatDoorG14
import Derived.Deep.DeepCutAuto
import Derived.Test.YtkpjhjoopdbkaaaGreatDoorG07
import Derived.Test.YtkpjhjoopdbkaaaGreatDoorG03
import Derived.Maps.OwnOps
import Derived.Maps.RangeWalk
import Derived.Maps.Ext
namespace Go.Proofs.YtkpjhjoopdbkaaaGreatDoor
open Go.RowKit
section
variable {T : List Tok} {en : Int} {g : Nat} {A : Option Addr} {c base : Nat} {h : Hs} {L1 : List ColV} {L2 : List PlV} {L3 : List TkV} {s : Ps}
/-- The tasker's parser. -/
def TkrAt (w : World) (gt g : Nat) : Prop := w.cell? ⟨gt, 0, none⟩ = some (.pointer (some ⟨g, 0, none⟩))
theorem TkrAt.keep {w W : World} {gt : Nat} {H : Nat → Prop} (h : TkrAt w gt g) (a : AgH H w W) (hn : ¬ H gt) : TkrAt W gt g := by
  unfold TkrAt at h ⊢
  rw [World.cell?_of_block (a := ⟨gt, 0, none⟩) (a.block gt (World.block_lt_of_cell? w _ h) hn)]
  exact h
set_option maxHeartbeats 2000000 in
theorem pa_kind (gt : Nat) (w : World) (hp : Hid (PAt T en g A c h s w)) (hg : Hid (TkrAt w gt g)) (hn : Hid (gt ≠ g)) :
    Calls Tryz.prog 204 #[.pointer (some ⟨gt, 0, none⟩)] w fun e w' => e = .returned (.int .i64 (kindV (ktOf T) s)) ∧ Turned T en g A c h (kindS (ktOf T) s) w w' := by
  have HV := Lib.hid (show kindV (ktOf T) s = if takeB (ktOf T) ⟨#[97, 110, 100]⟩ s then 1 else if takeB (ktOf T) ⟨#[120, 111, 114]⟩ s then 2 else if takeB (ktOf T) ⟨#[111, 114]⟩ s then 3 else 0 from rfl)
  have HS := Lib.hid (show kindS (ktOf T) s = if takeB (ktOf T) ⟨#[97, 110, 100]⟩ s then stepP s else if takeB (ktOf T) ⟨#[120, 111, 114]⟩ s then stepP s else if takeB (ktOf T) ⟨#[111, 114]⟩ s then stepP s else wrongP 4 s from rfl)
  obtain ⟨V, hV⟩ : ∃ y, y = kindV (ktOf T) s := ⟨_, rfl⟩
  obtain ⟨Z, hZ⟩ : ∃ y, y = kindS (ktOf T) s := ⟨_, rfl⟩
  rw [← hV] at HV ⊢
  rw [← hZ] at HS ⊢
  clear hV hZ
  have CT1 := Lib.hid (fun W (hW : PAt T en g A c h s W) => pa_take ⟨#[97, 110, 100]⟩ (by decide) W (Lib.hid hW))
  have TT1 := Lib.hid (fun e => take_true (x := ⟨#[97, 110, 100]⟩) (K := (ktOf T)) (s := s) e)
  have TF1 := Lib.hid (fun e => take_false (x := ⟨#[97, 110, 100]⟩) (K := (ktOf T)) (s := s) e)
  obtain ⟨t1, ht1⟩ : ∃ t, t = takeB (ktOf T) ⟨#[97, 110, 100]⟩ s := ⟨_, rfl⟩
  obtain ⟨P1, hP1⟩ : ∃ P, P = takeP (ktOf T) ⟨#[97, 110, 100]⟩ s := ⟨_, rfl⟩
  rw [← ht1] at CT1 TT1 TF1 HV HS
  rw [← hP1] at CT1 TT1 TF1
  clear ht1 hP1
  have CT2 := Lib.hid (fun W (hW : PAt T en g A c h s W) => pa_take ⟨#[120, 111, 114]⟩ (by decide) W (Lib.hid hW))
  have TT2 := Lib.hid (fun e => take_true (x := ⟨#[120, 111, 114]⟩) (K := (ktOf T)) (s := s) e)
  have TF2 := Lib.hid (fun e => take_false (x := ⟨#[120, 111, 114]⟩) (K := (ktOf T)) (s := s) e)
  obtain ⟨t2, ht2⟩ : ∃ t, t = takeB (ktOf T) ⟨#[120, 111, 114]⟩ s := ⟨_, rfl⟩
  obtain ⟨P2, hP2⟩ : ∃ P, P = takeP (ktOf T) ⟨#[120, 111, 114]⟩ s := ⟨_, rfl⟩
  rw [← ht2] at CT2 TT2 TF2 HV HS
  rw [← hP2] at CT2 TT2 TF2
  clear ht2 hP2
  have CT3 := Lib.hid (fun W (hW : PAt T en g A c h s W) => pa_take ⟨#[111, 114]⟩ (by decide) W (Lib.hid hW))
  have TT3 := Lib.hid (fun e => take_true (x := ⟨#[111, 114]⟩) (K := (ktOf T)) (s := s) e)
  have TF3 := Lib.hid (fun e => take_false (x := ⟨#[111, 114]⟩) (K := (ktOf T)) (s := s) e)
  obtain ⟨t3, ht3⟩ : ∃ t, t = takeB (ktOf T) ⟨#[111, 114]⟩ s := ⟨_, rfl⟩
  obtain ⟨P3, hP3⟩ : ∃ P, P = takeP (ktOf T) ⟨#[111, 114]⟩ s := ⟨_, rfl⟩
  rw [← ht3] at CT3 TT3 TF3 HV HS
  rw [← hP3] at CT3 TT3 TF3
  clear ht3 hP3
  have b0 : w.cell? ⟨gt, 0, none⟩ = some (.pointer (some ⟨g, 0, none⟩)) := hg.out
  go_enter Tryz.func204, Tryz.ntmps204
  go_wp2_with fail
  refine (CT1.out _ hp.out).mono ?_
  rintro e w2 ⟨rfl, hT⟩
  have HT2 := Lib.hid hT
  have hg2 := hg.out.keep hT.2 hn.out
  have b2 : w2.cell? ⟨gt, 0, none⟩ = some (.pointer (some ⟨g, 0, none⟩)) := hg2
  have HG2 := Lib.hid hg2
  clear hT b0 hg2
  cases t1 with
  | true =>
    rw [TT1.out rfl] at HT2
    have HV2 := Lib.hid (show V = 1 from HV.out)
    have HS2 := Lib.hid (show Z = stepP s from HS.out)
    go_wp2
    go_ret
    exact ⟨reti HV2.out.symm, by rw [HS2.out]; exact HT2.out⟩
  | false =>
  rw [TF1.out rfl] at HT2
  have HVa := Lib.hid (HV.out.trans (if_neg (by decide)))
  have HSa := Lib.hid (HS.out.trans (if_neg (by decide)))
  go_wp2_with fail
  refine (CT2.out _ HT2.out.1).mono ?_
  rintro e w3 ⟨rfl, hT⟩
  have HT3 := Lib.hid (HT2.out.then_ hT)
  have hg3 := HG2.out.keep hT.2 hn.out
  have b3 : w3.cell? ⟨gt, 0, none⟩ = some (.pointer (some ⟨g, 0, none⟩)) := hg3
  have HG3 := Lib.hid hg3
  clear hT b2 hg3
  cases t2 with
  | true =>
    rw [TT2.out rfl] at HT3
    have HV2 := Lib.hid (show V = 2 from HVa.out)
    have HS2 := Lib.hid (show Z = stepP s from HSa.out)
    go_wp2
    go_ret
    exact ⟨reti HV2.out.symm, by rw [HS2.out]; exact HT3.out⟩
  | false =>
  rw [TF2.out rfl] at HT3
  have HVb := Lib.hid (HVa.out.trans (if_neg (by decide)))
  have HSb := Lib.hid (HSa.out.trans (if_neg (by decide)))
  go_wp2_with fail
  refine (CT3.out _ HT3.out.1).mono ?_
  rintro e w4 ⟨rfl, hT⟩
  have HT4 := Lib.hid (HT3.out.then_ hT)
  have hg4 := HG3.out.keep hT.2 hn.out
  have b4 : w4.cell? ⟨gt, 0, none⟩ = some (.pointer (some ⟨g, 0, none⟩)) := hg4
  clear hT b3 hg4
  cases t3 with
  | true =>
    rw [TT3.out rfl] at HT4
    have HV2 := Lib.hid (show V = 3 from HVb.out)
    have HS2 := Lib.hid (show Z = stepP s from HSb.out)
    go_wp2
    go_ret
    exact ⟨reti HV2.out.symm, by rw [HS2.out]; exact HT4.out⟩
  | false =>
  rw [TF3.out rfl] at HT4
  have HV2 := Lib.hid (show V = 0 from HVb.out.trans (if_neg (by decide)))
  have HS2 := Lib.hid (show Z = wrongP 4 s from HSb.out.trans (if_neg (by decide)))
  go_wp2_with fail
  refine (pa_wrong 4 (by decide) w4 (Lib.hid HT4.out.1)).mono ?_
  rintro e w5 ⟨rfl, hT⟩
  have HT5 := Lib.hid (HT4.out.then_ hT)
  clear hT b4
  go_wp2
  go_ret
  exact ⟨reti HV2.out.symm, by rw [HS2.out]; exact HT5.out⟩
/-- What arc tells. -/
def ArcP (T : List Tok) (en : Int) (g : Nat) (A : Option Addr) (c : Nat) (h : Hs) (r : Ar × Ps) (w : World) (e : Ending) (w' : World) : Prop :=
  ∃ A2 m2 c2, e = .returned (r.1.val A2 m2 c2) ∧ TrH w.heap.size w' A2 m2 c2 r.1.expr ∧ Turned T en g A c h r.2 w w'
theorem res_arc {W : World} {b : Nat} {p x y : Int} {A : Option Addr} {m c : Nat} {tmps : Array Value} (h : W.heap[b]? = some (.cells #[.int .i64 p, .int .i64 x, .int .i64 y, .slice A m c] 61 (0, 0))) (ht : tmps[2]? = some (.pointer (some ⟨b, 0, none⟩))) :
    (results Tryz.f205 tmps).run Tryz.prog W = .ok (.agg #[.int .i64 p, .int .i64 x, .int .i64 y, .slice A m c]) W := by
  have q0 := row_cell h 0 _ rfl
  have q1 := row_cell h 1 _ rfl
  have q2 := row_cell h 2 _ rfl
  have q3 := row_cell h 3 _ rfl
  simp [results, Tryz.results205, go_sem, q0, q1, q2, q3, ht]
end
end Go.Proofs.YtkpjhjoopdbkaaaGreatDoor
namespace Go.Proofs.YtkpjhjoopdbkaaaGreatDoor
open Go.RowKit
section
variable {T : List Tok} {en : Int} {g : Nat} {A : Option Addr} {c base : Nat} {h : Hs} {L1 : List ColV} {L2 : List PlV} {L3 : List TkV} {s : Ps}
theorem row_put4 {w : World} {g t : Nat} {a b d e : Value} {z : Nat × Nat} (h : w.heap[g]? = some (.cells #[a, b, d, e] t z)) (x y u v : Value) : ((((w.setCell ⟨g, 0, none⟩ x).setCell ⟨g, 1, none⟩ y).setCell ⟨g, 2, none⟩ u).setCell ⟨g, 3, none⟩ v).heap[g]? = some (.cells #[x, y, u, v] t z) :=
  row_put (row_put (row_put (row_put h 0 x) 1 y) 2 u) 3 v
theorem ag_put4 {H : Nat → Prop} {w W : World} {b : Nat} (h : AgH H w W) (hb : H b ∨ w.heap.size ≤ b) (x y z u : Value) : AgH H w ((((W.setCell ⟨b, 0, none⟩ x).setCell ⟨b, 1, none⟩ y).setCell ⟨b, 2, none⟩ z).setCell ⟨b, 3, none⟩ u) :=
  (ag_put3 h hb x y z).setCell (p := ⟨b, 3, none⟩) hb u
theorem arc_fin {w w1 w2 : World} {s1 : Ps} {g3 : Nat} (hp : PAt T en g A c h s w) (hT : Turned T en g A c h s1 w w2) (hv : s1.vars = s.vars) (hA : AgH (only g) w1 w2) (hr : w2.heap[g3]? = some (.cells #[.int .i64 0, .int .i64 0, .int .i64 0, .slice none 0 0] 61 (0, 0))) (h1 : w1.heap.size ≤ g3) (h0 : w.heap.size ≤ g3) (hne : g3 ≠ g) (x y z u : Value) :
    ((((w2.setCell ⟨g3, 0, none⟩ x).setCell ⟨g3, 1, none⟩ y).setCell ⟨g3, 2, none⟩ z).setCell ⟨g3, 3, none⟩ u).heap[g3]? = some (.cells #[x, y, z, u] 61 (0, 0)) ∧ Turned T en g A c h s1 w ((((w2.setCell ⟨g3, 0, none⟩ x).setCell ⟨g3, 1, none⟩ y).setCell ⟨g3, 2, none⟩ z).setCell ⟨g3, 3, none⟩ u) ∧ AgH (only g) w1 ((((w2.setCell ⟨g3, 0, none⟩ x).setCell ⟨g3, 1, none⟩ y).setCell ⟨g3, 2, none⟩ z).setCell ⟨g3, 3, none⟩ u) ∧ w1.heap.size ≤ g3 :=
  ⟨row_put4 hr x y z u, Turned.out hp (Below.refl _ _) hT hv (ag_put4 (AgH.refl _ _) (.inl ⟨h0, hne⟩) x y z u), ag_put4 hA (.inr h1) x y z u, h1⟩
set_option maxRecDepth 100000 in
set_option maxHeartbeats 8000000 in
theorem pa_arc (gt : Nat) (w : World) (hN : Hid (NAt T en g A c base h L1 L2 L3 s w)) (hb : Hid (s.pls.length ≤ 1000000)) (hg : Hid (TkrAt w gt g)) (hn : Hid (gt ≠ g)) :
    Calls Tryz.prog 205 #[.pointer (some ⟨gt, 0, none⟩)] w (ArcP T en g A c h (arcP (ktOf T) s) w) := by
  have hp := Lib.hid hN.out.pat
  have HGL := Lib.hid hp.out.blk.lt
  have HGT := Lib.hid (show gt < w.heap.size from World.block_lt_of_cell? w _ hg.out)
  obtain ⟨w1, hw1⟩ : ∃ y, y = w.alloc (.cells #[.int .i64 0, .int .i64 0, .int .i64 0, .slice none 0 0] 61) := ⟨_, rfl⟩
  have HB1 := Lib.hid (show Below w.heap.size w w1 by rw [hw1]; exact alrB w _)
  have R1 := Lib.hid (show w1.heap[w.heap.size]? = some (.cells #[.int .i64 0, .int .i64 0, .int .i64 0, .slice none 0 0] 61 (0, 0)) by rw [hw1]; exact heap_alloc_new w _)
  have HW := Lib.hid hw1.symm
  have HSZ := Lib.hid (show w1.heap.size = w.heap.size + 1 by rw [hw1, World.size_alloc])
  obtain ⟨g1, hg1⟩ : ∃ y, y = w.heap.size := ⟨_, rfl⟩
  have HG := Lib.hid hg1.symm
  rw [← hg1] at R1
  have HNE := Lib.hid (show g1 ≠ g by have := HGL.out; omega)
  have HT1 := Lib.hid (turned_below hp.out HB1.out)
  have HTK1 := Lib.hid (hg.out.keep (AgH.of_below (H := fun _ => False) HB1.out) fun e => e)
  obtain ⟨p, hpv⟩ : ∃ y, y = knownV (ktOf T) (findPl s) s := ⟨_, rfl⟩
  obtain ⟨s1, hs1⟩ : ∃ y, y = knownS (ktOf T) (findPl s) s := ⟨_, rfl⟩
  obtain ⟨s2, hs2⟩ : ∃ y, y = wantP (ktOf T) ⟨#[40]⟩ s1 := ⟨_, rfl⟩
  obtain ⟨r, hr⟩ : ∃ y, y = exprP (ktOf T) 0 s2 := ⟨_, rfl⟩
  obtain ⟨s4, hs4⟩ : ∃ y, y = wantP (ktOf T) ⟨#[41]⟩ r.2 := ⟨_, rfl⟩
  have HAR := Lib.hid (show arcP (ktOf T) s = (⟨p, r.1⟩, s4) by unfold arcP; rw [hs4, hr, hs2, hs1, hpv])
  have HM1 := Lib.hid (show Mv (ktOf T) s s1 by rw [hs1]; exact mv_known _ s)
  have HM2 := Lib.hid (show Mv (ktOf T) s s2 by rw [hs2]; exact HM1.out.trans (mv_want (by decide) _))
  have HM3 := Lib.hid (show Mv (ktOf T) s r.2 by rw [hr]; exact HM2.out.trans (mv_expr _ _))
  have HM4 := Lib.hid (show Mv (ktOf T) s s4 by rw [hs4]; exact HM3.out.trans (mv_want (by decide) _))
  have HPI := Lib.hid (show I64 p by rw [hpv]; exact known_lo s (by rw [List.length_map]; exact hb.out))
  have CA := Lib.hid (fun W (hW : PAt T en g A c h s W) (a : AgH (only g) w W) => (show Calls Tryz.prog 72 #[.pointer (some ⟨g, 0, none⟩), .func (.func 73) #[.pointer (some ⟨g, 0, none⟩)] #[]] W fun e w' => e = .returned (.int .i64 p) ∧ Turned T en g A c h s1 W w' by
    rw [hpv, hs1]; exact pa_known 73 (findPl s) W (Lib.hid hW) (Lib.hid (hN.out.fpl a))))
  have CB := Lib.hid (fun W (hW : PAt T en g A c h s1 W) => (show Calls Tryz.prog 74 #[.pointer (some ⟨g, 0, none⟩), .string ⟨#[40]⟩] W fun e w' => e = .returned (.tuple #[]) ∧ Turned T en g A c h s2 W w' by rw [hs2]; exact pa_want _ (by decide) W (Lib.hid hW)))
  have CX := Lib.hid (fun W (hW : PAt T en g A c h s2 W) => (show Calls Tryz.prog 29 #[.pointer (some ⟨g, 0, none⟩), .int .i64 0, .int .i64 1] W (ExP T en g A c h r W) by rw [hr]; exact pa_expr1 W (Lib.hid hW)))
  have CD := Lib.hid (fun W (hW : PAt T en g A c h r.2 W) => (show Calls Tryz.prog 74 #[.pointer (some ⟨g, 0, none⟩), .string ⟨#[41]⟩] W fun e w' => e = .returned (.tuple #[]) ∧ Turned T en g A c h s4 W w' by rw [hs4]; exact pa_want _ (by decide) W (Lib.hid hW)))
  obtain ⟨Z, hZ⟩ : ∃ y, y = arcP (ktOf T) s := ⟨_, rfl⟩
  rw [← hZ] at HAR ⊢
  obtain ⟨t, s3⟩ := r
  have b1 : w1.cell? ⟨gt, 0, none⟩ = some (.pointer (some ⟨g, 0, none⟩)) := HTK1.out
  have HT1D : Hid (Turned T en g A c h s w w1.drew) := Lib.hid (HT1.out.below (below_drewN' (Below.refl _ w1) 1))
  clear hw1 hg1 hpv hs1 hs2 hr hs4 hZ
  go_enter Tryz.func205, Tryz.ntmps205
  go_upto_region 1 with fail
  rw [HW.out, HG.out]
  go_cut [3] (fun s3 wx => ∃ g3, s3 = .pointer (some ⟨g3, 0, none⟩) ∧ Hid (wx.heap[g3]? = some (.cells #[.int .i64 p, .int .i64 0, .int .i64 0, .slice none 0 0] 61 (0, 0))) ∧ Hid (Turned T en g A c h s1 w wx) ∧ Hid (AgH (only g) w1 wx) ∧ Hid (w1.heap.size ≤ g3))
  case first =>
    have bA : ∀ o, (w1.alloc o).cell? ⟨gt, 0, none⟩ = some (.pointer (some ⟨g, 0, none⟩)) := fun o => cell_kept (alrB w1 o) b1
    have HTA : Hid (Turned T en g A c h s w (w1.alloc (.cells #[.int .i64 0, .int .i64 0, .int .i64 0, .slice none 0 0] 61)).drew) := Lib.hid (HT1.out.below (below_drewN' (alrB w1 _) 1))
    have HAA : Hid (AgH (only g) w1 (w1.alloc (.cells #[.int .i64 0, .int .i64 0, .int .i64 0, .slice none 0 0] 61)).drew) := Lib.hid (AgH.of_below (below_drewN' (alrB w1 _) 1))
    have HAD : Hid (AgH (only g) w1 w1.drew) := Lib.hid (AgH.refl _ w1).drew
    go_region_law (first
      | (go_simp; go_at_call 72; refine (CA.out w1.drew HT1D.out.1 HT1D.out.2).mono ?_; rintro e w2 ⟨rfl, hS⟩
         have rz := heap_alloc_new w2 (.cells #[.int .i64 0, .int .i64 0, .int .i64 0, .slice none 0 0] 61)
         have c0 := row_cell rz 0 _ rfl
         have c1 := row_cell rz 1 _ rfl
         have c2 := row_cell rz 2 _ rfl
         have c3 := row_cell rz 3 _ rfl
         have f0 := frozen_row (o := 0) rz
         have f1 := frozen_row (o := 1) rz
         have f2 := frozen_row (o := 2) rz
         have f3 := frozen_row (o := 3) rz
         have HF := Lib.hid (fun x y z u => arc_fin hp.out ((HT1D.out.then_ hS).below (alrB w2 (.cells #[.int .i64 0, .int .i64 0, .int .i64 0, .slice none 0 0] 61))) HM1.out.vars ((HAD.out.trans hS.2).alloc _) rz (HAD.out.trans hS.2).size (by have := HSZ.out; have := (HAD.out.trans hS.2).size; omega) (by have := HSZ.out; have := HGL.out; have := (HAD.out.trans hS.2).size; omega) x y z u)
         have HH : Hid (∃ g3, (Value.pointer (some ⟨w2.heap.size, 0, none⟩)) = .pointer (some ⟨g3, 0, none⟩) ∧ Hid ((w2.alloc (.cells #[.int .i64 p, .int .i64 0, .int .i64 0, .slice none 0 0] 61)).heap[g3]? = some (.cells #[.int .i64 p, .int .i64 0, .int .i64 0, .slice none 0 0] 61 (0, 0))) ∧ Hid (Turned T en g A c h s1 w (w2.alloc (.cells #[.int .i64 p, .int .i64 0, .int .i64 0, .slice none 0 0] 61))) ∧ Hid (AgH (only g) w1 (w2.alloc (.cells #[.int .i64 p, .int .i64 0, .int .i64 0, .slice none 0 0] 61))) ∧ Hid (w1.heap.size ≤ g3)) := Lib.hid ⟨_, rfl, Lib.hid (heap_alloc_new w2 _), Lib.hid ((HT1D.out.then_ hS).below (alrB w2 _)), Lib.hid ((HAD.out.trans hS.2).alloc _), Lib.hid (HAD.out.trans hS.2).size⟩
         clear hS rz)
      | (go_simp; go_at_call 72; refine (CA.out (w1.alloc (.cells #[.int .i64 0, .int .i64 0, .int .i64 0, .slice none 0 0] 61)).drew HTA.out.1 HTA.out.2).mono ?_; rintro e w2 ⟨rfl, hS⟩
         have rz := row_keep (w := (w1.alloc (.cells #[.int .i64 0, .int .i64 0, .int .i64 0, .slice none 0 0] 61)).drew) (heap_alloc_new w1 (.cells #[.int .i64 0, .int .i64 0, .int .i64 0, .slice none 0 0] 61)) hS.2 (by have := HSZ.out; have := HGL.out; omega)
         have c0 := row_cell rz 0 _ rfl
         have c1 := row_cell rz 1 _ rfl
         have c2 := row_cell rz 2 _ rfl
         have c3 := row_cell rz 3 _ rfl
         have f0 := frozen_row (o := 0) rz
         have f1 := frozen_row (o := 1) rz
         have f2 := frozen_row (o := 2) rz
         have f3 := frozen_row (o := 3) rz
         have HF := Lib.hid (fun x y z u => arc_fin hp.out (HTA.out.then_ hS) HM1.out.vars (HAA.out.trans hS.2) rz (Nat.le_refl _) (by have := HSZ.out; omega) (by have := HSZ.out; have := HGL.out; omega) x y z u)
         have HH := Lib.hid True.intro
         clear hS rz))
    all_goals
      go_wp2_with fail
      go_meet
      first
        | exact HH.out
        | exact ⟨_, rfl, Lib.hid (HF.out _ _ _ _).1, Lib.hid (HF.out _ _ _ _).2.1, Lib.hid (HF.out _ _ _ _).2.2.1, Lib.hid (HF.out (.int .i64 p) (.int .i64 0) (.int .i64 0) (.slice none 0 0)).2.2.2⟩
  case rest =>
    obtain ⟨g3, rfl, hR3, hT3, hA3, h13⟩ := hcut
    have HN3 := Lib.hid (show g3 ≠ g by have := h13.out; have := HSZ.out; have := HGL.out; omega)
    have HK3 := Lib.hid (HTK1.out.keep hA3.out hn.out)
    have HR1c := Lib.hid (row_keep R1.out hA3.out HNE.out)
    have bc : wc.cell? ⟨gt, 0, none⟩ = some (.pointer (some ⟨g, 0, none⟩)) := HK3.out
    go_wp2_with fail
    refine (CB.out wc hT3.out.1).mono ?_
    rintro e w4 ⟨rfl, hS⟩
    have HT4 := Lib.hid (hT3.out.then_ hS)
    have HR4 := Lib.hid (row_keep hR3.out hS.2 HN3.out)
    have HQ4 := Lib.hid (row_keep HR1c.out hS.2 HNE.out)
    have HK4 := Lib.hid (HK3.out.keep hS.2 hn.out)
    have b4 : w4.cell? ⟨gt, 0, none⟩ = some (.pointer (some ⟨g, 0, none⟩)) := HK4.out
    clear hS bc
    go_wp2_with fail
    refine (CX.out w4 HT4.out.1).mono ?_
    rintro e w5 ⟨A2, m2, c2, rfl, hT, hS⟩
    have HTr := Lib.hid hT
    have HT5 := Lib.hid (HT4.out.then_ hS)
    have HS5 := Lib.hid hS.2
    have r5 := row_keep HR4.out hS.2 HN3.out
    have HR5 := Lib.hid r5
    have HQ5 := Lib.hid (row_keep HQ4.out hS.2 HNE.out)
    have HK5 := Lib.hid (HK4.out.keep hS.2 hn.out)
    have H43 := Lib.hid (show g3 < w4.heap.size from (Array.getElem?_eq_some_iff.1 HR4.out).1)
    have H41 := Lib.hid (show g1 < w4.heap.size from (Array.getElem?_eq_some_iff.1 HQ4.out).1)
    have c1 := row_cell r5 1 _ rfl
    have c2' := row_cell r5 2 _ rfl
    have c3 := row_cell r5 3 _ rfl
    have f1 := frozen_row (o := 1) r5
    have f2 := frozen_row (o := 2) r5
    have f3 := frozen_row (o := 3) r5
    clear hT hS r5 b4
    go_upto_region 4 with fail
    obtain ⟨w6, hw6⟩ : ∃ y, y = ((w5.setCell ⟨g3, 1, none⟩ (.int .i64 t.kind)).setCell ⟨g3, 2, none⟩ (.int .i64 t.num)).setCell ⟨g3, 3, none⟩ (.slice A2 m2 c2) := ⟨_, rfl⟩
    rw [← hw6]
    have HA6 := Lib.hid (show AgH (only g3) w5 w6 by rw [hw6]; exact (((AgH.refl (only g3) w5).setCell (p := ⟨g3, 1, none⟩) (.inl rfl) _).setCell (p := ⟨g3, 2, none⟩) (.inl rfl) _).setCell (p := ⟨g3, 3, none⟩) (.inl rfl) _)
    have HR6 := Lib.hid (show w6.heap[g3]? = some (.cells #[.int .i64 p, .int .i64 t.kind, .int .i64 t.num, .slice A2 m2 c2] 61 (0, 0)) by rw [hw6]; exact row_set (row_set (row_set HR5.out rfl) rfl) rfl)
    have HN13 := Lib.hid (show g1 ≠ g3 by have := h13.out; have := HSZ.out; have := HG.out; omega)
    have HW3 := Lib.hid (show w.heap.size ≤ g3 by have := h13.out; have := HSZ.out; omega)
    have HQ6 := Lib.hid (row_keep HQ5.out HA6.out HN13.out)
    have HK6 := Lib.hid (HK5.out.keep HA6.out (fun e => by have e2 : gt = g3 := e; have := HGT.out; have := HW3.out; omega))
    have HT6 := Lib.hid (Turned.out hp.out (Below.refl _ _) HT5.out HM3.out.vars (HA6.out.mono fun i _ e => by rw [show i = g3 from e]; exact ⟨HW3.out, HN3.out⟩))
    have b6 : w6.cell? ⟨gt, 0, none⟩ = some (.pointer (some ⟨g, 0, none⟩)) := HK6.out
    clear hw6 c1 c2' c3 f1 f2 f3
    go_wp2_with fail
    refine (CD.out w6 HT6.out.1).mono ?_
    rintro e w7 ⟨rfl, hS⟩
    have HT7 := Lib.hid (HT6.out.then_ hS)
    have HS7 := Lib.hid hS.2
    have r7 := row_keep HR6.out hS.2 HN3.out
    have q7 := row_keep HQ6.out hS.2 HNE.out
    have HQ7 := Lib.hid q7
    have d0 := row_cell r7 0 _ rfl
    have d1 := row_cell r7 1 _ rfl
    have d2 := row_cell r7 2 _ rfl
    have d3 := row_cell r7 3 _ rfl
    have c0 := row_cell q7 0 _ rfl
    have c1 := row_cell q7 1 _ rfl
    have c2' := row_cell q7 2 _ rfl
    have c3 := row_cell q7 3 _ rfl
    have f0 := frozen_row (o := 0) q7
    have f1 := frozen_row (o := 1) q7
    have f2 := frozen_row (o := 2) q7
    have f3 := frozen_row (o := 3) q7
    clear hS r7 q7 b6
    go_wp2
    have hG := HG.out
    have h41 := H41.out
    have h43 := H43.out
    refine bodyPost_ret (res_arc (row_put4 HQ7.out _ _ _ _) rfl) rfl ?_
    rw [HAR.out]
    refine ⟨A2, m2, c2, rfl, ?_, Turned.out hp.out (Below.refl _ _) HT7.out HM4.out.vars (ag_put4 (AgH.refl _ _) (.inl ⟨by omega, HNE.out⟩) _ _ _ _)⟩
    have hsz := HT4.out.2.size
    refine (((HTr.out.go HA6.out (fun i _ e => by rw [show i = g3 from e]; exact h43) (Nat.le_refl _)).go HS7.out (fun i _ e => by rw [show i = g from e]; have := HGL.out; omega) (Nat.le_refl _)).go (ag_put4 (H := only g1) (AgH.refl _ _) (.inl rfl) _ _ _ _) (fun i _ e => by rw [show i = g1 from e]; exact h41) hsz)
end
end Go.Proofs.YtkpjhjoopdbkaaaGreatDoor
namespace Go.Proofs.YtkpjhjoopdbkaaaGreatDoor
open Go.RowKit
/-- Who reads a clause. -/
def clauseId (x : ByteArray) : Option FuncId :=
  if x = ⟨#[118, 97, 114]⟩ then some 178
  else if x = ⟨#[119, 104, 101, 110]⟩ then some 179
  else if x = ⟨#[106, 111, 105, 110]⟩ then some 180
  else if x = ⟨#[115, 112, 108, 105, 116]⟩ then some 181
  else if x = ⟨#[105, 110]⟩ then some 182
  else if x = ⟨#[111, 117, 116]⟩ then some 183
  else if x = ⟨#[99, 97, 110, 99, 101, 108]⟩ then some 184
  else if x = ⟨#[97, 102, 116, 101, 114]⟩ then some 185
  else if x = ⟨#[109, 97, 110, 121]⟩ then some 186
  else none
def clauseFn (x : ByteArray) (gt : Nat) : Value := match clauseId x with
  | some f => .func (.func f) #[.pointer (some ⟨gt, 0, none⟩)] #[]
  | none => .nilFunc
theorem lit_beq (x : ByteArray) (l : List UInt8) : (x.toList == l) = decide (x = ⟨l.toArray⟩) := by
  have h := same_beq (x := x) (y := ⟨l.toArray⟩)
  rw [toList_data ⟨l.toArray⟩] at h
  exact h
set_option maxHeartbeats 4000000 in
theorem pa_clause (x : ByteArray) (gt : Nat) (w : World) : Calls Tryz.prog 169 #[.pointer (some ⟨gt, 0, none⟩), .string x] w fun e w' => e = .returned (clauseFn x gt) ∧ w = w' := by
  obtain ⟨V, hV⟩ : ∃ V, V = clauseFn x gt := ⟨_, rfl⟩
  rw [← hV]
  unfold clauseFn clauseId at hV
  have HV := Lib.hid hV
  clear hV
  by_cases h0 : x = ⟨#[118, 97, 114]⟩
  · have HR := Lib.hid (show V = .func (.func 178) #[.pointer (some ⟨gt, 0, none⟩)] #[] by rw [HV.out, if_pos h0])
    have z0 : (x.toList == [118, 97, 114]) = true := by rw [lit_beq]; exact decide_eq_true h0
    clear h0
    go_enter Tryz.func169, Tryz.ntmps169
    go_wp2
    go_ret
    exact ⟨by rw [HR.out]; rfl, rfl⟩
  have z0 : (x.toList == [118, 97, 114]) = false := by rw [lit_beq]; exact decide_eq_false h0
  by_cases h1 : x = ⟨#[119, 104, 101, 110]⟩
  · have HR := Lib.hid (show V = .func (.func 179) #[.pointer (some ⟨gt, 0, none⟩)] #[] by rw [HV.out, if_neg h0, if_pos h1])
    have z1 : (x.toList == [119, 104, 101, 110]) = true := by rw [lit_beq]; exact decide_eq_true h1
    clear h0 h1
    go_enter Tryz.func169, Tryz.ntmps169
    go_wp2
    go_ret
    exact ⟨by rw [HR.out]; rfl, rfl⟩
  have z1 : (x.toList == [119, 104, 101, 110]) = false := by rw [lit_beq]; exact decide_eq_false h1
  by_cases h2 : x = ⟨#[106, 111, 105, 110]⟩
  · have HR := Lib.hid (show V = .func (.func 180) #[.pointer (some ⟨gt, 0, none⟩)] #[] by rw [HV.out, if_neg h0, if_neg h1, if_pos h2])
    have z2 : (x.toList == [106, 111, 105, 110]) = true := by rw [lit_beq]; exact decide_eq_true h2
    clear h0 h1 h2
    go_enter Tryz.func169, Tryz.ntmps169
    go_wp2
    go_ret
    exact ⟨by rw [HR.out]; rfl, rfl⟩
  have z2 : (x.toList == [106, 111, 105, 110]) = false := by rw [lit_beq]; exact decide_eq_false h2
  by_cases h3 : x = ⟨#[115, 112, 108, 105, 116]⟩
  · have HR := Lib.hid (show V = .func (.func 181) #[.pointer (some ⟨gt, 0, none⟩)] #[] by rw [HV.out, if_neg h0, if_neg h1, if_neg h2, if_pos h3])
    have z3 : (x.toList == [115, 112, 108, 105, 116]) = true := by rw [lit_beq]; exact decide_eq_true h3
    clear h0 h1 h2 h3
    go_enter Tryz.func169, Tryz.ntmps169
    go_wp2
    go_ret
    exact ⟨by rw [HR.out]; rfl, rfl⟩
  have z3 : (x.toList == [115, 112, 108, 105, 116]) = false := by rw [lit_beq]; exact decide_eq_false h3
  by_cases h4 : x = ⟨#[105, 110]⟩
  · have HR := Lib.hid (show V = .func (.func 182) #[.pointer (some ⟨gt, 0, none⟩)] #[] by rw [HV.out, if_neg h0, if_neg h1, if_neg h2, if_neg h3, if_pos h4])
    have z4 : (x.toList == [105, 110]) = true := by rw [lit_beq]; exact decide_eq_true h4
    clear h0 h1 h2 h3 h4
    go_enter Tryz.func169, Tryz.ntmps169
    go_wp2
    go_ret
    exact ⟨by rw [HR.out]; rfl, rfl⟩
  have z4 : (x.toList == [105, 110]) = false := by rw [lit_beq]; exact decide_eq_false h4
  by_cases h5 : x = ⟨#[111, 117, 116]⟩
  · have HR := Lib.hid (show V = .func (.func 183) #[.pointer (some ⟨gt, 0, none⟩)] #[] by rw [HV.out, if_neg h0, if_neg h1, if_neg h2, if_neg h3, if_neg h4, if_pos h5])
    have z5 : (x.toList == [111, 117, 116]) = true := by rw [lit_beq]; exact decide_eq_true h5
    clear h0 h1 h2 h3 h4 h5
    go_enter Tryz.func169, Tryz.ntmps169
    go_wp2
    go_ret
    exact ⟨by rw [HR.out]; rfl, rfl⟩
  have z5 : (x.toList == [111, 117, 116]) = false := by rw [lit_beq]; exact decide_eq_false h5
  by_cases h6 : x = ⟨#[99, 97, 110, 99, 101, 108]⟩
  · have HR := Lib.hid (show V = .func (.func 184) #[.pointer (some ⟨gt, 0, none⟩)] #[] by rw [HV.out, if_neg h0, if_neg h1, if_neg h2, if_neg h3, if_neg h4, if_neg h5, if_pos h6])
    have z6 : (x.toList == [99, 97, 110, 99, 101, 108]) = true := by rw [lit_beq]; exact decide_eq_true h6
    clear h0 h1 h2 h3 h4 h5 h6
    go_enter Tryz.func169, Tryz.ntmps169
    go_wp2
    go_ret
    exact ⟨by rw [HR.out]; rfl, rfl⟩
  have z6 : (x.toList == [99, 97, 110, 99, 101, 108]) = false := by rw [lit_beq]; exact decide_eq_false h6
  by_cases h7 : x = ⟨#[97, 102, 116, 101, 114]⟩
  · have HR := Lib.hid (show V = .func (.func 185) #[.pointer (some ⟨gt, 0, none⟩)] #[] by rw [HV.out, if_neg h0, if_neg h1, if_neg h2, if_neg h3, if_neg h4, if_neg h5, if_neg h6, if_pos h7])
    have z7 : (x.toList == [97, 102, 116, 101, 114]) = true := by rw [lit_beq]; exact decide_eq_true h7
    clear h0 h1 h2 h3 h4 h5 h6 h7
    go_enter Tryz.func169, Tryz.ntmps169
    go_wp2
    go_ret
    exact ⟨by rw [HR.out]; rfl, rfl⟩
  have z7 : (x.toList == [97, 102, 116, 101, 114]) = false := by rw [lit_beq]; exact decide_eq_false h7
  by_cases h8 : x = ⟨#[109, 97, 110, 121]⟩
  · have HR := Lib.hid (show V = .func (.func 186) #[.pointer (some ⟨gt, 0, none⟩)] #[] by rw [HV.out, if_neg h0, if_neg h1, if_neg h2, if_neg h3, if_neg h4, if_neg h5, if_neg h6, if_neg h7, if_pos h8])
    have z8 : (x.toList == [109, 97, 110, 121]) = true := by rw [lit_beq]; exact decide_eq_true h8
    clear h0 h1 h2 h3 h4 h5 h6 h7 h8
    go_enter Tryz.func169, Tryz.ntmps169
    go_wp2
    go_ret
    exact ⟨by rw [HR.out]; rfl, rfl⟩
  have z8 : (x.toList == [109, 97, 110, 121]) = false := by rw [lit_beq]; exact decide_eq_false h8
  have HR := Lib.hid (show V = .nilFunc by rw [HV.out, if_neg h0, if_neg h1, if_neg h2, if_neg h3, if_neg h4, if_neg h5, if_neg h6, if_neg h7, if_neg h8])
  clear h0 h1 h2 h3 h4 h5 h6 h7 h8
  go_enter Tryz.func169, Tryz.ntmps169
  go_wp2
  go_ret
  exact ⟨by rw [HR.out]; rfl, rfl⟩
end Go.Proofs.YtkpjhjoopdbkaaaGreatDoor
namespace Go.Proofs.YtkpjhjoopdbkaaaGreatDoor
theorem bump_keys {m n : Int} : ∀ (c : Row) (p : Int × Int), p ∈ bumpC m n c → p.1 = m ∨ ∃ q ∈ c, q.1 = p.1
  | [], p, h => by
    rw [bumpC, List.mem_singleton] at h
    exact .inl (by rw [h])
  | (x, v) :: r, p, h => by
    rw [bumpC] at h
    split at h
    · rcases List.mem_cons.1 h with h | h
      · exact .inl (by rw [h])
      · exact .inr ⟨p, h, rfl⟩
    · split at h
      · rename_i e
        rcases List.mem_cons.1 h with h | h
        · exact .inl (by rw [h, e])
        · exact .inr ⟨p, by simp [h], rfl⟩
      · rcases List.mem_cons.1 h with h | h
        · exact .inr ⟨(x, v), by simp, by rw [h]⟩
        · rcases bump_keys r p h with h | ⟨q, hq, e⟩
          · exact .inl h
          · exact .inr ⟨q, by simp [hq], e⟩
theorem bump_srt {m n : Int} : ∀ {c : Row}, Srt c → Srt (bumpC m n c)
  | [], _ => by rw [bumpC]; exact List.pairwise_singleton _ _
  | (x, v) :: r, h => by
    obtain ⟨h1, h2⟩ := List.pairwise_cons.1 h
    rw [bumpC]
    split
    · rename_i hx
      refine List.pairwise_cons.2 ⟨fun q hq => ?_, h⟩
      rcases List.mem_cons.1 hq with rfl | hq
      · exact hx
      · have := h1 q hq; simp only at this ⊢; omega
    · split
      · exact List.pairwise_cons.2 ⟨fun q hq => h1 q hq, h2⟩
      · rename_i hx hn
        refine List.pairwise_cons.2 ⟨fun q hq => ?_, bump_srt h2⟩
        rcases bump_keys r q hq with e | ⟨q', hq', e⟩
        · simp only [e]; omega
        · have := h1 q' hq'; simp only at this ⊢; omega
theorem bump_get {m n k : Int} : ∀ {c : Row}, Srt c → getM (bumpC m n c) k = if k = m then getM c m + min n (1048576 - getM c m) else getM c k
  | [], _ => by
    rw [bumpC]
    show (if m = k then min n 1048576 else 0) = if k = m then 0 + min n (1048576 - 0) else 0
    by_cases e : k = m
    · rw [if_pos e, if_pos e.symm]; simp
    · rw [if_neg e, if_neg (fun h => e h.symm)]
  | (x, v) :: r, h => by
    obtain ⟨h1, h2⟩ := List.pairwise_cons.1 h
    rw [bumpC]
    split
    · rename_i hx
      have hno : getM ((x, v) :: r) m = 0 := getM_not fun p hp => by
        rcases List.mem_cons.1 hp with rfl | hp
        · simp only; omega
        · have := h1 p hp; simp only at this; omega
      by_cases e : k = m
      · rw [if_pos e, getM, if_pos e.symm, hno]; simp
      · rw [if_neg e, getM, if_neg (fun h => e h.symm)]
    · split
      · rename_i hx hm
        subst hm
        by_cases e : k = m
        · rw [if_pos e, getM, if_pos e.symm, getM, if_pos rfl]
        · rw [if_neg e, getM, if_neg (fun h => e h.symm), getM, if_neg (fun h => e h.symm)]
      · rename_i hx hm
        have ih := bump_get (m := m) (n := n) (k := k) h2
        have hxm : getM ((x, v) :: r) m = getM r m := by rw [getM, if_neg (fun e => hm e.symm)]
        rw [hxm, getM]
        by_cases ex : x = k
        · rw [if_pos ex, if_neg (fun e => hm (by rw [← e, ex])), getM, if_pos ex]
        · rw [if_neg ex, ih]
          split
          · rfl
          · rw [getM, if_neg ex]
theorem filter_row {c : Row} (h : Srt c) : RowG (c.filter fun q => decide (0 < q.2)) (getM c) := by
  refine ⟨h.sublist List.filter_sublist, fun p hp => ?_, fun k hk => ?_⟩
  · obtain ⟨h1, h2⟩ := List.mem_filter.1 hp
    exact ⟨of_decide_eq_true h2, (getM_mem h h1).symm⟩
  · exact List.mem_filter.2 ⟨mem_getM (by omega), by simpa using hk⟩
end Go.Proofs.YtkpjhjoopdbkaaaGreatDoor
namespace Go.Proofs.YtkpjhjoopdbkaaaGreatDoor
open Go.RowKit
theorem wf64 {x : Int} (h : I64 x) : (Lit.int .i64 x).wf = true := by
  have hmin : IntKind.i64.min = -9223372036854775808 := rfl
  have hmax : IntKind.i64.max = 9223372036854775807 := rfl
  simp only [Lit.wf, Bool.and_eq_true, decide_eq_true_eq, hmin, hmax]
  exact h
theorem keyI : Maps.Keyed Tryz.prog 3 := Maps.int_keyed Tryz.underlying3
theorem keyOfI {x : Int} (h : I64 x) : keyOf Tryz.prog 3 (.int .i64 x) = some (.int .i64 x) := Maps.keyOf_int_mk Tryz.underlying3 (wf64 h)
abbrev OwnI (w : World) (b n : Nat) (D : DataW Unit) : Prop := w.ownsMap Tryz.prog 3 (plainElem Tryz.prog 3) b n D
theorem zeroI (w : World) : (zeroValue 3).run Tryz.prog w = .ok (.int .i64 0) w := by kernel_rfl
/-- What the map holds: the rows. -/
def MapD (D : DataW Unit) (M : Row) : Prop :=
  (∀ kl, Maps.has D kl = true → ∃ p ∈ M, kl = .int .i64 p.1) ∧ ∀ p ∈ M, ∀ z, D.atKey (.int .i64 p.1) z = .lit (.int .i64 p.2)
/-- What the map counts. -/
def GetD (D : DataW Unit) (g : Int → Int) : Prop := ∀ k, D.atKey (.int .i64 k) (.lit (.int .i64 0)) = .lit (.int .i64 (g k))
theorem MapD.get {D : DataW Unit} {M : Row} (h : MapD D M) (hs : Srt M) : GetD D (getM M) := by
  intro k
  cases hh : Maps.has D (.int .i64 k) with
  | true =>
    obtain ⟨p, hp, e⟩ := h.1 _ hh
    injection e with _ e
    subst e
    rw [h.2 p hp, getM_mem hs hp]
  | false =>
    rw [Maps.atKey_of_not_has hh, getM_not]
    intro p hp e
    have := Maps.has_true_of_atKey (h.2 p hp)
    rw [e, hh] at this
    cases this
theorem MapD.put {D : DataW Unit} {M : Row} {p : Int × Int} (h : MapD D M) (hD : Maps.IsMap D) (hn : ∀ q ∈ M, q.1 ≠ p.1) : MapD (D.put (.int .i64 p.1) (.lit (.int .i64 p.2))) (M ++ [p]) := by
  refine ⟨fun kl hk => ?_, fun q hq z => ?_⟩
  · by_cases e : kl = .int .i64 p.1
    · exact ⟨p, by simp, e⟩
    · rw [Maps.has_put_other e] at hk
      obtain ⟨q, hq, e⟩ := h.1 kl hk
      exact ⟨q, by simp [hq], e⟩
  · rcases List.mem_append.1 hq with hq | hq
    · rw [Maps.atKey_put_other (fun h1 => hn q hq (by injection h1))]
      exact h.2 q hq z
    · rw [List.mem_singleton] at hq
      subst hq
      exact Maps.atKey_put_same hD (show WideAt.IsKeyLit (Lit.int .i64 q.1) from trivial) _ _
theorem GetD.put {D : DataW Unit} {g : Int → Int} (h : GetD D g) (hD : Maps.IsMap D) (k v : Int) : GetD (D.put (.int .i64 k) (.lit (.int .i64 v))) (fun j => if j = k then v else g j) := by
  intro j
  by_cases e : j = k
  · subst e
    rw [Maps.atKey_put_same hD (show WideAt.IsKeyLit (Lit.int .i64 j) from trivial)]; simp
  · rw [Maps.atKey_put_other (fun h1 => e (by injection h1)), h j]; simp [e]
/-- Block b is a map that holds the rows. -/
def MapM (w : World) (b : Nat) (M : Row) : Prop := ∃ D, OwnI w b M.length D ∧ MapD D M
theorem MapM.below {B : Nat} {w w' : World} {b : Nat} {M : Row} (h : MapM w b M) (hb : Below B w w') (hB : b < B) : MapM w' b M := by
  obtain ⟨D, ⟨es, cl, h1, h2⟩, h3⟩ := h
  exact ⟨D, ⟨es, cl, by rw [hb.block b hB]; exact h1, h2⟩, h3⟩
theorem MapM.lt {w : World} {b : Nat} {M : Row} (h : MapM w b M) : b < w.heap.size := by
  obtain ⟨D, h, _⟩ := h; exact h.lt
end Go.Proofs.YtkpjhjoopdbkaaaGreatDoor
