/- Joined: Package parse: the finders. Printed by gen_paC.py. Package parse: number, integer, known, fresh. Printed by gen_paD.py. -/
import Derived.Test.YtkpjhjoopdbkaaaGreatDoorG07
import Derived.Shelf.Abstract
import Derived.Laws.EntriesVeiled
namespace Go.Proofs.YtkpjhjoopdbkaaaGreatDoor
open Go.RowKit
theorem idx_step {l : List ByteArray} {x : ByteArray} {k : Nat} (h : k < l.length) : Lib.idxFromS (l.drop k) x k = if l.getD k ByteArray.empty = x then (k : Int) else Lib.idxFromS (l.drop (k + 1)) x (k + 1) := by
  rw [List.drop_eq_getElem_cons h, Lib.idxFromS, List.getD, List.getElem?_eq_getElem h]
  rfl
theorem idx_end {l : List ByteArray} {x : ByteArray} {k : Nat} (h : l.length ≤ k) : Lib.idxFromS (l.drop k) x k = -1 := by
  rw [List.drop_eq_nil_of_le h]; rfl
theorem map_getD {α : Type} [Inhabited α] (f : α → ByteArray) {l : List α} {k : Nat} (h : k < l.length) : (l.map f).getD k ByteArray.empty = f (l.getD k default) := by
  simp [List.getD, h]
theorem findN_lo (l : List ByteArray) (x : ByteArray) : -1 ≤ findN l x ∧ findN l x < (l.length : Int) + 1 := by
  have gen : ∀ (l : List ByteArray) (i : Nat), -1 ≤ Lib.idxFromS l x i ∧ Lib.idxFromS l x i < (i : Int) + l.length + 1 := by
    intro l
    induction l with
    | nil => intro i; rw [Lib.idxFromS]; simp; omega
    | cons z zs ih =>
      intro i
      rw [Lib.idxFromS]
      split
      · simp; omega
      · have := ih (i + 1); simp at this ⊢; omega
  have := gen l 0
  unfold findN Lib.idxOfS
  omega
set_option maxHeartbeats 1000000 in
theorem pa_alike_col (q : Col) (A' : Option Addr) (n' c' : Nat) (x : ByteArray) (g2 : Nat) (w : World) (hx : Hid (w.cell? ⟨g2, 0, none⟩ = some (.string x))) :
    Calls Tryz.prog 163 #[.agg #[.string q.name, .int .i64 q.kind, .int .i64 q.lo, .int .i64 q.hi, .slice A' n' c', .int .i64 q.first, .int .i64 q.then_], .pointer (some ⟨g2, 0, none⟩)] w fun e w' => e = .returned (.bool (decide (q.name = x))) ∧ Below w.heap.size w w' := by
  have HB := Lib.hid (alrB w (.cells #[.string q.name, .int .i64 q.kind, .int .i64 q.lo, .int .i64 q.hi, .slice A' n' c', .int .i64 q.first, .int .i64 q.then_] 82))
  have x1 := cell_kept HB.out hx.out
  have hs := same_beq (x := q.name) (y := x)
  rw [← hs]
  clear hs
  go_enter Tryz.func163, Tryz.ntmps163
  go_wp2
  go_ret
  exact ⟨rfl, HB.out⟩
set_option maxRecDepth 100000 in
set_option maxHeartbeats 2000000 in
theorem pa_index_col (A : Option Addr) (n c : Nat) (L : List Col) (x : ByteArray) (g2 : Nat) (w : World) (hS : Hid (Cols w A n c L)) (hx : Hid (w.cell? ⟨g2, 0, none⟩ = some (.string x))) :
    Calls Tryz.prog 162 #[.slice A n c, .func (.func 163) #[] #[.pointer (some ⟨g2, 0, none⟩)]] w fun e w' => e = .returned (.int .i64 (findN (L.map (·.name)) x)) ∧ Below w.heap.size w w' := by
  have hn := Nat.le_trans hS.out.1 hS.out.2.1
  have HL := Lib.hid (show (L.map (·.name)).length = n by rw [List.length_map]; exact hS.out.2.2.1)
  have HLL := Lib.hid (show L.length = n from hS.out.2.2.1)
  obtain ⟨R, hR⟩ : ∃ R, R = findN (L.map (·.name)) x := ⟨_, rfl⟩
  have HR := Lib.hid (show Lib.idxFromS ((L.map (·.name)).drop 0) x 0 = R from hR.symm)
  rw [← hR]
  clear hR
  go_enter Tryz.func162, Tryz.ntmps162
  go_wp2
  go_loopw [8] (fun v8 wr => ∃ (k : Nat), k ≤ n ∧ v8 = .int .i64 (k : Int) ∧ Hid (Lib.idxFromS ((L.map (·.name)).drop k) x k = R) ∧ Hid (Below w.heap.size w wr)) (fun v8 _ => n - (intOf v8).toNat)
  case atStart => exact ⟨0, by omega, rfl, HR, Lib.hid (Below.refl _ _)⟩
  case round =>
    obtain ⟨k, hk, rfl, hP, hB⟩ := hrel
    by_cases hlt : k < n
    · obtain ⟨b, off, rfl, A', n', c', hE⟩ := (hS.out.below hB.out).at_ hlt
      obtain ⟨q, hq⟩ : ∃ q, q = L.getD k default := ⟨_, rfl⟩
      rw [← hq] at hE
      have e0 := hE.c0
      have e1 := hE.c1
      have e2 := hE.c2
      have e3 := hE.c3
      have e4 := hE.c4
      have e5 := hE.c5
      have e6 := hE.c6
      have cQ := pa_alike_col q A' n' c' x g2 wr (Lib.hid (cell_kept hB.out hx.out))
      have hst := hP.out
      rw [idx_step (by rw [HL.out]; exact hlt), map_getD _ (by rw [HLL.out]; exact hlt), ← hq] at hst
      obtain ⟨y, hy⟩ : ∃ y, y = decide (q.name = x) := ⟨_, rfl⟩
      have HY := Lib.hid hy
      rw [← hy] at cQ
      have CQ := Lib.hid cQ
      have HST := Lib.hid hst
      have hlt2 : (k : Int) < (n : Int) := by omega
      have hk0 : (0 : Int) ≤ (k : Int) := by omega
      clear hq hy hst cQ hE
      go_wp2_with (go_at_call 163; refine CQ.out.mono ?_; rintro e w5 ⟨rfl, hb5⟩; have HB5 := Lib.hid (below_then hB.out hb5); clear hb5)
      all_goals first
        | (go_ret
           have hyt : y = true := by first | rfl | assumption | simp_all
           have h1 := HST.out
           rw [if_pos (of_decide_eq_true (HY.out.symm.trans hyt))] at h1
           exact ⟨ret1 h1, HB5.out⟩)
        | (have hyf : y = false := by first | rfl | assumption | simp_all
           have h1 := HST.out
           rw [if_neg (of_decide_eq_false (HY.out.symm.trans hyf))] at h1
           have H1 := Lib.hid h1
           clear h1
           go_roundw
           case rel => exact ⟨k + 1, by omega, by go_num, H1, HB5⟩
           case measure => simp [intOf]; omega)
    · have hst := hP.out
      rw [idx_end (by rw [HL.out]; omega)] at hst
      have HST := Lib.hid hst
      clear hst
      go_wp2
      go_ret
      exact ⟨ret1 HST.out, hB.out⟩
set_option maxHeartbeats 1000000 in
theorem pa_alike_pl (q : Pl) (A' : Option Addr) (n' c' : Nat) (x : ByteArray) (g2 : Nat) (w : World) (hx : Hid (w.cell? ⟨g2, 0, none⟩ = some (.string x))) :
    Calls Tryz.prog 136 #[.agg #[.string q.name, .int .i64 q.colour, .slice A' n' c'], .pointer (some ⟨g2, 0, none⟩)] w fun e w' => e = .returned (.bool (decide (q.name = x))) ∧ Below w.heap.size w w' := by
  have HB := Lib.hid (alrB w (.cells #[.string q.name, .int .i64 q.colour, .slice A' n' c'] 66))
  have x1 := cell_kept HB.out hx.out
  have hs := same_beq (x := q.name) (y := x)
  rw [← hs]
  clear hs
  go_enter Tryz.func136, Tryz.ntmps136
  go_wp2
  go_ret
  exact ⟨rfl, HB.out⟩
set_option maxRecDepth 100000 in
set_option maxHeartbeats 2000000 in
theorem pa_index_pl (A : Option Addr) (n c : Nat) (L : List Pl) (x : ByteArray) (g2 : Nat) (w : World) (hS : Hid (SlOf 3 PlAt w A n c L)) (hx : Hid (w.cell? ⟨g2, 0, none⟩ = some (.string x))) :
    Calls Tryz.prog 135 #[.slice A n c, .func (.func 136) #[] #[.pointer (some ⟨g2, 0, none⟩)]] w fun e w' => e = .returned (.int .i64 (findN (L.map (·.name)) x)) ∧ Below w.heap.size w w' := by
  have hn := Nat.le_trans hS.out.1 hS.out.2.1
  have HL := Lib.hid (show (L.map (·.name)).length = n by rw [List.length_map]; exact hS.out.2.2.1)
  have HLL := Lib.hid (show L.length = n from hS.out.2.2.1)
  obtain ⟨R, hR⟩ : ∃ R, R = findN (L.map (·.name)) x := ⟨_, rfl⟩
  have HR := Lib.hid (show Lib.idxFromS ((L.map (·.name)).drop 0) x 0 = R from hR.symm)
  rw [← hR]
  clear hR
  go_enter Tryz.func135, Tryz.ntmps135
  go_wp2
  go_loopw [8] (fun v8 wr => ∃ (k : Nat), k ≤ n ∧ v8 = .int .i64 (k : Int) ∧ Hid (Lib.idxFromS ((L.map (·.name)).drop k) x k = R) ∧ Hid (Below w.heap.size w wr)) (fun v8 _ => n - (intOf v8).toNat)
  case atStart => exact ⟨0, by omega, rfl, HR, Lib.hid (Below.refl _ _)⟩
  case round =>
    obtain ⟨k, hk, rfl, hP, hB⟩ := hrel
    by_cases hlt : k < n
    · obtain ⟨b, off, rfl, A', n', c', hE⟩ := (hS.out.below PlAt.stays hB.out).at_ hlt
      obtain ⟨q, hq⟩ : ∃ q, q = L.getD k default := ⟨_, rfl⟩
      rw [← hq] at hE
      have e0 := hE.c0
      have e1 := hE.c1
      have e2 := hE.c2
      have cQ := pa_alike_pl q A' n' c' x g2 wr (Lib.hid (cell_kept hB.out hx.out))
      have hst := hP.out
      rw [idx_step (by rw [HL.out]; exact hlt), map_getD _ (by rw [HLL.out]; exact hlt), ← hq] at hst
      obtain ⟨y, hy⟩ : ∃ y, y = decide (q.name = x) := ⟨_, rfl⟩
      have HY := Lib.hid hy
      rw [← hy] at cQ
      have CQ := Lib.hid cQ
      have HST := Lib.hid hst
      have hlt2 : (k : Int) < (n : Int) := by omega
      have hk0 : (0 : Int) ≤ (k : Int) := by omega
      clear hq hy hst cQ hE
      go_wp2_with (go_at_call 136; refine CQ.out.mono ?_; rintro e w5 ⟨rfl, hb5⟩; have HB5 := Lib.hid (below_then hB.out hb5); clear hb5)
      all_goals first
        | (go_ret
           have hyt : y = true := by first | rfl | assumption | simp_all
           have h1 := HST.out
           rw [if_pos (of_decide_eq_true (HY.out.symm.trans hyt))] at h1
           exact ⟨ret1 h1, HB5.out⟩)
        | (have hyf : y = false := by first | rfl | assumption | simp_all
           have h1 := HST.out
           rw [if_neg (of_decide_eq_false (HY.out.symm.trans hyf))] at h1
           have H1 := Lib.hid h1
           clear h1
           go_roundw
           case rel => exact ⟨k + 1, by omega, by go_num, H1, HB5⟩
           case measure => simp [intOf]; omega)
    · have hst := hP.out
      rw [idx_end (by rw [HL.out]; omega)] at hst
      have HST := Lib.hid hst
      clear hst
      go_wp2
      go_ret
      exact ⟨ret1 HST.out, hB.out⟩
set_option maxHeartbeats 1000000 in
theorem pa_alike_tk (q : Tk) (Av : Option Addr) (nv cv : Nat) (Ag : Option Addr) (mg cg : Nat) (Ai : Option Addr) (ni ci : Nat) (Ao : Option Addr) (no co : Nat) (Ac : Option Addr) (nc cc : Nat) (x : ByteArray) (g2 : Nat) (w : World) (hx : Hid (w.cell? ⟨g2, 0, none⟩ = some (.string x))) :
    Calls Tryz.prog 168 #[.agg #[.string q.name, .slice Av nv cv, .int .i64 q.guard.kind, .int .i64 q.guard.num, .slice Ag mg cg, .int .i64 q.join, .int .i64 q.split, .slice Ai ni ci, .slice Ao no co, .slice Ac nc cc, .int .i64 q.after, .int .i64 q.m0, .int .i64 q.m1, .int .i64 q.m2], .pointer (some ⟨g2, 0, none⟩)] w fun e w' => e = .returned (.bool (decide (q.name = x))) ∧ Below w.heap.size w w' := by
  have HB := Lib.hid (alrB w (.cells #[.string q.name, .slice Av nv cv, .int .i64 q.guard.kind, .int .i64 q.guard.num, .slice Ag mg cg, .int .i64 q.join, .int .i64 q.split, .slice Ai ni ci, .slice Ao no co, .slice Ac nc cc, .int .i64 q.after, .int .i64 q.m0, .int .i64 q.m1, .int .i64 q.m2] 59))
  have x1 := cell_kept HB.out hx.out
  have hs := same_beq (x := q.name) (y := x)
  rw [← hs]
  clear hs
  go_enter Tryz.func168, Tryz.ntmps168
  go_wp2
  go_ret
  exact ⟨rfl, HB.out⟩
set_option maxRecDepth 100000 in
set_option maxHeartbeats 2000000 in
theorem pa_index_tk (A : Option Addr) (n c : Nat) (L : List Tk) (x : ByteArray) (g2 : Nat) (w : World) (hS : Hid (SlOf 14 TkAt w A n c L)) (hx : Hid (w.cell? ⟨g2, 0, none⟩ = some (.string x))) :
    Calls Tryz.prog 167 #[.slice A n c, .func (.func 168) #[] #[.pointer (some ⟨g2, 0, none⟩)]] w fun e w' => e = .returned (.int .i64 (findN (L.map (·.name)) x)) ∧ Below w.heap.size w w' := by
  have hn := Nat.le_trans hS.out.1 hS.out.2.1
  have HL := Lib.hid (show (L.map (·.name)).length = n by rw [List.length_map]; exact hS.out.2.2.1)
  have HLL := Lib.hid (show L.length = n from hS.out.2.2.1)
  obtain ⟨R, hR⟩ : ∃ R, R = findN (L.map (·.name)) x := ⟨_, rfl⟩
  have HR := Lib.hid (show Lib.idxFromS ((L.map (·.name)).drop 0) x 0 = R from hR.symm)
  rw [← hR]
  clear hR
  go_enter Tryz.func167, Tryz.ntmps167
  go_wp2
  go_loopw [8] (fun v8 wr => ∃ (k : Nat), k ≤ n ∧ v8 = .int .i64 (k : Int) ∧ Hid (Lib.idxFromS ((L.map (·.name)).drop k) x k = R) ∧ Hid (Below w.heap.size w wr)) (fun v8 _ => n - (intOf v8).toNat)
  case atStart => exact ⟨0, by omega, rfl, HR, Lib.hid (Below.refl _ _)⟩
  case round =>
    obtain ⟨k, hk, rfl, hP, hB⟩ := hrel
    by_cases hlt : k < n
    · obtain ⟨b, off, rfl, Av, nv, cv, Ag, mg, cg, Ai, ni, ci, Ao, no, co, Ac, nc, cc, hE⟩ := (hS.out.below TkAt.stays hB.out).at_ hlt
      obtain ⟨q, hq⟩ : ∃ q, q = L.getD k default := ⟨_, rfl⟩
      rw [← hq] at hE
      have e0 := hE.c0
      have e1 := hE.c1
      have e2 := hE.c2
      have e3 := hE.c3
      have e4 := hE.c4
      have e5 := hE.c5
      have e6 := hE.c6
      have e7 := hE.c7
      have e8 := hE.c8
      have e9 := hE.c9
      have e10 := hE.c10
      have e11 := hE.c11
      have e12 := hE.c12
      have e13 := hE.c13
      have cQ := pa_alike_tk q Av nv cv Ag mg cg Ai ni ci Ao no co Ac nc cc x g2 wr (Lib.hid (cell_kept hB.out hx.out))
      have hst := hP.out
      rw [idx_step (by rw [HL.out]; exact hlt), map_getD _ (by rw [HLL.out]; exact hlt), ← hq] at hst
      obtain ⟨y, hy⟩ : ∃ y, y = decide (q.name = x) := ⟨_, rfl⟩
      have HY := Lib.hid hy
      rw [← hy] at cQ
      have CQ := Lib.hid cQ
      have HST := Lib.hid hst
      have hlt2 : (k : Int) < (n : Int) := by omega
      have hk0 : (0 : Int) ≤ (k : Int) := by omega
      clear hq hy hst cQ hE
      go_wp2_with (go_at_call 168; refine CQ.out.mono ?_; rintro e w5 ⟨rfl, hb5⟩; have HB5 := Lib.hid (below_then hB.out hb5); clear hb5)
      all_goals first
        | (go_ret
           have hyt : y = true := by first | rfl | assumption | simp_all
           have h1 := HST.out
           rw [if_pos (of_decide_eq_true (HY.out.symm.trans hyt))] at h1
           exact ⟨ret1 h1, HB5.out⟩)
        | (have hyf : y = false := by first | rfl | assumption | simp_all
           have h1 := HST.out
           rw [if_neg (of_decide_eq_false (HY.out.symm.trans hyf))] at h1
           have H1 := Lib.hid h1
           clear h1
           go_roundw
           case rel => exact ⟨k + 1, by omega, by go_num, H1, HB5⟩
           case measure => simp [intOf]; omega)
    · have hst := hP.out
      rw [idx_end (by rw [HL.out]; omega)] at hst
      have HST := Lib.hid hst
      clear hst
      go_wp2
      go_ret
      exact ⟨ret1 HST.out, hB.out⟩
section
variable {T : List Tok} {en : Int} {g : Nat} {A : Option Addr} {c : Nat} {h : Hs} {s : Ps}
set_option maxHeartbeats 1000000 in
theorem pa_find_col (x : ByteArray) (w : World) (hp : Hid (PAt T en g A c h s w)) (hr : Hid (Cols w h.A1 h.n1 h.c1 s.cols)) : Calls Tryz.prog 127 #[.pointer (some ⟨g, 0, none⟩), .string x] w fun e w' => e = .returned (.int .i64 (findCol s x)) ∧ Below w.heap.size w w' := by
  obtain ⟨w1, hw1⟩ : ∃ y, y = w.alloc (.cells #[.string x] 9) := ⟨_, rfl⟩
  obtain ⟨g1, hg1⟩ : ∃ y, y = w.heap.size := ⟨_, rfl⟩
  have HB := Lib.hid (show Below w.heap.size w w1 by rw [hw1]; exact alrB w _)
  have X1 := Lib.hid (show w1.cell? ⟨g1, 0, none⟩ = some (.string x) by rw [hw1, hg1]; exact cell_new w _ _ 0 _ rfl)
  have HW := Lib.hid hw1.symm
  have HG := Lib.hid hg1.symm
  have HP1 := Lib.hid (hp.out.below HB.out)
  have CI := Lib.hid (show Calls Tryz.prog 162 #[.slice h.A1 h.n1 h.c1, .func (.func 163) #[] #[.pointer (some ⟨g1, 0, none⟩)]] w1 fun e w' => e = .returned (.int .i64 (findCol s x)) ∧ Below w1.heap.size w1 w' from pa_index_col h.A1 h.n1 h.c1 s.cols x g1 w1 (Lib.hid (hr.out.below HB.out)) X1)
  obtain ⟨R, hR⟩ : ∃ R, R = findCol s x := ⟨_, rfl⟩
  rw [← hR] at CI ⊢
  have b1 := HP1.out.blk.c5
  clear hw1 hg1 hR
  go_enter Tryz.func127, Tryz.ntmps127
  go_upto_region 1 with fail
  rw [HW.out, HG.out]
  go_wp2_with fail
  refine CI.out.mono ?_
  rintro e w2 ⟨rfl, hb⟩
  have HZ := Lib.hid (below_then HB.out hb)
  clear hb
  go_wp2
  go_ret
  exact ⟨rfl, HZ.out⟩
set_option maxHeartbeats 1000000 in
theorem pa_find_pl (x : ByteArray) (w : World) (hp : Hid (PAt T en g A c h s w)) (hr : Hid (SlOf 3 PlAt w h.A2 h.n2 h.c2 s.pls)) : Calls Tryz.prog 73 #[.pointer (some ⟨g, 0, none⟩), .string x] w fun e w' => e = .returned (.int .i64 (findPl s x)) ∧ Below w.heap.size w w' := by
  obtain ⟨w1, hw1⟩ : ∃ y, y = w.alloc (.cells #[.string x] 9) := ⟨_, rfl⟩
  obtain ⟨g1, hg1⟩ : ∃ y, y = w.heap.size := ⟨_, rfl⟩
  have HB := Lib.hid (show Below w.heap.size w w1 by rw [hw1]; exact alrB w _)
  have X1 := Lib.hid (show w1.cell? ⟨g1, 0, none⟩ = some (.string x) by rw [hw1, hg1]; exact cell_new w _ _ 0 _ rfl)
  have HW := Lib.hid hw1.symm
  have HG := Lib.hid hg1.symm
  have HP1 := Lib.hid (hp.out.below HB.out)
  have CI := Lib.hid (show Calls Tryz.prog 135 #[.slice h.A2 h.n2 h.c2, .func (.func 136) #[] #[.pointer (some ⟨g1, 0, none⟩)]] w1 fun e w' => e = .returned (.int .i64 (findPl s x)) ∧ Below w1.heap.size w1 w' from pa_index_pl h.A2 h.n2 h.c2 s.pls x g1 w1 (Lib.hid (hr.out.below PlAt.stays HB.out)) X1)
  obtain ⟨R, hR⟩ : ∃ R, R = findPl s x := ⟨_, rfl⟩
  rw [← hR] at CI ⊢
  have b1 := HP1.out.blk.c6
  clear hw1 hg1 hR
  go_enter Tryz.func73, Tryz.ntmps73
  go_upto_region 1 with fail
  rw [HW.out, HG.out]
  go_wp2_with fail
  refine CI.out.mono ?_
  rintro e w2 ⟨rfl, hb⟩
  have HZ := Lib.hid (below_then HB.out hb)
  clear hb
  go_wp2
  go_ret
  exact ⟨rfl, HZ.out⟩
set_option maxHeartbeats 1000000 in
theorem pa_find_tk (x : ByteArray) (w : World) (hp : Hid (PAt T en g A c h s w)) (hr : Hid (SlOf 14 TkAt w h.A3 h.n3 h.c3 s.tks)) : Calls Tryz.prog 132 #[.pointer (some ⟨g, 0, none⟩), .string x] w fun e w' => e = .returned (.int .i64 (findTk s x)) ∧ Below w.heap.size w w' := by
  obtain ⟨w1, hw1⟩ : ∃ y, y = w.alloc (.cells #[.string x] 9) := ⟨_, rfl⟩
  obtain ⟨g1, hg1⟩ : ∃ y, y = w.heap.size := ⟨_, rfl⟩
  have HB := Lib.hid (show Below w.heap.size w w1 by rw [hw1]; exact alrB w _)
  have X1 := Lib.hid (show w1.cell? ⟨g1, 0, none⟩ = some (.string x) by rw [hw1, hg1]; exact cell_new w _ _ 0 _ rfl)
  have HW := Lib.hid hw1.symm
  have HG := Lib.hid hg1.symm
  have HP1 := Lib.hid (hp.out.below HB.out)
  have CI := Lib.hid (show Calls Tryz.prog 167 #[.slice h.A3 h.n3 h.c3, .func (.func 168) #[] #[.pointer (some ⟨g1, 0, none⟩)]] w1 fun e w' => e = .returned (.int .i64 (findTk s x)) ∧ Below w1.heap.size w1 w' from pa_index_tk h.A3 h.n3 h.c3 s.tks x g1 w1 (Lib.hid (hr.out.below TkAt.stays HB.out)) X1)
  obtain ⟨R, hR⟩ : ∃ R, R = findTk s x := ⟨_, rfl⟩
  rw [← hR] at CI ⊢
  have b1 := HP1.out.blk.c7
  clear hw1 hg1 hR
  go_enter Tryz.func132, Tryz.ntmps132
  go_upto_region 1 with fail
  rw [HW.out, HG.out]
  go_wp2_with fail
  refine CI.out.mono ?_
  rintro e w2 ⟨rfl, hb⟩
  have HZ := Lib.hid (below_then HB.out hb)
  clear hb
  go_wp2
  go_ret
  exact ⟨rfl, HZ.out⟩
set_option maxHeartbeats 1000000 in
theorem pa_find_var (x : ByteArray) (w : World) (hp : Hid (PAt T en g A c h s w)) : Calls Tryz.prog 121 #[.pointer (some ⟨g, 0, none⟩), .string x] w fun e w' => e = .returned (.int .i64 (findVar s x)) ∧ Below w.heap.size w w' := by
  have b1 := hp.out.blk.c10
  have hv := hp.out.vars.now
  have hl := hv.len
  rw [strCells_len] at hl
  have hl2 : s.vars.length = h.n4 := by omega
  have HC : Hid (Calls Tryz.prog 122 #[.slice h.A4 h.n4 h.c4, .string x] w fun e w' => e = .returned (.int .i64 (findVar s x)) ∧ w' = w) := Lib.hid (by
    by_cases h0 : h.n4 = 0
    · have e : s.vars = [] := List.length_eq_zero_iff.1 (by omega)
      have := Tryz.slices_Index_string_empty h.A4 h.c4 x w
      rw [h0]
      unfold findVar findN
      rw [e]
      exact this
    · obtain ⟨b, off, eA, hc⟩ := hv.at_ (by omega)
      have := Tryz.slices_Index_string b off h.n4 h.c4 s.vars x w (by omega) hv.bound (fun j hj => by
        refine hc j _ ?_
        unfold strCells
        rw [List.getElem?_map, List.getD, List.getElem?_eq_getElem hj]; rfl)
      rw [List.take_of_length_le (by omega)] at this
      rw [eA]
      exact this)
  obtain ⟨R, hR⟩ : ∃ R, R = findVar s x := ⟨_, rfl⟩
  rw [← hR] at HC ⊢
  clear hR hv hl hl2
  go_enter Tryz.func121, Tryz.ntmps121
  go_wp2_with fail
  refine HC.out.mono ?_
  rintro e w2 ⟨rfl, rfl⟩
  go_wp2
  go_ret
  exact ⟨rfl, Below.refl _ _⟩
end
end Go.Proofs.YtkpjhjoopdbkaaaGreatDoor
namespace Go.Proofs.YtkpjhjoopdbkaaaGreatDoor
open Go.RowKit
theorem next_small {T : List Tok} (hT : TokS T) (s : Ps) : (nextP (ktOf T) s).2.size ≤ 1000000 := by
  unfold nextP
  split
  · rcases Nat.lt_or_ge s.at_ T.length with h | h
    · rw [ktOf_at T _ h]; exact hT.text _ (List.getElem_mem h)
    · rw [ktOf_end T _ h]; decide
  · decide
theorem numV_lo (l : List UInt8) : 0 ≤ numV l ∧ numV l ≤ 9223372036854775807 := by
  unfold numV
  split
  · rename_i h
    simp only [numOk, Bool.and_eq_true, decide_eq_true_eq] at h
    exact ⟨numF_ge l h.1.2 0 (by omega), h.2⟩
  · omega
theorem numb_lo (K : List Kt) (s : Ps) : 0 ≤ numbV K s ∧ numbV K s ≤ 9223372036854775807 := by
  unfold numbV
  split
  · exact numV_lo _
  · omega
theorem reti {a b : Int} (h : a = b) : Ending.returned (.int .i64 a) = .returned (.int .i64 b) := by rw [h]
section
variable {T : List Tok} {en : Int} {g : Nat} {A : Option Addr} {c : Nat} {h : Hs} {s : Ps}
theorem Turned.at_ {s' : Ps} {w W : World} (h1 : Turned T en g A c h s' w W) : PAt T en g A c h s' W := h1.1
theorem Turned.then_ {s1 s2 : Ps} {w w1 w2 : World} (h1 : Turned T en g A c h s1 w w1) (h2 : Turned T en g A c h s2 w1 w2) : Turned T en g A c h s2 w w2 := ⟨h2.1, h1.2.trans h2.2⟩
theorem Turned.below {s1 : Ps} {w w1 w2 : World} (h1 : Turned T en g A c h s1 w w1) (h2 : Below w1.heap.size w1 w2) : Turned T en g A c h s1 w w2 := ⟨h1.1.below h2, h1.2.trans (AgH.of_below h2)⟩
theorem Turned.of_below {s1 : Ps} {w w1 w2 : World} (h1 : Below w.heap.size w w1) (h2 : Turned T en g A c h s1 w1 w2) : Turned T en g A c h s1 w w2 := ⟨h2.1, (AgH.of_below h1).trans h2.2⟩
set_option maxHeartbeats 1000000 in
theorem pa_number (w : World) (hp : Hid (PAt T en g A c h s w)) : Calls Tryz.prog 120 #[.pointer (some ⟨g, 0, none⟩)] w fun e w' => e = .returned (.int .i64 (numbV (ktOf T) s)) ∧ Turned T en g A c h (numbS (ktOf T) s) w w' := by
  have hsm := next_small hp.out.small s
  obtain ⟨x, hx⟩ : ∃ x, x = (nextP (ktOf T) s).1 := ⟨_, rfl⟩
  obtain ⟨y, hy⟩ : ∃ y, y = (nextP (ktOf T) s).2 := ⟨_, rfl⟩
  have cN := pa_next w hp
  unfold NextV at cN
  rw [← hx, ← hy] at cN
  have CN := Lib.hid cN
  have HX := Lib.hid hx
  have HY := Lib.hid hy
  clear cN hx hy
  rw [← HY.out] at hsm
  have cM := fun W => tok_Number y W (by omega)
  obtain ⟨nv, hnv⟩ : ∃ z, z = numV y.data.toList := ⟨_, rfl⟩
  obtain ⟨f, hf⟩ : ∃ z, z = numOk y.data.toList := ⟨_, rfl⟩
  have HB := Lib.hid (show numB (ktOf T) s = (decide (x = 2) && f) by unfold numB; rw [← HX.out, ← HY.out, hf])
  have HV := Lib.hid (show numbV (ktOf T) s = if numB (ktOf T) s then nv else 0 by unfold numbV; rw [← HY.out, hnv])
  have HQ := Lib.hid (show numbS (ktOf T) s = if numB (ktOf T) s then stepP s else wrongP 4 s from rfl)
  have HL := Lib.hid (show numB (ktOf T) s = true → s.at_ < T.length from fun e => by have := (num_lt e).2; rwa [ktOf_len] at this)
  rw [← hnv, ← hf] at cM
  obtain ⟨N, hN⟩ : ∃ N, N = numB (ktOf T) s := ⟨_, rfl⟩
  obtain ⟨V, hV⟩ : ∃ V, V = numbV (ktOf T) s := ⟨_, rfl⟩
  obtain ⟨Q, hQ⟩ : ∃ Q, Q = numbS (ktOf T) s := ⟨_, rfl⟩
  rw [← hN] at HB HV HQ HL
  rw [← hV] at HV
  rw [← hQ] at HQ
  rw [← hV, ← hQ]
  have CM := Lib.hid cM
  have hs9 := hp.out.small.len
  clear hN hV hQ cM hnv hf hsm
  go_enter Tryz.func120, Tryz.ntmps120
  go_wp2_with fail
  refine CN.out.mono ?_
  rintro e w2 ⟨⟨a, rfl⟩, hb⟩
  have HB3 := Lib.hid (below_then hb (alrB w2 (.cells #[.int .i64 x, .string y, .int .i64 a] 44)))
  have R3 := Lib.hid (heap_alloc_new w2 (.cells #[.int .i64 x, .string y, .int .i64 a] 44))
  obtain ⟨w3, hw3⟩ : ∃ z, z = w2.alloc (.cells #[.int .i64 x, .string y, .int .i64 a] 44) := ⟨_, rfl⟩
  obtain ⟨g3, hg3⟩ : ∃ z, z = w2.heap.size := ⟨_, rfl⟩
  rw [← hw3] at HB3 R3
  rw [← hg3] at R3
  have HW3 := Lib.hid hw3.symm
  have HG3 := Lib.hid hg3.symm
  clear hb hw3 hg3 CN
  go_upto_region 2 with fail
  rw [HW3.out, HG3.out]
  have q0 := row_cell R3.out 0 _ rfl
  have q1 := row_cell R3.out 1 _ rfl
  go_wp2_with fail
  refine (CM.out w3).mono ?_
  rintro e w4 ⟨rfl, rfl⟩
  by_cases h2 : x = 2
  · subst h2
    cases f with
    | true =>
      have HN : N = true := HB.out
      subst HN
      have hlt := HL.out rfl
      have HP3 := Lib.hid (hp.out.below HB3.out)
      have b1 := HP3.out.blk.c1
      have f1 := HP3.out.blk.froz 1
      have HV2 := Lib.hid (show V = nv from HV.out)
      have HQ2 := Lib.hid (show Q = stepP s from HQ.out)
      go_wp2
      go_ret
      refine ⟨reti HV2.out.symm, ?_⟩
      rw [HQ2.out]
      exact turned_step hp.out HB3.out hlt
    | false =>
      have HN : N = false := HB.out
      subst HN
      have HV2 := Lib.hid (show V = 0 from HV.out)
      have HQ2 := Lib.hid (show Q = wrongP 4 s from HQ.out)
      go_wp2_with fail
      refine (pa_wrong 4 (by decide) w3 (Lib.hid (hp.out.below HB3.out))).mono ?_
      rintro e w5 ⟨rfl, hT⟩
      have HT := Lib.hid hT
      clear hT q0 q1
      go_wp2
      go_ret
      refine ⟨reti HV2.out.symm, ?_⟩
      rw [HQ2.out]
      exact Turned.of_below HB3.out HT.out
  · have z2 : (x != 2) = true := by simpa using h2
    have HN : N = false := by rw [HB.out, decide_eq_false h2]; rfl
    subst HN
    have HV2 := Lib.hid (show V = 0 from HV.out)
    have HQ2 := Lib.hid (show Q = wrongP 4 s from HQ.out)
    clear h2
    go_wp2_with fail
    refine (pa_wrong 4 (by decide) w3 (Lib.hid (hp.out.below HB3.out))).mono ?_
    rintro e w5 ⟨rfl, hT⟩
    have HT := Lib.hid hT
    clear hT q0 q1
    go_wp2
    go_ret
    refine ⟨reti HV2.out.symm, ?_⟩
    rw [HQ2.out]
    exact Turned.of_below HB3.out HT.out
theorem take_true {x : ByteArray} {K : List Kt} {s : Ps} (h : takeB K x s = true) : takeP K x s = stepP s := by unfold takeP; rw [if_pos h]
theorem take_false {x : ByteArray} {K : List Kt} {s : Ps} (h : takeB K x s = false) : takeP K x s = s := by unfold takeP; rw [if_neg (by rw [h]; decide)]
set_option maxHeartbeats 1000000 in
theorem pa_integer (w : World) (hp : Hid (PAt T en g A c h s w)) : Calls Tryz.prog 128 #[.pointer (some ⟨g, 0, none⟩)] w fun e w' => e = .returned (.int .i64 (integerV (ktOf T) s)) ∧ Turned T en g A c h (integerS (ktOf T) s) w w' := by
  have cT := pa_take minusT minus_ne w hp
  have HV := Lib.hid (show integerV (ktOf T) s = if takeB (ktOf T) minusT s then - numbV (ktOf T) (stepP s) else numbV (ktOf T) s from rfl)
  have HQ := Lib.hid (show integerS (ktOf T) s = if takeB (ktOf T) minusT s then numbS (ktOf T) (stepP s) else numbS (ktOf T) s from rfl)
  have HT1 := Lib.hid (fun e => take_true (K := ktOf T) (x := minusT) (s := s) e)
  have HT0 := Lib.hid (fun e => take_false (K := ktOf T) (x := minusT) (s := s) e)
  obtain ⟨t, ht⟩ : ∃ t, t = takeB (ktOf T) minusT s := ⟨_, rfl⟩
  obtain ⟨P, hP⟩ : ∃ P, P = takeP (ktOf T) minusT s := ⟨_, rfl⟩
  obtain ⟨V, hV⟩ : ∃ V, V = integerV (ktOf T) s := ⟨_, rfl⟩
  obtain ⟨Q, hQ⟩ : ∃ Q, Q = integerS (ktOf T) s := ⟨_, rfl⟩
  rw [← ht] at cT HV HQ HT1 HT0
  rw [← hP] at cT HT1 HT0
  rw [← hV] at HV
  rw [← hQ] at HQ
  rw [← hV, ← hQ]
  have CT := Lib.hid cT
  clear ht hP hV hQ cT
  cases t with
  | true =>
    have HP2 := HT1.out rfl
    subst HP2
    have HV2 := Lib.hid (show V = - numbV (ktOf T) (stepP s) from HV.out)
    have HQ2 := Lib.hid (show Q = numbS (ktOf T) (stepP s) from HQ.out)
    obtain ⟨nb, hnb⟩ : ∃ z, z = numbV (ktOf T) (stepP s) := ⟨_, rfl⟩
    have hlo := numb_lo (ktOf T) (stepP s)
    rw [← hnb] at HV2 hlo
    have HNB := Lib.hid hnb
    obtain ⟨hl0, hl1⟩ := hlo
    clear HT1 HT0 HV HQ hnb
    go_enter Tryz.func128, Tryz.ntmps128
    go_wp2_with fail
    refine CT.out.mono ?_
    rintro e w2 ⟨rfl, hT⟩
    have HT := Lib.hid hT
    have cN := pa_number w2 (Lib.hid hT.1)
    rw [← HNB.out] at cN
    have CN := Lib.hid cN
    clear hT cN
    go_wp2_with fail
    refine CN.out.mono ?_
    rintro e w3 ⟨rfl, hT⟩
    have HT2 := Lib.hid hT
    clear hT
    go_wp2
    go_ret
    refine ⟨reti ?_, ?_⟩
    · rw [HV2.out]
    · rw [HQ2.out]; exact HT.out.then_ HT2.out
  | false =>
    have HP2 := HT0.out rfl
    subst HP2
    have HV2 := Lib.hid (show V = numbV (ktOf T) P from HV.out)
    have HQ2 := Lib.hid (show Q = numbS (ktOf T) P from HQ.out)
    obtain ⟨nb, hnb⟩ : ∃ z, z = numbV (ktOf T) P := ⟨_, rfl⟩
    rw [← hnb] at HV2
    have HNB := Lib.hid hnb
    clear HT1 HT0 HV HQ hnb
    go_enter Tryz.func128, Tryz.ntmps128
    go_wp2_with fail
    refine CT.out.mono ?_
    rintro e w2 ⟨rfl, hT⟩
    have HT := Lib.hid hT
    have cN := pa_number w2 (Lib.hid hT.1)
    rw [← HNB.out] at cN
    have CN := Lib.hid cN
    clear hT cN
    go_wp2_with fail
    refine CN.out.mono ?_
    rintro e w3 ⟨rfl, hT⟩
    have HT2 := Lib.hid hT
    clear hT
    go_wp2
    go_ret
    refine ⟨reti HV2.out.symm, ?_⟩
    rw [HQ2.out]; exact HT.out.then_ HT2.out
/-- Finds a name's number. -/
def Finds (T : List Tok) (en : Int) (g : Nat) (A : Option Addr) (c : Nat) (h : Hs) (s : Ps) (f : FuncId) (find : ByteArray → Int) (w : World) : Prop :=
  Enters Tryz.prog f ∧ (∀ x, -1 ≤ find x) ∧ ∀ x W, PAt T en g A c h s W → AgH (only g) w W → Calls Tryz.prog f #[.pointer (some ⟨g, 0, none⟩), .string x] W fun e w' => e = .returned (.int .i64 (find x)) ∧ Below W.heap.size W w'
theorem Finds.go {f : FuncId} {find : ByteArray → Int} {w W : World} (k : Finds T en g A c h s f find w) (a : AgH (only g) w W) : Finds T en g A c h s f find W :=
  ⟨k.1, k.2.1, fun x W' p a' => k.2.2 x W' p (a.trans a')⟩
set_option maxHeartbeats 1000000 in
theorem pa_known (f : FuncId) (find : ByteArray → Int) (w : World) (hp : Hid (PAt T en g A c h s w)) (hC : Hid (Finds T en g A c h s f find w)) :
    Calls Tryz.prog 72 #[.pointer (some ⟨g, 0, none⟩), .func (.func f) #[.pointer (some ⟨g, 0, none⟩)] #[]] w fun e w' => e = .returned (.int .i64 (knownV (ktOf T) find s)) ∧ Turned T en g A c h (knownS (ktOf T) find s) w w' := by
  obtain ⟨hent, hlo, hcall⟩ := hC.out
  have eF : ∀ args w, (callFunc f args).run Tryz.prog w = .ok (.enter f args) w := hent
  have cN := pa_name w hp
  obtain ⟨x, hx⟩ : ∃ x, x = nameV (ktOf T) s := ⟨_, rfl⟩
  have hlo2 := hlo x
  have cF := fun W => hcall x W
  obtain ⟨r, hr⟩ : ∃ r, r = find x := ⟨_, rfl⟩
  rw [← hr] at cF hlo2
  have CFF := Lib.hid cF
  have HB := Lib.hid (show nameQ (ktOf T) s = if nameB (ktOf T) s then s else wrongP 4 s from rfl)
  have HV := Lib.hid (show knownV (ktOf T) find s = if nameB (ktOf T) s && decide (0 ≤ r) then r else 0 by unfold knownV; rw [← hx, ← hr])
  have HQ := Lib.hid (show knownS (ktOf T) find s = if nameB (ktOf T) s then (if r < 0 then wrongP 3 s else stepP s) else wrongP 4 s by unfold knownS; rw [← hx, ← hr])
  have HL := Lib.hid (show nameB (ktOf T) s = true → s.at_ < T.length from fun e => by have := (name_lt e).2; rwa [ktOf_len] at this)
  rw [← hx] at cN
  obtain ⟨N, hN⟩ : ∃ N, N = nameB (ktOf T) s := ⟨_, rfl⟩
  obtain ⟨V, hV⟩ : ∃ V, V = knownV (ktOf T) find s := ⟨_, rfl⟩
  obtain ⟨Q, hQ⟩ : ∃ Q, Q = knownS (ktOf T) find s := ⟨_, rfl⟩
  obtain ⟨P, hP⟩ : ∃ P, P = nameQ (ktOf T) s := ⟨_, rfl⟩
  rw [← hN] at cN HB HV HQ HL
  rw [← hP] at cN HB
  rw [← hV] at HV
  rw [← hQ] at HQ
  rw [← hV, ← hQ]
  have CN := Lib.hid cN
  have hs9 := hp.out.small.len
  clear hN hV hQ hP cN cF hr hx hlo hcall hent hC
  go_enter Tryz.func72, Tryz.ntmps72
  go_wp2_with fail
  refine CN.out.mono ?_
  rintro e w2 ⟨rfl, hT⟩
  have HT := Lib.hid hT
  clear hT CN
  cases N with
  | false =>
    have HV2 := Lib.hid (show V = 0 from HV.out)
    have HQ2 := Lib.hid (show Q = P from HQ.out.trans HB.out.symm)
    go_wp2
    go_ret
    refine ⟨reti HV2.out.symm, ?_⟩
    rw [HQ2.out]
    exact HT.out
  | true =>
    have HP2 : P = s := HB.out
    subst HP2
    have hlt := HL.out rfl
    by_cases hr0 : r < 0
    · have HV2 := Lib.hid (show V = 0 by rw [HV.out, decide_eq_false (show ¬ 0 ≤ r by omega)]; rfl)
      have HQ2 := Lib.hid (show Q = wrongP 3 P from HQ.out.trans (by rw [if_pos rfl, if_pos hr0]))
      go_wp2_with (go_at_fn f; refine (CFF.out _ HT.out.1 HT.out.2).mono ?_; rintro e w3 ⟨rfl, hb⟩; have HB3 := Lib.hid hb; clear hb)
      refine (pa_wrong 3 (by decide) w3 (Lib.hid (HT.out.1.below HB3.out))).mono ?_
      rintro e w4 ⟨rfl, hT⟩
      have HT2 := Lib.hid hT
      clear hT
      go_wp2
      go_ret
      refine ⟨reti HV2.out.symm, ?_⟩
      rw [HQ2.out]
      exact (HT.out.below HB3.out).then_ HT2.out
    · have hr1 : 0 ≤ r := by omega
      have HV2 := Lib.hid (show V = r by rw [HV.out, decide_eq_true hr1]; rfl)
      have HQ2 := Lib.hid (show Q = stepP P from HQ.out.trans (by rw [if_pos rfl, if_neg hr0]))
      have CX := Lib.hid (fun W (hb : Below w2.heap.size w2 W) => (HT.out.1.below hb).blk)
      go_wp2_with (go_at_fn f; refine (CFF.out _ HT.out.1 HT.out.2).mono ?_; rintro e w3 ⟨rfl, hb⟩; have HB3 := Lib.hid hb; have b1 := (CX.out _ hb).c1; have f1 := (CX.out _ hb).froz 1; clear hb)
      go_ret
      refine ⟨reti HV2.out.symm, ?_⟩
      rw [HQ2.out]
      exact HT.out.then_ (turned_step HT.out.1 HB3.out hlt)
end
end Go.Proofs.YtkpjhjoopdbkaaaGreatDoor
