/- The small net: sizes of its colours. -/
import Derived.Test.YtajcleobmgjhoaaGreatDoorMarkK
import Derived.Handy
namespace Go.Proofs.YtajcleobmgjhoaaGreatDoor
open Go.RowKit Go.Lib
def colCells : List Value := [.string ⟨#[110]⟩, .int .i64 1, .int .i64 0, .int .i64 3, .slice none 0 0, .int .i64 0, .int .i64 0]
theorem keyS : Maps.Keyed Tryz.prog 9 := Maps.string_keyed Tryz.underlying9
abbrev OwnS (w : World) (b n : Nat) (D : DataW Unit) : Prop := w.ownsMap Tryz.prog 9 (plainElem Tryz.prog 4) b n D
theorem zeroB (w : World) : (zeroValue 4).run Tryz.prog w = .ok (.bool false) w := by kernel_rfl
theorem key_n : keyOf Tryz.prog 9 (.string ⟨#[110]⟩) = some (.string [110]) := by kernel_rfl
theorem pe_bool {P : Program} {e : TypeId} (he : P.underlying e = some .bool) {v : Value} {x : Bool} {ps : List MemPlace} (h : plainElem (H := Unit) P e v = some (.lit (.bool x), ps)) : v = .bool x := by
  unfold plainElem at h
  rw [he] at h
  cases v <;> simp at h
  rw [h.1]
theorem look_s {w : World} {b : Nat} (h : OwnS w b 0 (.map [])) : (Instr.lookup 114 (.map (some b)) (.string ⟨#[110]⟩) false).run Tryz.prog w = .ok (.bool false) w := by
  obtain ⟨v, ps, hrun, hv⟩ := h.lookup keyS Tryz.underlying114 (zeroB w) (plainElem_bool Tryz.underlying4 false) key_n
  have e : (DataW.map ([] : List (Lit × DataW Unit))).atKey (.string [110]) (.lit (.bool false)) = .lit (.bool false) := rfl
  rw [e] at hv
  have hv2 : v = .bool false := pe_bool Tryz.underlying4 hv
  subst hv2
  exact hrun
theorem ownS_below {w w' : World} {B b n : Nat} {D : DataW Unit} (h : OwnS w b n D) (hb : Below B w w') (hB : b < B) : OwnS w' b n D := by
  obtain ⟨es, cl, h1, h2⟩ := h
  exact ⟨es, cl, by rw [hb.block b hB]; exact h1, h2⟩
theorem ints_ty1 : SlTy Tryz.prog 83 3 1 8 := SlTy.mk (z := .int .i64 0) (by kernel_rfl) (by kernel_rfl) rfl (by decide)
abbrev ColS (w : World) (cb : Nat) : Prop := Sl w (.slice (some ⟨cb, 0, none⟩) 1 1) 1 7 colCells
theorem ColS.cells {w : World} {cb : Nat} (h : ColS w cb) : w.cell? ⟨cb, 0, none⟩ = some (.string ⟨#[110]⟩) ∧ w.cell? ⟨cb, 1, none⟩ = some (.int .i64 1) ∧ w.cell? ⟨cb, 2, none⟩ = some (.int .i64 0) ∧ w.cell? ⟨cb, 3, none⟩ = some (.int .i64 3) ∧ w.cell? ⟨cb, 4, none⟩ = some (.slice none 0 0) ∧ w.cell? ⟨cb, 5, none⟩ = some (.int .i64 0) ∧ w.cell? ⟨cb, 6, none⟩ = some (.int .i64 0) := by
  obtain ⟨b, off, e, hc⟩ := h.at_ (by omega)
  injection e with e
  injection e with e1 e2
  subst e1 e2
  have h := fun j u (hj : colCells[j]? = some u) => (show w.cell? ⟨cb, j, none⟩ = some u by have := hc j u hj; rwa [Nat.zero_add] at this)
  exact ⟨h 0 _ rfl, h 1 _ rfl, h 2 _ rfl, h 3 _ rfl, h 4 _ rfl, h 5 _ rfl, h 6 _ rfl⟩
set_option maxRecDepth 100000 in
set_option maxHeartbeats 2000000 in
theorem col_sizes (cb : Nat) (w : World) (hC : Hid (ColS w cb)) :
    Calls Tryz.prog 67 #[.slice (some ⟨cb, 0, none⟩) 1 1] w fun e w' => ∃ A c, e = .returned (.tuple #[.slice A 1 c, .bool true]) ∧ w'.ownsRow w.heap.size 3 1 (.slice A 1 c) 1 (intCells [4]) ∧ Below w.heap.size w w' := by
  have hmm := @run_makeMap Tryz.prog
  have hmb := Lib.hid (World.ownsMap_made (H := Unit) w Tryz.prog 9 (plainElem Tryz.prog 4))
  have HB1 := Lib.hid ((Below.refl w.heap.size w).alloc (Nat.le_refl _) (.map #[] 0))
  obtain ⟨c0, c1, c2, c3, c4, c5, c6⟩ := ColS.cells (hC.out.below HB1.out)
  have HB2 := Lib.hid (HB1.out.alloc HB1.out.size (.cells colCells.toArray 63))
  have hone := Lib.hid (int_one [4])
  go_enter Tryz.func67, Tryz.ntmps67
  go_wp2
  refine wp_loop_rounds 2 ?_
  rw [rounds_succ]
  have hcn := Lib.hid (show ((w.alloc (.map #[] 0)).alloc (.cells colCells.toArray 63)).cell? ⟨w.heap.size + 1, 0, none⟩ = some (.string ⟨#[110]⟩) by
    have h := cell_new (w.alloc (.map #[] 0)) colCells.toArray 63 0 (.string ⟨#[110]⟩) rfl
    rwa [show (w.alloc (.map #[] 0)).heap.size = w.heap.size + 1 by simp] at h)
  have hm2 := Lib.hid (show OwnS ((w.alloc (.map #[] 0)).alloc (.cells colCells.toArray 63)) w.heap.size 0 (.map []) from hmb.out.alloc _)
  have hsz2 := Lib.hid (show w.heap.size < ((w.alloc (.map #[] 0)).alloc (.cells colCells.toArray 63)).heap.size by simp; omega)
  go_wp2_with fail
  refine (col_size _ _).mono ?_
  rintro e w2 ⟨rfl, hb⟩
  have HM := Lib.hid (ownS_below hm2.out hb hsz2.out)
  have k1 := cell_kept hb hcn.out
  have HB3 := Lib.hid (HB2.out.trans (hb.mono HB2.out.size))
  have lk := look_s HM.out
  clear hb c0 c1 c2 c3 c4 c5 c6 hcn
  go_wp2_with (first
    | (go_at_call 78; refine (col_Name _).mono ?_; rintro e w' ⟨rfl, rfl⟩)
    | (at_mapUpdate; refine wpList_mapUpdate_own _ rfl _ _ _ 114 rfl 9 4 keyS Tryz.underlying114 _ w.heap.size _ _ rfl HM.out (by unfold maxLen; omega) _ _ _ rfl rfl key_n _ [] (plainElem_bool Tryz.underlying4 true) ?_; intro w3 hout3 hg3; have HG3 := Lib.hid hg3; have HB4 := Lib.hid (HB3.out.grown hg3 HB3.out.size (fun q hq => by injection hq with hq; omega)); clear hout3 hg3; go_frame)
    | (at_builtin; refine wpList_append_sl ints_ty1 rfl (.tmp 43) (.tmp 45) rfl w.heap.size rfl (by exact World.ownsRow_nil _ _ _ _) rfl (by exact Sl.new _ _ [Value.int .i64 4] 1 1 rfl (by omega)) hone.out (by omega) (by omega) (by have := HB4.out.size; simp; omega) ?_; intro v4 w4 hown4 hg4 hat4; obtain ⟨A4, c4, rfl, _, _⟩ := own_form hown4; have HO4 := Lib.hid hown4; have HB5 := Lib.hid ((HB4.out.alloc HB4.out.size (.cells #[.int .i64 4] 3)).grown hg4 (by have := HB4.out.size; simp; omega) (fun q hq => by cases hq)); clear hown4 hg4 hat4))
  rw [rounds_succ]
  go_wp2
  go_ret2
  exact ⟨A4, c4, rfl, HO4.out, HB5.out⟩
/-- The one colour among itself. -/
abbrev setV (cb : Nat) (A : Option Addr) (c : Nat) : Value := .agg #[.slice (some ⟨cb, 0, none⟩) 1 1, .slice A 1 c, .int .i64 0]
set_option maxRecDepth 100000 in
set_option maxHeartbeats 2000000 in
theorem col_of (cb : Nat) (w : World) (hC : Hid (ColS w cb)) :
    Calls Tryz.prog 56 #[.slice (some ⟨cb, 0, none⟩) 1 1, .int .i64 0] w fun e w' => ∃ A c, e = .returned (.tuple #[setV cb A c, .bool true]) ∧ Sl w' (.slice A 1 c) 1 1 (intCells [4]) ∧ Below w.heap.size w w' := by
  have HB1 := Lib.hid ((Below.refl w.heap.size w).alloc (Nat.le_refl _) (.cells #[.slice none 0 0, .slice none 0 0, .int .i64 0] 86))
  have n0 := Lib.hid (cell_new w #[.slice none 0 0, .slice none 0 0, .int .i64 0] 86 0 _ rfl)
  have n1 := Lib.hid (cell_new w #[.slice none 0 0, .slice none 0 0, .int .i64 0] 86 1 _ rfl)
  have n2 := Lib.hid (cell_new w #[.slice none 0 0, .slice none 0 0, .int .i64 0] 86 2 _ rfl)
  have nf := Lib.hid (fun j => frozen_of_row (w.alloc (.cells #[.slice none 0 0, .slice none 0 0, .int .i64 0] 86)) w.heap.size j _ 86 (heap_alloc_new w _))
  have hsz := Lib.hid (show w.heap.size < (w.alloc (.cells #[.slice none 0 0, .slice none 0 0, .int .i64 0] 86)).heap.size by simp)
  go_enter Tryz.func56, Tryz.ntmps56
  go_wp2_with fail
  refine (col_sizes cb _ (Lib.hid (hC.out.below HB1.out))).mono ?_
  rintro e w2 ⟨A, c, rfl, ho, hb⟩
  have k0 := cell_kept hb n0.out
  have k1 := cell_kept hb n1.out
  have k2 := cell_kept hb n2.out
  have f0 : w2.frozen? ⟨w.heap.size, 0, none⟩ = false := (hb.frozen (p := ⟨w.heap.size, 0, none⟩) hsz.out).trans (nf.out 0)
  have f1 : w2.frozen? ⟨w.heap.size, 1, none⟩ = false := (hb.frozen (p := ⟨w.heap.size, 1, none⟩) hsz.out).trans (nf.out 1)
  have f2 : w2.frozen? ⟨w.heap.size, 2, none⟩ = false := (hb.frozen (p := ⟨w.heap.size, 2, none⟩) hsz.out).trans (nf.out 2)
  have HO := Lib.hid ho
  have HB2 := Lib.hid (HB1.out.trans (hb.mono HB1.out.size))
  clear ho hb n0 n1 n2 nf
  go_wp2
  refine bodyPost_ret (by rw [results_cell_tmp rfl]; go_simp; rfl) rfl ?_
  exact ⟨A, c, rfl, Sl.of_own (ownsRow_setCell_below (ownsRow_setCell_below (ownsRow_setCell_below HO.out hsz.out _) hsz.out _) hsz.out _), ((HB2.out.setCell (Nat.le_refl _) _).setCell (Nat.le_refl _) _).setCell (Nat.le_refl _) _⟩
set_option maxRecDepth 100000 in
set_option maxHeartbeats 2000000 in
theorem col_Size (cb : Nat) (w : World) (hC : Hid (ColS w cb)) :
    Calls Tryz.prog 46 #[.slice (some ⟨cb, 0, none⟩) 1 1, .int .i64 0] w fun e w' => e = .returned (.int .i64 4) ∧ Below w.heap.size w w' := by
  go_enter Tryz.func46, Tryz.ntmps46
  go_wp2_with fail
  refine (col_of cb w hC).mono ?_
  rintro e w2 ⟨A, c, rfl, hs, hb⟩
  have HB3 := Lib.hid (hb.alloc hb.size (.cells #[.slice (some ⟨cb, 0, none⟩) 1 1, .slice A 1 c, .int .i64 0] 86))
  obtain ⟨b, o, rfl, c1⟩ := (hs.below ((Below.refl _ w2).alloc (Nat.le_refl _) (.cells #[.slice (some ⟨cb, 0, none⟩) 1 1, .slice A 1 c, .int .i64 0] 86))).int_at (k := 0) (by omega)
  have k1 : ([4] : List Int).getD 0 0 = 4 := rfl
  rw [k1, Nat.add_zero] at c1
  clear hs hb k1
  go_wp2
  go_ret
  exact ⟨rfl, HB3.out⟩
set_option maxRecDepth 100000 in
set_option maxHeartbeats 2000000 in
theorem col_has (cb : Nat) (A : Option Addr) (c : Nat) (w : World) (hs : Hid (Sl w (.slice A 1 c) 1 1 (intCells [4]))) :
    Calls Tryz.prog 57 #[setV cb A c, .int .i64 0] w fun e w' => e = .returned (.bool true) ∧ Below w.heap.size w w' := by
  have HB3 := Lib.hid ((Below.refl _ w).alloc (Nat.le_refl _) (.cells #[.slice (some ⟨cb, 0, none⟩) 1 1, .slice A 1 c, .int .i64 0] 86))
  obtain ⟨b, o, rfl, c1⟩ := (hs.out.below HB3.out).int_at (k := 0) (by omega)
  have k1 : ([4] : List Int).getD 0 0 = 4 := rfl
  rw [k1, Nat.add_zero] at c1
  clear k1
  go_enter Tryz.func57, Tryz.ntmps57
  go_wp2
  go_ret
  exact ⟨rfl, HB3.out⟩
set_option maxRecDepth 100000 in
set_option maxHeartbeats 2000000 in
theorem col_colour (cb : Nat) (A : Option Addr) (c : Nat) (w : World) (hC : Hid (ColS w cb)) :
    Calls Tryz.prog 68 #[setV cb A c] w fun e w' => e = .returned colV ∧ Below w.heap.size w w' := by
  have HB2 := Lib.hid ((Below.refl w.heap.size w).alloc (Nat.le_refl _) (.cells #[.slice (some ⟨cb, 0, none⟩) 1 1, .slice A 1 c, .int .i64 0] 86))
  have HB3 := Lib.hid (HB2.out.alloc HB2.out.size (.cells #[.string ⟨#[]⟩, .int .i64 0, .int .i64 0, .int .i64 0, .slice none 0 0, .int .i64 0, .int .i64 0] 63))
  obtain ⟨c0, c1, c2, c3, c4, c5, c6⟩ := ColS.cells (hC.out.below HB3.out)
  go_enter Tryz.func68, Tryz.ntmps68
  go_wp2
  go_returns
  exact ⟨rfl, HB2.out.alloc HB2.out.size _⟩
theorem dec_0 : Lib.decDigits 0 = [48] := by first | rfl | decide +kernel | simp [Lib.decDigits]
theorem dec_3 : Lib.decDigits 3 = [51] := by first | rfl | decide +kernel | simp [Lib.decDigits]
theorem itoa_0 (W : World) : Calls Tryz.prog 44 #[.int .i64 0] W fun e w' => e = .returned (.string ⟨#[48]⟩) ∧ w' = W := by
  have h := Tryz.strconv_Itoa_small 0 (by omega) W
  rw [dec_0] at h
  exact h
theorem itoa_3 (W : World) : Calls Tryz.prog 44 #[.int .i64 3] W fun e w' => e = .returned (.string ⟨#[51]⟩) ∧ w' = W := by
  have h := Tryz.strconv_Itoa_small 3 (by omega) W
  rw [dec_3] at h
  exact h
set_option maxRecDepth 100000 in
set_option maxHeartbeats 2000000 in
theorem col_text (cb : Nat) (A : Option Addr) (c : Nat) (w : World) (hC : Hid (ColS w cb)) :
    Calls Tryz.prog 58 #[setV cb A c, .int .i64 0] w fun e w' => e = .returned (.string ⟨#[48]⟩) ∧ Below w.heap.size w w' := by
  have HB2 := Lib.hid ((Below.refl w.heap.size w).alloc (Nat.le_refl _) (.cells #[.slice (some ⟨cb, 0, none⟩) 1 1, .slice A 1 c, .int .i64 0] 86))
  have cI := Lib.hid (fun W => show Calls Tryz.prog 44 #[.int .i64 0] W fun e w' => e = .returned (.string ⟨#[48]⟩) ∧ w' = W from itoa_0 W)
  go_enter Tryz.func58, Tryz.ntmps58
  go_wp2_with fail
  refine (col_colour cb A c _ (Lib.hid (hC.out.below HB2.out))).mono ?_
  rintro e w2 ⟨rfl, hb⟩
  have HB3 := Lib.hid (HB2.out.trans (hb.mono HB2.out.size))
  have HB4 := Lib.hid (HB3.out.alloc HB3.out.size (.cells colCells.toArray 63))
  clear hb
  go_wp2_with (go_at_call 44; refine (cI.out _).mono ?_; rintro e w' ⟨rfl, rfl⟩)
  go_ret
  exact ⟨rfl, HB4.out⟩
set_option maxRecDepth 100000 in
set_option maxHeartbeats 2000000 in
theorem col_Text (cb : Nat) (w : World) (hC : Hid (ColS w cb)) :
    Calls Tryz.prog 43 #[.slice (some ⟨cb, 0, none⟩) 1 1, .int .i64 0, .int .i64 0] w fun e w' => e = .returned (.string ⟨#[48]⟩) ∧ Below w.heap.size w w' := by
  go_enter Tryz.func43, Tryz.ntmps43
  go_wp2_with fail
  refine (col_of cb w hC).mono ?_
  rintro e w2 ⟨A, c, rfl, hs, hb⟩
  have HB3 := Lib.hid (hb.alloc hb.size (.cells #[.slice (some ⟨cb, 0, none⟩) 1 1, .slice A 1 c, .int .i64 0] 86))
  have HB2 := Lib.hid ((Below.refl _ w2).alloc (Nat.le_refl _) (.cells #[.slice (some ⟨cb, 0, none⟩) 1 1, .slice A 1 c, .int .i64 0] 86))
  have n0 := Lib.hid (cell_new w2 #[.slice (some ⟨cb, 0, none⟩) 1 1, .slice A 1 c, .int .i64 0] 86 0 _ rfl)
  have n1 := Lib.hid (cell_new w2 #[.slice (some ⟨cb, 0, none⟩) 1 1, .slice A 1 c, .int .i64 0] 86 1 _ rfl)
  have n2 := Lib.hid (cell_new w2 #[.slice (some ⟨cb, 0, none⟩) 1 1, .slice A 1 c, .int .i64 0] 86 2 _ rfl)
  have HS := Lib.hid (hs.below HB2.out)
  clear hs hb
  go_wp2_with fail
  refine (col_has cb A c _ HS).mono ?_
  rintro e w3 ⟨rfl, hb⟩
  have k0 := cell_kept hb n0.out
  have k1 := cell_kept hb n1.out
  have k2 := cell_kept hb n2.out
  have HB4 := Lib.hid (HB3.out.trans (hb.mono HB3.out.size))
  clear hb n0 n1 n2
  go_wp2_with fail
  refine (col_text cb A c _ (Lib.hid (hC.out.below HB4.out))).mono ?_
  rintro e w4 ⟨rfl, hb⟩
  have HB5 := Lib.hid (below_then HB4.out hb)
  clear hb k0 k1 k2
  go_wp2
  go_ret
  exact ⟨rfl, HB5.out⟩
end Go.Proofs.YtajcleobmgjhoaaGreatDoor
