/- Package colour: cut, read. -/
import Derived.Test.YtckcoknfgfjhmaaDoorColH
import Derived.Lib.AtoiErrMem
namespace Go.Proofs.YtckcoknfgfjhmaaDoor
open Go.RowKit
theorem OnlyD.below {D : Nat} {w0 w w' : World} (h : OnlyD D w w') (hD : w0.heap.size ≤ D) (hb : Below w0.heap.size w0 w) : Below w0.heap.size w0 w' :=
  ⟨h.os.trans hb.os, h.tape.trans hb.tape, h.output.trans hb.output, Nat.le_trans hb.size h.size, fun k hk => (h.block k (Nat.lt_of_lt_of_le hk hb.size) (by omega)).trans (hb.block k hk)⟩
set_option maxHeartbeats 400000 in
theorem col_IndexFunc (s : ByteArray) (D : Nat) (w : World) (hs : s.size ≤ 1000000) (hD : Hid (DeepAt w D 0)) :
    Calls Tryd.prog 35 #[.string s, .func (.func 36) #[] #[.pointer (some ⟨D, 0, none⟩)]] w fun e w' => e = .returned (.int .i64 (cutF s s.size 0 0)) ∧ OnlyD D w w' := by
  go_enter Tryd.func35, Tryd.ntmps35
  go_wp2_with (go_at_call 45; refine (col_indexFunc s D w hs hD).mono ?_; rintro e w5 ⟨rfl, h5⟩; have H5 := Lib.hid h5; clear h5)
  go_ret
  exact ⟨rfl, H5.out⟩
/-- What cut makes of a text. -/
structure CutTo (s a b : ByteArray) : Prop where
  ex : ∃ (s1 inner : ByteArray) (i : Nat), (⟨(Lib.trimPrefix s.data.toList (⟨#[40]⟩ : ByteArray).data.toList).toArray⟩ : ByteArray) = s1 ∧ Lib.hasPrefix s.data.toList (⟨#[40]⟩ : ByteArray).data.toList = true ∧
    (⟨(Lib.trimSuffix s1.data.toList (⟨#[41]⟩ : ByteArray).data.toList).toArray⟩ : ByteArray) = inner ∧ Lib.hasSuffix s1.data.toList (⟨#[41]⟩ : ByteArray).data.toList = true ∧ s1.size ≤ 1000000 ∧ inner.size ≤ 1000000 ∧ cutF inner inner.size 0 0 = (i : Int) ∧ i < inner.size ∧ inner.extract 0 i = a ∧ inner.extract (i + 1) inner.size = b
set_option maxRecDepth 100000 in
set_option maxHeartbeats 2000000 in
theorem col_cut (s a b : ByteArray) (w : World) (h : Hid (CutTo s a b)) :
    Calls Tryd.prog 26 #[.string s] w fun e w' => e = .returned (.tuple #[.string a, .string b, .bool true]) ∧ Below w.heap.size w w' := by
  obtain ⟨s1, inner, i, h1, h2, h3, h4, h5, h6, h7, h8, h9, h10⟩ := h.out.ex
  have c1 := fun W => Lib.hid (Tryd.strings_CutPrefix s ⟨#[40]⟩ W)
  have c2 := fun W => Lib.hid (Tryd.strings_CutSuffix s1 ⟨#[41]⟩ W (by omega))
  rw [h1, h2] at c1
  rw [h3, h4] at c2
  have HB := Lib.hid ((Below.refl w.heap.size w).alloc (Nat.le_refl _) (.cells #[.int .i64 0] 3))
  have c3 := Lib.hid (col_IndexFunc inner w.heap.size (w.alloc (.cells #[.int .i64 0] 3)) h6 (Lib.hid (heap_alloc_new w _)))
  rw [h7] at c3
  have i0 : (0 : Int) ≤ (i : Int) := by omega
  have i1 : (i : Int) < (inner.size : Int) := by omega
  have i2 : (i : Int) ≤ (inner.size : Int) := by omega
  have i3 : IntKind.i64.wrap ((i : Int) + 1) = (i : Int) + 1 := IntWalk.i64_in _ (by omega)
  have i4 : (0 : Int) ≤ (i : Int) + 1 := by omega
  have i5 : (i : Int) + 1 ≤ (inner.size : Int) := by omega
  have H9 := Lib.hid h9
  have H10 := Lib.hid h10
  clear h1 h2 h3 h4 h7 h9 h10
  go_enter Tryd.func26, Tryd.ntmps26
  go_wp2_with (first
    | (go_at_call 33; refine (c1 _).out.mono ?_; rintro e w5 ⟨rfl, rfl⟩)
    | (go_at_call 34; refine (c2 _).out.mono ?_; rintro e w5 ⟨rfl, rfl⟩)
    | (go_at_call 35; refine c3.out.mono ?_; rintro e w5 ⟨rfl, ho⟩; have HO := Lib.hid (ho.below (Nat.le_refl _) HB.out); clear ho))
  go_quiet (fail)
  go_wp2
  go_ret3
  exact ⟨by rw [← H9.out, ← H10.out]; rfl, below_drewN' HO.out _⟩
theorem Sl.bound' {w : World} {A : Option Addr} {n c size : Nat} {xs : List Value} (h : Sl w (.slice A n c) n size xs) : n ≤ 9223372036854775807 := by
  obtain ⟨A', c', h1, h2, h3, _⟩ := h
  omega
section
variable {A : Option Addr} {n c : Nat} {L : List Col} {B : Option Addr} {d : Nat} {ss : List Int}
set_option maxRecDepth 100000 in
set_option maxHeartbeats 4000000 in
theorem col_read_int (k v : Nat) (t : ByteArray) (w : World) (hS : Hid (SetOk w A n c L B d ss)) (hk : k < n) (hkd : Hid ((L.getD k default).kind = 1)) (hlo : (L.getD k default).lo ≤ (v : Int)) (hhi : (v : Int) ≤ (L.getD k default).hi) (hv : v < 100) (ht : t.size ≤ 18) (ha : Lib.atoi t.data.toList = some (v : Int)) (hd : (⟨(Lib.decDigits v).toArray⟩ : ByteArray) = t) (hr : I64 ((v : Int) - (L.getD k default).lo)) :
    Calls Tryd.prog 19 #[setV A n c B d k, .string t] w fun e w' => e = .returned (.tuple #[.int .i64 ((v : Int) - (L.getD k default).lo), .bool true]) ∧ Below w.heap.size w w' := by
  have HB1 := Lib.hid ((Below.refl w.heap.size w).alloc (Nat.le_refl _) (.cells #[.slice A n c, .slice B n d, .int .i64 (k : Int)] 42))
  have hS1 := Lib.hid (hS.out.below HB1.out)
  have cI := fun W => Tryd.strconv_Itoa_small v hv W
  rw [hd] at cI
  have CI := Lib.hid cI
  have CA : Hid (∀ W, Calls Tryd.prog 23 #[.string t] W fun e w' => e = .returned (.tuple #[.int .i64 (v : Int), .nilIface]) ∧ Below W.heap.size W w') := by
    intro W
    refine (Tryd.strconv_Atoi t (v : Int) ht ha W).mono ?_
    rintro e w' ⟨rfl, x, rfl⟩
    exact ⟨rfl, Lib.bytesWorld_below W _ x⟩
  have hte : (t.toList == t.toList) = true := by simp
  have d1 : IntKind.i64.wrap ((v : Int) - (L.getD k default).lo) = (v : Int) - (L.getD k default).lo := IntWalk.i64_in _ hr
  have hcc := col_colour k _ hS1 hk
  obtain ⟨col, hcol⟩ : ∃ col, col = L.getD k default := ⟨_, rfl⟩
  rw [← hcol] at hkd hlo hhi hr d1 hcc ⊢
  obtain ⟨nm, kd, lo, hi, ns, fi, th⟩ := col
  have hkd2 : kd = 1 := hkd.out
  subst hkd2
  simp only at hlo hhi hr d1 hcc ⊢
  have HCC := Lib.hid hcc
  clear hcc hcol cI ha hd
  go_enter Tryd.func19, Tryd.ntmps19
  go_wp2_with (first
    | (go_at_call 17; refine HCC.out.mono ?_; rintro e w5 ⟨⟨N, m, e1, rfl, hN⟩, hb5⟩; have HB5 := Lib.hid (below_then HB1.out hb5.out); have HB6 := Lib.hid (HB5.out.alloc HB5.out.size (.cells #[.string nm, .int .i64 1, .int .i64 lo, .int .i64 hi, .slice N m e1, .int .i64 fi, .int .i64 th] 27)); have q2 := cell_new w5 #[.string nm, .int .i64 1, .int .i64 lo, .int .i64 hi, .slice N m e1, .int .i64 fi, .int .i64 th] 27 2 _ rfl; have q3 := cell_new w5 #[.string nm, .int .i64 1, .int .i64 lo, .int .i64 hi, .slice N m e1, .int .i64 fi, .int .i64 th] 27 3 _ rfl)
    | (go_at_call 23; refine (CA.out _).mono ?_; rintro e w7 ⟨rfl, hb7⟩; have HB7 := Lib.hid (below_then HB6.out hb7); have r2 := cell_kept hb7 q2; have r3 := cell_kept hb7 q3; clear hb7)
    | (go_at_call 24; refine (CI.out _).mono ?_; rintro e w8 ⟨rfl, rfl⟩))
  go_ret2
  exact ⟨rfl, HB7.out⟩
set_option maxRecDepth 100000 in
set_option maxHeartbeats 4000000 in
theorem col_read_enum (k j : Nat) (t : ByteArray) (w : World) (hS : Hid (SetOk w A n c L B d ss)) (hk : k < n) (hkd : Hid ((L.getD k default).kind = 2)) (h0 : 0 < (L.getD k default).names.length) (hj : Hid (Lib.idxOfS (L.getD k default).names t = (j : Int))) :
    Calls Tryd.prog 19 #[setV A n c B d k, .string t] w fun e w' => e = .returned (.tuple #[.int .i64 (j : Int), .bool true]) ∧ Below w.heap.size w w' := by
  have HB1 := Lib.hid ((Below.refl w.heap.size w).alloc (Nat.le_refl _) (.cells #[.slice A n c, .slice B n d, .int .i64 (k : Int)] 42))
  have hS1 := Lib.hid (hS.out.below HB1.out)
  have hcc := col_colour k _ hS1 hk
  obtain ⟨col, hcol⟩ : ∃ col, col = L.getD k default := ⟨_, rfl⟩
  rw [← hcol] at hkd h0 hj hcc
  obtain ⟨nm, kd, lo, hi, ns, fi, th⟩ := col
  have hkd2 : kd = 2 := hkd.out
  subst hkd2
  simp only at h0 hj hcc
  have HCC := Lib.hid hcc
  have hj0 : (0 : Int) ≤ (j : Int) := by omega
  clear hcc hcol
  go_enter Tryd.func19, Tryd.ntmps19
  go_wp2_with (first
    | (go_at_call 17; refine HCC.out.mono ?_; rintro e w5 ⟨⟨N, m, e1, rfl, hN⟩, hb5⟩; have HB5 := Lib.hid (below_then HB1.out hb5.out); have hnl : ns.length = m := by { have h1 := hN.out.len; rw [strCells_len] at h1; omega }; have HB6 := Lib.hid (HB5.out.alloc HB5.out.size (.cells #[.string nm, .int .i64 2, .int .i64 lo, .int .i64 hi, .slice N m e1, .int .i64 fi, .int .i64 th] 27)); obtain ⟨b, o, rfl, _⟩ := hN.out.str_at (k := 0) (by omega); have hN6 := hN.out.below ((Below.refl w5.heap.size w5).alloc (Nat.le_refl _) (.cells #[.string nm, .int .i64 2, .int .i64 lo, .int .i64 hi, .slice (some ⟨b, o, none⟩) m e1, .int .i64 fi, .int .i64 th] 27)); have cX := Lib.hid (Tryd.slices_Index_string b o m e1 ns t _ (by omega) hN.out.bound' (fun q hq => by { obtain ⟨b', o', e', hc'⟩ := hN6.str_at (k := q) (by omega); injection e' with e'; injection e' with e2 e3; subst e2; subst e3; exact hc' })); rw [List.take_of_length_le (by omega), hj.out] at cX; clear hN hN6 hnl)
    | (go_at_call 25; refine cX.out.mono ?_; rintro e w7 ⟨rfl, rfl⟩))
  all_goals
    go_ret2
    exact ⟨rfl, HB6.out⟩
end
end Go.Proofs.YtckcoknfgfjhmaaDoor
