/- Package check: Binds, variables, arcs, cancels, kinds. Printed by gen_ckC.py. -/
import Derived.Test.YtaeeblceedklnaaGreatDoorCkD
import Derived.Test.YtaeeblceedklnaaGreatDoorCkL
import Derived.Laws.StructEq
import Derived.IntWalk
import Derived.ChangeKeysEq
namespace Go.Proofs.YtaeeblceedklnaaGreatDoor
open Go.RowKit
section
variable {A1 A2 A3 : Option Addr} {n1 c1 n2 c2 n3 c3 : Nat} {N : Nt}
theorem drop_vr {L : List Vr} {k : Nat} (h : k < L.length) : L.drop k = L.getD k default :: L.drop (k + 1) := by
  rw [List.drop_eq_getElem_cons h, List.getD, List.getElem?_eq_getElem h]; rfl
theorem mul_1025 {a b : Int} (ha : 0 ≤ a ∧ a ≤ 1025) (hb : 0 ≤ b ∧ b ≤ 1024) : 0 ≤ a * b ∧ a * b ≤ 1049600 := by
  have h1 : 0 * b ≤ a * b := Int.mul_le_mul_of_nonneg_right ha.1 hb.1
  have h2 : a * b ≤ 1025 * b := Int.mul_le_mul_of_nonneg_right ha.2 hb.1
  omega
set_option maxRecDepth 100000 in
set_option maxHeartbeats 4000000 in
theorem ck_Binds_in (k : Nat) (w : World) (hk : k < n3) (hN : Hid (NetAt w A1 n1 c1 A2 n2 c2 A3 n3 c3 N)) :
    Calls Tryz.prog 16 #[netV A1 n1 c1 A2 n2 c2 A3 n3 c3 N.from_ N.to_, .int .i64 (k : Int)] w fun e w' => e = .returned (.int .i64 (bindsG N.cols 1 (N.tks.getD k default).vars)) ∧ Below w.heap.size w w' := by
  have hn3 := Nat.le_trans hN.out.tks.1 hN.out.tks.2.1
  have HA := fun W => Lib.hid (ck_among_tk A3 n3 c3 (k : Int) W hn3)
  rw [show amongB n3 (k : Int) = true by unfold amongB; simp; omega] at HA
  have HB1 := Lib.hid (alr w (.cells #[.slice A1 n1 c1, .slice A2 n2 c2, .slice A3 n3 c3, .int .i64 N.from_, .int .i64 N.to_] 26))
  have NB1 := Lib.hid (NBox.new w A1 n1 c1 A2 n2 c2 A3 n3 c3 N.from_ N.to_ 26)
  obtain ⟨w1, hw1⟩ : ∃ x, x = w.alloc (.cells #[.slice A1 n1 c1, .slice A2 n2 c2, .slice A3 n3 c3, .int .i64 N.from_, .int .i64 N.to_] 26) := ⟨_, rfl⟩
  rw [← hw1] at HB1 NB1
  have HW := Lib.hid hw1.symm
  clear hw1
  have hN1 := Lib.hid (hN.out.below HB1.out)
  obtain ⟨b, off, rfl, Av, nv, cv, Ag, mg, cg, Ai, ni, ci, Ao, no, co, Ac, nc, cc, hE⟩ := hN1.out.tks.at_ hk
  obtain ⟨q, hq⟩ : ∃ q, q = N.tks.getD k default := ⟨_, rfl⟩
  rw [← hq] at hE ⊢
  have c1' := hE.c1
  have hS := Lib.hid hE.vars
  have hcl := Lib.hid hN1.out.cols
  have hlv := Lib.hid hE.vars.2.2.1
  have hv9 := Nat.le_trans hE.vars.1 hE.vars.2.1
  obtain ⟨R, hR⟩ : ∃ R, R = bindsG N.cols 1 q.vars := ⟨_, rfl⟩
  rw [← hR]
  have HR := Lib.hid hR.symm
  have k0 : (0 : Int) ≤ (k : Int) := by omega
  have k1 : (k : Int) < (n3 : Int) := by omega
  have b0 := NB1.out.c0
  have b2 := NB1.out.c2
  clear hR hq hE
  go_enter Tryz.func16, Tryz.ntmps16
  go_wp2_with fail
  rw [HW.out]
  refine (HA _).out.mono ?_
  rintro e w0 ⟨rfl, rfl⟩
  go_wp2_with fail
  go_loopw [5, 21] (fun v5 v21 wr => ∃ (j : Nat) (x : Int), j ≤ nv ∧ 0 ≤ x ∧ x ≤ 1025 ∧ v5 = .int .i64 x ∧ v21 = .int .i64 (j : Int) ∧ Hid (bindsG N.cols x (q.vars.drop j) = R) ∧ Hid (Below w1.heap.size w1 wr)) (fun _ v21 _ => nv - (intOf v21).toNat)
  case atStart => exact ⟨0, 1, by omega, by omega, by omega, rfl, rfl, HR, Lib.hid (Below.refl _ _)⟩
  case round =>
    obtain ⟨j, x, hj, hx0, hx1, rfl, rfl, hP, hB⟩ := hrel
    by_cases hlt : j < nv
    · obtain ⟨b', off', rfl, hV⟩ := (hS.out.below VrAt.stays hB.out).at_ hlt
      have hst := hP.out
      rw [drop_vr (by rw [hlv.out]; exact hlt), bindsG] at hst
      obtain ⟨v, hv⟩ : ∃ v, v = q.vars.getD j default := ⟨_, rfl⟩
      rw [← hv] at hst hV
      have e0 := hV.c0
      have e1 := hV.c1
      have hbx := hB.out.alloc hB.out.size (.cells #[.string v.name, .int .i64 v.colour] 56)
      have HBX := Lib.hid hbx
      have d0 := cell_kept hbx b0
      have cS := Lib.hid (col_Size A1 n1 c1 N.cols v.colour _ (Lib.hid (hcl.out.below hbx)))
      have hsr := sizeAt_range N.cols v.colour
      obtain ⟨s, hs⟩ : ∃ s, s = sizeAt N.cols v.colour := ⟨_, rfl⟩
      rw [← hs] at hst cS hsr
      obtain ⟨hs0, hs1⟩ := hsr
      have hlt2 : (j : Int) < (nv : Int) := by omega
      have hj0 : (0 : Int) ≤ (j : Int) := by omega
      clear hv hV hs hbx
      by_cases h0 : s = 0
      · subst h0
        rw [if_pos rfl] at hst
        have HST := Lib.hid hst
        clear hst
        go_wp2_with (go_at_call 48; refine cS.out.mono ?_; rintro e w5 ⟨rfl, hb5⟩; have HB5 := Lib.hid (HBX.out.trans (hb5.mono HBX.out.size)); clear hb5)
        go_ret
        exact ⟨ret1 HST.out, below_then HB1.out HB5.out⟩
      · rw [if_neg h0] at hst
        have y0 : (s == 0) = false := by simpa using h0
        have hm := mul_1025 ⟨hx0, hx1⟩ ⟨hs0, hs1⟩
        obtain ⟨z, hz⟩ : ∃ z, z = x * s := ⟨_, rfl⟩
        rw [← hz] at hst hm
        obtain ⟨hm0, hm1⟩ := hm
        have HZ := Lib.hid hz.symm
        have hz1 : wrap64 (x * s) = z := by rw [← hz]; exact IntWalk.wrap64_in _ ⟨by omega, by omega⟩
        have hz2 : IntKind.i64.wrap (x * s) = z := by rw [← hz]; exact IntWalk.i64_in _ ⟨by omega, by omega⟩
        have HST := Lib.hid hst
        clear hst h0 hz
        go_wp2_with (go_at_call 48; refine cS.out.mono ?_; rintro e w5 ⟨rfl, hb5⟩; have HB5 := Lib.hid (HBX.out.trans (hb5.mono HBX.out.size)); clear hb5)
        go_roundw
        case rel => exact ⟨j + 1, min z 1025, by omega, by omega, by omega, rfl, by go_num, HST, HB5⟩
        case measure => simp [intOf]; omega
    · have e1 : q.vars.drop j = [] := List.drop_eq_nil_of_le (by rw [hlv.out]; omega)
      have hst := hP.out
      rw [e1, bindsG] at hst
      have HST := Lib.hid hst
      clear hst e1
      go_wp2
      go_ret
      exact ⟨ret1 HST.out, below_then HB1.out hB.out⟩
theorem ck_Binds (k : Int) (w : World) (hN : Hid (NetAt w A1 n1 c1 A2 n2 c2 A3 n3 c3 N)) :
    Calls Tryz.prog 16 #[netV A1 n1 c1 A2 n2 c2 A3 n3 c3 N.from_ N.to_, .int .i64 k] w fun e w' => e = .returned (.int .i64 (bindsE N k)) ∧ Below w.heap.size w w' := by
  have hn3 := Nat.le_trans hN.out.tks.1 hN.out.tks.2.1
  have hlt := hN.out.tks.2.2.1
  by_cases hk : 0 ≤ k ∧ k < (n3 : Int)
  · obtain ⟨j, rfl⟩ : ∃ j : Nat, k = j := ⟨k.toNat, by omega⟩
    have := ck_Binds_in j w (by omega) hN
    unfold bindsE
    rw [hlt, if_pos (among_iff.2 hk), Int.toNat_natCast]
    exact this
  · have hf : amongB n3 k = false := by rw [← Bool.not_eq_true, among_iff]; exact hk
    have HA := fun W => Lib.hid (ck_among_tk A3 n3 c3 k W hn3)
    have HE := Lib.hid (show bindsE N k = 0 by unfold bindsE; rw [hlt, hf]; rfl)
    have HB1 := Lib.hid (alr w (.cells #[.slice A1 n1 c1, .slice A2 n2 c2, .slice A3 n3 c3, .int .i64 N.from_, .int .i64 N.to_] 26))
    rw [hf] at HA
    clear hf hlt hk
    go_enter Tryz.func16, Tryz.ntmps16
    go_wp2_with (go_at_call 55; refine (HA _).out.mono ?_; rintro e w0 ⟨rfl, rfl⟩)
    go_ret
    exact ⟨ret1 HE.out.symm, HB1.out⟩
set_option maxRecDepth 100000 in
set_option maxHeartbeats 4000000 in
theorem ck_vars1 (l : List Vr) (A : Option Addr) (n c : Nat) (k g g2 : Nat) (w : World) (hk : k < n) (hn1 : n1 ≤ 9223372036854775807) (ht : Hid (TabOk w)) (hL : Hid (w.cell? ⟨g, 0, none⟩ = some (.slice A n c))) (hB : Hid (w.cell? ⟨g2, 0, none⟩ = some (.slice A1 n1 c1))) (hS : Hid (SlOf 2 VrAt w A n c l)) :
    Calls Tryz.prog 107 #[.int .i64 (k : Int), (l.getD k default).val, .pointer (some ⟨g, 0, none⟩), .pointer (some ⟨g2, 0, none⟩)] w fun e w' => e = .returned (.int .i64 (varE n1 l k)) ∧ Below w.heap.size w w' := by
  obtain ⟨E, hEE⟩ : ∃ E, E = varE n1 l k := ⟨_, rfl⟩
  rw [← hEE]
  unfold varE at hEE
  obtain ⟨q, hq⟩ : ∃ q, q = l.getD k default := ⟨_, rfl⟩
  rw [← hq] at hEE ⊢
  have HE := Lib.hid hEE
  have SZ1 := Lib.hid (show (w.alloc (.cells #[.int .i64 (k : Int)] 3)).heap.size = w.heap.size + 1 from World.size_alloc _ _)
  have SZ2 := Lib.hid (show ((w.alloc (.cells #[.int .i64 (k : Int)] 3)).alloc (.cells #[.string q.name, .int .i64 q.colour] 56)).heap.size = w.heap.size + 1 + 1 by rw [World.size_alloc, World.size_alloc])
  clear hq hEE
  go_enter Tryz.func107, Tryz.ntmps107
  go_upto_region 2 with fail
  obtain ⟨w1, hw1⟩ : ∃ x, x = ((w.alloc (.cells #[.int .i64 (k : Int)] 3)).alloc (.cells #[.string q.name, .int .i64 q.colour] 56)).alloc (.cells #[.func (.func 108) #[] #[.pointer (some ⟨w.heap.size + 1, 0, none⟩)]] 121) := ⟨_, rfl⟩
  rw [← hw1]
  have HB1 := Lib.hid (show Below w.heap.size w w1 by rw [hw1]; exact below_then (below_then (alr w _) (alr _ _)) (alr _ _))
  have K1 := Lib.hid (show w1.cell? ⟨w.heap.size, 0, none⟩ = some (.int .i64 (k : Int)) by rw [hw1]; exact cell_kept (alr _ _) (cell_kept (alr _ _) (cell_new w #[.int .i64 (k : Int)] 3 0 _ rfl)))
  have V0 := Lib.hid (show w1.cell? ⟨w.heap.size + 1, 0, none⟩ = some (.string q.name) by rw [hw1]; exact cell_kept (alr _ _) (SZ1.out ▸ cell_new (w.alloc (.cells #[.int .i64 (k : Int)] 3)) #[.string q.name, .int .i64 q.colour] 56 0 _ rfl))
  have V1 := Lib.hid (show w1.cell? ⟨w.heap.size + 1, 1, none⟩ = some (.int .i64 q.colour) by rw [hw1]; exact cell_kept (alr _ _) (SZ1.out ▸ cell_new (w.alloc (.cells #[.int .i64 (k : Int)] 3)) #[.string q.name, .int .i64 q.colour] 56 1 _ rfl))
  have FN := Lib.hid (show w1.cell? ⟨w.heap.size + 1 + 1, 0, none⟩ = some (.func (.func 108) #[] #[.pointer (some ⟨w.heap.size + 1, 0, none⟩)]) by rw [hw1]; exact SZ2.out ▸ cell_new ((w.alloc (.cells #[.int .i64 (k : Int)] 3)).alloc (.cells #[.string q.name, .int .i64 q.colour] 56)) #[.func (.func 108) #[] #[.pointer (some ⟨w.heap.size + 1, 0, none⟩)]] 121 0 _ rfl)
  have W1 := Lib.hid hw1
  clear hw1
  go_wp2_with fail
  obtain ⟨w2, hw2⟩ : ∃ x, x = w1.alloc (.cells #[.func (.func 109) #[] #[.pointer (some ⟨w.heap.size + 1, 0, none⟩)], .int .i64 1, .func (.func 110) #[] #[.pointer (some ⟨g, 0, none⟩), .pointer (some ⟨w.heap.size, 0, none⟩), .pointer (some ⟨w.heap.size + 1 + 1, 0, none⟩)], .int .i64 5, .func (.func 112) #[] #[.pointer (some ⟨g2, 0, none⟩), .pointer (some ⟨w.heap.size + 1, 0, none⟩)], .int .i64 3] 68) := ⟨_, rfl⟩
  rw [← hw2]
  have W2 := Lib.hid hw2
  have HB2 := Lib.hid (show Below w1.heap.size w1 w2 by rw [hw2]; exact alr _ _)
  have X0 := Lib.hid (show w2.cell? ⟨w1.heap.size, 0, none⟩ = some (.func (.func 109) #[] #[.pointer (some ⟨w.heap.size + 1, 0, none⟩)]) by rw [hw2]; exact cell_new w1 _ _ 0 _ rfl)
  have X1 := Lib.hid (show w2.cell? ⟨w1.heap.size, 1, none⟩ = some (.int .i64 1) by rw [hw2]; exact cell_new w1 _ _ 1 _ rfl)
  have X2 := Lib.hid (show w2.cell? ⟨w1.heap.size, 2, none⟩ = some (.func (.func 110) #[] #[.pointer (some ⟨g, 0, none⟩), .pointer (some ⟨w.heap.size, 0, none⟩), .pointer (some ⟨w.heap.size + 1 + 1, 0, none⟩)]) by rw [hw2]; exact cell_new w1 _ _ 2 _ rfl)
  have X3 := Lib.hid (show w2.cell? ⟨w1.heap.size, 3, none⟩ = some (.int .i64 5) by rw [hw2]; exact cell_new w1 _ _ 3 _ rfl)
  have X4 := Lib.hid (show w2.cell? ⟨w1.heap.size, 4, none⟩ = some (.func (.func 112) #[] #[.pointer (some ⟨g2, 0, none⟩), .pointer (some ⟨w.heap.size + 1, 0, none⟩)]) by rw [hw2]; exact cell_new w1 _ _ 4 _ rfl)
  have X5 := Lib.hid (show w2.cell? ⟨w1.heap.size, 5, none⟩ = some (.int .i64 3) by rw [hw2]; exact cell_new w1 _ _ 5 _ rfl)
  clear hw2
  have cF := (ck_first (fun _ W => Below w2.heap.size w2 W) w2.heap.size w1.heap.size 3 3 [⟨109, #[.pointer (some ⟨w.heap.size + 1, 0, none⟩)], 1, freeB q.name⟩, ⟨110, #[.pointer (some ⟨g, 0, none⟩), .pointer (some ⟨w.heap.size, 0, none⟩), .pointer (some ⟨w.heap.size + 1 + 1, 0, none⟩)], 5, (!(l.take k).any fun x => decide (x.name = q.name))⟩, ⟨112, #[.pointer (some ⟨g2, 0, none⟩), .pointer (some ⟨w.heap.size + 1, 0, none⟩)], 3, amongB n1 q.colour⟩] w2 rfl (by omega) (Lib.hid (Below.refl _ _)) (Lib.hid ⟨enters_of Tryz.func109 (by kernel_rfl) rfl, fun W h => ⟨cell_kept h X0.out, cell_kept h X1.out⟩, fun W h => (ck_var2 _ q.name W (Lib.hid (ht.out.below (below_then HB1.out (below_then HB2.out h)))) (Lib.hid (cell_kept (below_then HB2.out h) V0.out))).mono fun e w' he => ⟨he.1, below_then h he.2, kept_of he.2⟩, enters_of Tryz.func110 (by kernel_rfl) rfl, fun W h => ⟨cell_kept h X2.out, cell_kept h X3.out⟩, fun W h => (ck_var3 l A n c k _ _ _ _ q.name W hk (Lib.hid (cell_kept (below_then HB1.out (below_then HB2.out h)) hL.out)) (Lib.hid (cell_kept (below_then HB2.out h) K1.out)) (Lib.hid (cell_kept (below_then HB2.out h) FN.out)) (Lib.hid (cell_kept (below_then HB2.out h) V0.out)) (Lib.hid (hS.out.below VrAt.stays (below_then HB1.out (below_then HB2.out h))))).mono fun e w' he => ⟨he.1, below_then h he.2, kept_of he.2⟩, enters_of Tryz.func112 (by kernel_rfl) rfl, fun W h => ⟨cell_kept h X4.out, cell_kept h X5.out⟩, fun W h => (ck_var4 A1 n1 c1 q.colour _ _ W hn1 (Lib.hid (cell_kept (below_then HB1.out (below_then HB2.out h)) hB.out)) (Lib.hid (cell_kept (below_then HB2.out h) V1.out))).mono fun e w' he => ⟨he.1, below_then h he.2, kept_of he.2⟩, trivial⟩) (Lib.hid fun _ _ h => h.size) (Lib.hid fun i W o h => h.alloc h.size o))
  obtain ⟨y, hy⟩ : ∃ y, y = firstQ [⟨109, #[.pointer (some ⟨w.heap.size + 1, 0, none⟩)], 1, freeB q.name⟩, ⟨110, #[.pointer (some ⟨g, 0, none⟩), .pointer (some ⟨w.heap.size, 0, none⟩), .pointer (some ⟨w.heap.size + 1 + 1, 0, none⟩)], 5, (!(l.take k).any fun x => decide (x.name = q.name))⟩, ⟨112, #[.pointer (some ⟨g2, 0, none⟩), .pointer (some ⟨w.heap.size + 1, 0, none⟩)], 3, amongB n1 q.colour⟩] := ⟨_, rfl⟩
  rw [← hy] at cF
  have HY := Lib.hid hy
  clear hy
  refine cF.mono ?_
  rintro e w3 ⟨rfl, hb3⟩
  clear cF
  have HB3 := Lib.hid (below_then HB1.out (below_then HB2.out hb3))
  clear hb3
  go_wp2_with fail
  go_ret
  refine ⟨ret1 ?_, HB3.out⟩
  rw [HE.out, HY.out, firstQ_E]
  rfl
set_option maxRecDepth 100000 in
set_option maxHeartbeats 2000000 in
theorem ck_variables (l : List Vr) (A : Option Addr) (n c : Nat) (w : World) (ht : Hid (TabOk w)) (hn1 : n1 ≤ 9223372036854775807) (hS : Hid (SlOf 2 VrAt w A n c l)) (a b : Int) :
    Calls Tryz.prog 63 #[netV A1 n1 c1 A2 n2 c2 A3 n3 c3 a b, .slice A n c] w fun e w' => e = .returned (.int .i64 (varsE n1 l)) ∧ Below w.heap.size w w' := by
  have hn := Nat.le_trans hS.out.1 hS.out.2.1
  have hl := hS.out.2.2.1
  have hb1 := alr w (.cells #[.slice A1 n1 c1, .slice A2 n2 c2, .slice A3 n3 c3, .int .i64 a, .int .i64 b] 26)
  have h1 := (NBox.new w A1 n1 c1 A2 n2 c2 A3 n3 c3 a b 26).c0
  have hsz : (w.alloc (.cells #[.slice A1 n1 c1, .slice A2 n2 c2, .slice A3 n3 c3, .int .i64 a, .int .i64 b] 26)).heap.size = w.heap.size + 1 := World.size_alloc _ _
  obtain ⟨wn, hwn⟩ : ∃ x, x = w.alloc (.cells #[.slice A1 n1 c1, .slice A2 n2 c2, .slice A3 n3 c3, .int .i64 a, .int .i64 b] 26) := ⟨_, rfl⟩
  rw [← hwn] at hb1 h1 hsz
  have HB1 := Lib.hid (below_then hb1 (alr wn (.cells #[.slice A n c] 46)))
  have X0 := Lib.hid (cell_kept (alr wn (.cells #[.slice A n c] 46)) h1)
  have X1 := Lib.hid (show (wn.alloc (.cells #[.slice A n c] 46)).cell? ⟨w.heap.size + 1, 0, none⟩ = _ from hsz ▸ cell_new wn #[.slice A n c] 46 0 _ rfl)
  obtain ⟨w1, hw1⟩ : ∃ x, x = wn.alloc (.cells #[.slice A n c] 46) := ⟨_, rfl⟩
  rw [← hw1] at HB1 X0 X1
  rw [hwn] at hw1
  have HW := Lib.hid hw1.symm
  clear hw1 hwn hb1 h1 hsz
  have cE := ck_each_vr (varE n1 l) (w.heap.size + 1) w.heap.size A n c l w1 hn (Lib.hid (hS.out.below VrAt.stays HB1.out)) (Lib.hid fun k hk W hb _ _ _ => ck_vars1 (A1 := A1) (c1 := c1) l A n c k _ _ W hk hn1 (Lib.hid (ht.out.below (below_then HB1.out hb))) (Lib.hid (cell_kept hb X1.out)) (Lib.hid (cell_kept hb X0.out)) (Lib.hid (hS.out.below VrAt.stays (below_then HB1.out hb))))
  have hv : (eachE (varE n1 l) n).2 = varsE n1 l := by unfold varsE; rw [hl]
  rw [hv] at cE
  obtain ⟨y, hy⟩ : ∃ y, y = (eachE (varE n1 l) n).1 := ⟨_, rfl⟩
  obtain ⟨x, hx⟩ : ∃ x, x = varsE n1 l := ⟨_, rfl⟩
  rw [← hx, ← hy] at cE
  rw [← hx]
  have CE := Lib.hid cE
  have b1 := X1.out
  clear hx hy hv hl cE
  go_enter Tryz.func63, Tryz.ntmps63
  go_upto_region 1 with fail
  rw [HW.out]
  go_wp2_with (go_at_call 106; refine CE.out.mono ?_; rintro e w2 ⟨rfl, hb⟩; have HB := Lib.hid (below_then HB1.out hb); clear hb)
  go_ret
  exact ⟨rfl, HB.out⟩
set_option maxRecDepth 100000 in
set_option maxHeartbeats 2000000 in
theorem ck_arc2 (vars : Int) (t : Tr) (A' : Option Addr) (n' c' : Nat) (g g2 : Nat) (w : World) (h1 : Hid (w.cell? ⟨g, 1, none⟩ = some (.int .i64 t.kind))) (h2 : Hid (w.cell? ⟨g, 2, none⟩ = some (.int .i64 t.num))) (h3 : Hid (w.cell? ⟨g, 3, none⟩ = some (.slice A' n' c'))) (hV : Hid (w.cell? ⟨g2, 0, none⟩ = some (.int .i64 vars))) (hT : Hid (TrAt w A' n' c' t)) (hsz : sizeT t ≤ 1000000) :
    Calls Tryz.prog 116 #[.pointer (some ⟨g, 0, none⟩), .pointer (some ⟨g2, 0, none⟩)] w fun e w' => e = .returned (.bool (rightT vars t)) ∧ Below w.heap.size w w' := by
  have b1 := h1.out
  have b2 := h2.out
  have b3 := h3.out
  have b4 := hV.out
  have cR := Lib.hid (ex_Right vars t A' n' c' w hT hsz)
  obtain ⟨x, hx⟩ : ∃ x, x = rightT vars t := ⟨_, rfl⟩
  rw [← hx] at cR ⊢
  clear hx
  go_enter Tryz.func116, Tryz.ntmps116
  go_wp2_with (go_at_call 20; refine cR.out.mono ?_; rintro e w2 ⟨rfl, hb⟩; have HB := Lib.hid hb; clear hb)
  go_ret
  exact ⟨rfl, HB.out⟩
set_option maxRecDepth 100000 in
set_option maxHeartbeats 4000000 in
theorem ck_arcs1 (vars : Int) (l : List Ar) (k g g2 : Nat) (A' : Option Addr) (n' c' : Nat) (w : World) (hn2 : n2 ≤ 9223372036854775807) (hB : Hid (w.cell? ⟨g, 1, none⟩ = some (.slice A2 n2 c2))) (hV : Hid (w.cell? ⟨g2, 0, none⟩ = some (.int .i64 vars))) (hT : Hid (TrAt w A' n' c' (l.getD k default).expr)) (hsz : sizeT (l.getD k default).expr ≤ 1000000) :
    Calls Tryz.prog 114 #[.int .i64 (k : Int), (l.getD k default).val A' n' c', .pointer (some ⟨g, 0, none⟩), .pointer (some ⟨g2, 0, none⟩)] w fun e w' => e = .returned (.int .i64 (arcE n2 vars l k)) ∧ Below w.heap.size w w' := by
  obtain ⟨E, hEE⟩ : ∃ E, E = arcE n2 vars l k := ⟨_, rfl⟩
  rw [← hEE]
  unfold arcE at hEE
  obtain ⟨q, hq⟩ : ∃ q, q = l.getD k default := ⟨_, rfl⟩
  rw [← hq] at hEE hT hsz ⊢
  have HE := Lib.hid hEE
  clear hq hEE
  go_enter Tryz.func114, Tryz.ntmps114
  go_upto_region 1 with fail
  obtain ⟨w1, hw1⟩ : ∃ x, x = w.alloc (.cells #[.int .i64 q.place, .int .i64 q.expr.kind, .int .i64 q.expr.num, .slice A' n' c'] 65) := ⟨_, rfl⟩
  rw [← hw1]
  have HB1 := Lib.hid (show Below w.heap.size w w1 by rw [hw1]; exact alr w _)
  have V0 := Lib.hid (show w1.cell? ⟨w.heap.size, 0, none⟩ = some (.int .i64 q.place) by rw [hw1]; exact cell_new w #[.int .i64 q.place, .int .i64 q.expr.kind, .int .i64 q.expr.num, .slice A' n' c'] 65 0 _ rfl)
  have V1 := Lib.hid (show w1.cell? ⟨w.heap.size, 1, none⟩ = some (.int .i64 q.expr.kind) by rw [hw1]; exact cell_new w #[.int .i64 q.place, .int .i64 q.expr.kind, .int .i64 q.expr.num, .slice A' n' c'] 65 1 _ rfl)
  have V2 := Lib.hid (show w1.cell? ⟨w.heap.size, 2, none⟩ = some (.int .i64 q.expr.num) by rw [hw1]; exact cell_new w #[.int .i64 q.place, .int .i64 q.expr.kind, .int .i64 q.expr.num, .slice A' n' c'] 65 2 _ rfl)
  have V3 := Lib.hid (show w1.cell? ⟨w.heap.size, 3, none⟩ = some (.slice A' n' c') by rw [hw1]; exact cell_new w #[.int .i64 q.place, .int .i64 q.expr.kind, .int .i64 q.expr.num, .slice A' n' c'] 65 3 _ rfl)
  have W1 := Lib.hid hw1
  clear hw1
  go_wp2_with fail
  obtain ⟨w2, hw2⟩ : ∃ x, x = w1.alloc (.cells #[.func (.func 115) #[] #[.pointer (some ⟨g, 0, none⟩), .pointer (some ⟨w.heap.size, 0, none⟩)], .int .i64 3, .func (.func 116) #[] #[.pointer (some ⟨w.heap.size, 0, none⟩), .pointer (some ⟨g2, 0, none⟩)], .int .i64 1] 68) := ⟨_, rfl⟩
  rw [← hw2]
  have W2 := Lib.hid hw2
  have HB2 := Lib.hid (show Below w1.heap.size w1 w2 by rw [hw2]; exact alr _ _)
  have X0 := Lib.hid (show w2.cell? ⟨w1.heap.size, 0, none⟩ = some (.func (.func 115) #[] #[.pointer (some ⟨g, 0, none⟩), .pointer (some ⟨w.heap.size, 0, none⟩)]) by rw [hw2]; exact cell_new w1 _ _ 0 _ rfl)
  have X1 := Lib.hid (show w2.cell? ⟨w1.heap.size, 1, none⟩ = some (.int .i64 3) by rw [hw2]; exact cell_new w1 _ _ 1 _ rfl)
  have X2 := Lib.hid (show w2.cell? ⟨w1.heap.size, 2, none⟩ = some (.func (.func 116) #[] #[.pointer (some ⟨w.heap.size, 0, none⟩), .pointer (some ⟨g2, 0, none⟩)]) by rw [hw2]; exact cell_new w1 _ _ 2 _ rfl)
  have X3 := Lib.hid (show w2.cell? ⟨w1.heap.size, 3, none⟩ = some (.int .i64 1) by rw [hw2]; exact cell_new w1 _ _ 3 _ rfl)
  clear hw2
  have cF := (ck_first (fun _ W => Below w2.heap.size w2 W) w2.heap.size w1.heap.size 2 2 [⟨115, #[.pointer (some ⟨g, 0, none⟩), .pointer (some ⟨w.heap.size, 0, none⟩)], 3, amongB n2 q.place⟩, ⟨116, #[.pointer (some ⟨w.heap.size, 0, none⟩), .pointer (some ⟨g2, 0, none⟩)], 1, rightT vars q.expr⟩] w2 rfl (by omega) (Lib.hid (Below.refl _ _)) (Lib.hid ⟨enters_of Tryz.func115 (by kernel_rfl) rfl, fun W h => ⟨cell_kept h X0.out, cell_kept h X1.out⟩, fun W h => (ck_arc1 A2 n2 c2 q.place _ _ W hn2 (Lib.hid (cell_kept (below_then HB1.out (below_then HB2.out h)) hB.out)) (Lib.hid (cell_kept (below_then HB2.out h) V0.out))).mono fun e w' he => ⟨he.1, below_then h he.2, kept_of he.2⟩, enters_of Tryz.func116 (by kernel_rfl) rfl, fun W h => ⟨cell_kept h X2.out, cell_kept h X3.out⟩, fun W h => (ck_arc2 vars q.expr A' n' c' _ _ W (Lib.hid (cell_kept (below_then HB2.out h) V1.out)) (Lib.hid (cell_kept (below_then HB2.out h) V2.out)) (Lib.hid (cell_kept (below_then HB2.out h) V3.out)) (Lib.hid (cell_kept (below_then HB1.out (below_then HB2.out h)) hV.out)) (Lib.hid (hT.out.kept (below_then HB1.out (below_then HB2.out h)))) hsz).mono fun e w' he => ⟨he.1, below_then h he.2, kept_of he.2⟩, trivial⟩) (Lib.hid fun _ _ h => h.size) (Lib.hid fun i W o h => h.alloc h.size o))
  obtain ⟨y, hy⟩ : ∃ y, y = firstQ [⟨115, #[.pointer (some ⟨g, 0, none⟩), .pointer (some ⟨w.heap.size, 0, none⟩)], 3, amongB n2 q.place⟩, ⟨116, #[.pointer (some ⟨w.heap.size, 0, none⟩), .pointer (some ⟨g2, 0, none⟩)], 1, rightT vars q.expr⟩] := ⟨_, rfl⟩
  rw [← hy] at cF
  have HY := Lib.hid hy
  clear hy
  refine cF.mono ?_
  rintro e w3 ⟨rfl, hb3⟩
  clear cF
  have HB3 := Lib.hid (below_then HB1.out (below_then HB2.out hb3))
  clear hb3
  go_wp2_with fail
  go_ret
  refine ⟨ret1 ?_, HB3.out⟩
  rw [HE.out, HY.out, firstQ_E]
  rfl
set_option maxRecDepth 100000 in
set_option maxHeartbeats 2000000 in
theorem ck_arcs (vars : Int) (l : List Ar) (A : Option Addr) (n c : Nat) (w : World) (hn2 : n2 ≤ 9223372036854775807) (hS : Hid (SlOf 4 ArAt w A n c l)) (hF : Hid (∀ k, k < n → sizeT (l.getD k default).expr ≤ 1000000)) (a b : Int) :
    Calls Tryz.prog 67 #[netV A1 n1 c1 A2 n2 c2 A3 n3 c3 a b, .slice A n c, .int .i64 vars] w fun e w' => e = .returned (.int .i64 (arcsE n2 vars l)) ∧ Below w.heap.size w w' := by
  have hn := Nat.le_trans hS.out.1 hS.out.2.1
  have hl := hS.out.2.2.1
  have hb1 := alr w (.cells #[.slice A1 n1 c1, .slice A2 n2 c2, .slice A3 n3 c3, .int .i64 a, .int .i64 b] 26)
  have h1 := (NBox.new w A1 n1 c1 A2 n2 c2 A3 n3 c3 a b 26).c1
  have hsz : (w.alloc (.cells #[.slice A1 n1 c1, .slice A2 n2 c2, .slice A3 n3 c3, .int .i64 a, .int .i64 b] 26)).heap.size = w.heap.size + 1 := World.size_alloc _ _
  obtain ⟨wn, hwn⟩ : ∃ x, x = w.alloc (.cells #[.slice A1 n1 c1, .slice A2 n2 c2, .slice A3 n3 c3, .int .i64 a, .int .i64 b] 26) := ⟨_, rfl⟩
  rw [← hwn] at hb1 h1 hsz
  have HB1 := Lib.hid (below_then hb1 (alr wn (.cells #[.int .i64 vars] 3)))
  have X0 := Lib.hid (cell_kept (alr wn (.cells #[.int .i64 vars] 3)) h1)
  have X1 := Lib.hid (show (wn.alloc (.cells #[.int .i64 vars] 3)).cell? ⟨w.heap.size + 1, 0, none⟩ = _ from hsz ▸ cell_new wn #[.int .i64 vars] 3 0 _ rfl)
  obtain ⟨w1, hw1⟩ : ∃ x, x = wn.alloc (.cells #[.int .i64 vars] 3) := ⟨_, rfl⟩
  rw [← hw1] at HB1 X0 X1
  rw [hwn] at hw1
  have HW := Lib.hid hw1.symm
  clear hw1 hwn hb1 h1 hsz
  have cE := ck_each_ar (arcE n2 vars l) w.heap.size (w.heap.size + 1) A n c l w1 hn (Lib.hid (hS.out.below ArAt.stays HB1.out)) (Lib.hid fun k hk W hb b o A' n' c' hE => ck_arcs1 (A2 := A2) (c2 := c2) vars l k _ _ A' n' c' W hn2 (Lib.hid (cell_kept hb X0.out)) (Lib.hid (cell_kept hb X1.out)) (Lib.hid hE.out.tr) (hF.out k hk))
  have hv : (eachE (arcE n2 vars l) n).2 = arcsE n2 vars l := by unfold arcsE; rw [hl]
  rw [hv] at cE
  obtain ⟨y, hy⟩ : ∃ y, y = (eachE (arcE n2 vars l) n).1 := ⟨_, rfl⟩
  obtain ⟨x, hx⟩ : ∃ x, x = arcsE n2 vars l := ⟨_, rfl⟩
  rw [← hx, ← hy] at cE
  rw [← hx]
  have CE := Lib.hid cE
  clear hx hy hv hl cE
  go_enter Tryz.func67, Tryz.ntmps67
  go_upto_region 1 with fail
  rw [HW.out]
  go_wp2_with (go_at_call 113; refine CE.out.mono ?_; rintro e w2 ⟨rfl, hb⟩; have HB := Lib.hid (below_then HB1.out hb); clear hb)
  go_ret
  exact ⟨rfl, HB.out⟩
set_option maxRecDepth 100000 in
set_option maxHeartbeats 2000000 in
theorem ck_can2 (l : List Int) (A : Option Addr) (n c k : Nat) (q : Int) (g g2 g3 : Nat) (w : World) (hk : k < n) (hB : Hid (w.cell? ⟨g, 0, none⟩ = some (.slice A n c))) (h2 : Hid (w.cell? ⟨g2, 0, none⟩ = some (.int .i64 (k : Int)))) (h3 : Hid (w.cell? ⟨g3, 0, none⟩ = some (.int .i64 q))) (hS : Hid (Sl w (.slice A n c) n 1 (intCells l))) :
    Calls Tryz.prog 120 #[.pointer (some ⟨g, 0, none⟩), .pointer (some ⟨g2, 0, none⟩), .pointer (some ⟨g3, 0, none⟩)] w fun e w' => e = .returned (.bool (!(l.take k).contains q)) ∧ Below w.heap.size w w' := by
  obtain ⟨_, _, e0, hc, hc9, _⟩ := hS.out
  cases e0
  have hl : l.length = n := by have := hS.out.len; rw [intCells_len] at this; omega
  obtain ⟨b, off, rfl, _⟩ := hS.out.at_ (by omega)
  have k0 : (0 : Int) ≤ (k : Int) := by omega
  have k2 : (k : Int) ≤ (c : Int) := by omega
  have k3 : (k : Int) ≤ (n : Int) := by omega
  have cC := Lib.hid (fun W (hb : Below w.heap.size w W) => (show Calls Tryz.prog 121 #[.slice (some ⟨b, off, none⟩) k c, .int .i64 q] W fun e w' => e = .returned (.bool ((l.take k).contains q)) ∧ w' = W from
    Tryz.slices_Contains_int b off k c l q W (by omega) (by omega) fun j hj => by
      obtain ⟨b', off', e, h⟩ := (hS.out.below hb).int_at' (k := j) (by omega)
      injection e with e
      injection e with e1 e2
      subst e1
      subst e2
      exact h))
  obtain ⟨x, hx⟩ : ∃ x, x = (l.take k).contains q := ⟨_, rfl⟩
  rw [← hx] at cC ⊢
  clear hx hl
  have BD0 : Hid (Below w.heap.size w w.drew) := Lib.hid (below_drewN' (Below.refl _ _) 1)
  have HC := Lib.hid (show ∀ W, Below w.heap.size w W → W.cell? ⟨g, 0, none⟩ = some (.slice (some ⟨b, off, none⟩) n c) ∧ W.cell? ⟨g2, 0, none⟩ = some (.int .i64 (k : Int)) ∧ W.cell? ⟨g3, 0, none⟩ = some (.int .i64 q) from fun W h => ⟨cell_kept h hB.out, cell_kept h h2.out, cell_kept h h3.out⟩)
  go_enter Tryz.func120, Tryz.ntmps120
  go_upto_region 1 with fail
  go_region_held3 (fun W => W.cell? ⟨g, 0, none⟩ = some (.slice (some ⟨b, off, none⟩) n c) ∧ W.cell? ⟨g2, 0, none⟩ = some (.int .i64 (k : Int)) ∧ W.cell? ⟨g3, 0, none⟩ = some (.int .i64 q))
    (first | exact HC.out _ BD0.out)
    (first | (go_at_call 121; refine (cC.out _ BD0.out).mono ?_; rintro e w2 ⟨rfl, rfl⟩))
  all_goals
    go_wp2_with fail
    go_ret
    exact ⟨rfl, BD0.out⟩
set_option maxRecDepth 100000 in
set_option maxHeartbeats 4000000 in
theorem ck_cans1 (l : List Int) (A : Option Addr) (n c : Nat) (k g g2 : Nat) (w : World) (hk : k < n) (hn2 : n2 ≤ 9223372036854775807) (hB : Hid (w.cell? ⟨g, 1, none⟩ = some (.slice A2 n2 c2))) (hL : Hid (w.cell? ⟨g2, 0, none⟩ = some (.slice A n c))) (hS : Hid (Sl w (.slice A n c) n 1 (intCells l))) :
    Calls Tryz.prog 118 #[.int .i64 (k : Int), .int .i64 (l.getD k 0), .pointer (some ⟨g, 0, none⟩), .pointer (some ⟨g2, 0, none⟩)] w fun e w' => e = .returned (.int .i64 (cancelE n2 l k)) ∧ Below w.heap.size w w' := by
  obtain ⟨E, hEE⟩ : ∃ E, E = cancelE n2 l k := ⟨_, rfl⟩
  rw [← hEE]
  unfold cancelE at hEE
  obtain ⟨q, hq⟩ : ∃ q, q = l.getD k 0 := ⟨_, rfl⟩
  rw [← hq] at hEE ⊢
  have HE := Lib.hid hEE
  have SZ1 := Lib.hid (show (w.alloc (.cells #[.int .i64 (k : Int)] 3)).heap.size = w.heap.size + 1 from World.size_alloc _ _)
  clear hq hEE
  go_enter Tryz.func118, Tryz.ntmps118
  go_upto_region 1 with fail
  obtain ⟨w1, hw1⟩ : ∃ x, x = (w.alloc (.cells #[.int .i64 (k : Int)] 3)).alloc (.cells #[.int .i64 q] 3) := ⟨_, rfl⟩
  rw [← hw1]
  have HB1 := Lib.hid (show Below w.heap.size w w1 by rw [hw1]; exact below_then (alr w _) (alr _ _))
  have K1 := Lib.hid (show w1.cell? ⟨w.heap.size, 0, none⟩ = some (.int .i64 (k : Int)) by rw [hw1]; exact cell_kept (alr _ _) (cell_new w #[.int .i64 (k : Int)] 3 0 _ rfl))
  have V0 := Lib.hid (show w1.cell? ⟨w.heap.size + 1, 0, none⟩ = some (.int .i64 q) by rw [hw1]; exact SZ1.out ▸ cell_new (w.alloc (.cells #[.int .i64 (k : Int)] 3)) #[.int .i64 q] 3 0 _ rfl)
  have W1 := Lib.hid hw1
  clear hw1
  go_wp2_with fail
  obtain ⟨w2, hw2⟩ : ∃ x, x = w1.alloc (.cells #[.func (.func 119) #[] #[.pointer (some ⟨g, 0, none⟩), .pointer (some ⟨w.heap.size + 1, 0, none⟩)], .int .i64 3, .func (.func 120) #[] #[.pointer (some ⟨g2, 0, none⟩), .pointer (some ⟨w.heap.size, 0, none⟩), .pointer (some ⟨w.heap.size + 1, 0, none⟩)], .int .i64 5] 68) := ⟨_, rfl⟩
  rw [← hw2]
  have W2 := Lib.hid hw2
  have HB2 := Lib.hid (show Below w1.heap.size w1 w2 by rw [hw2]; exact alr _ _)
  have X0 := Lib.hid (show w2.cell? ⟨w1.heap.size, 0, none⟩ = some (.func (.func 119) #[] #[.pointer (some ⟨g, 0, none⟩), .pointer (some ⟨w.heap.size + 1, 0, none⟩)]) by rw [hw2]; exact cell_new w1 _ _ 0 _ rfl)
  have X1 := Lib.hid (show w2.cell? ⟨w1.heap.size, 1, none⟩ = some (.int .i64 3) by rw [hw2]; exact cell_new w1 _ _ 1 _ rfl)
  have X2 := Lib.hid (show w2.cell? ⟨w1.heap.size, 2, none⟩ = some (.func (.func 120) #[] #[.pointer (some ⟨g2, 0, none⟩), .pointer (some ⟨w.heap.size, 0, none⟩), .pointer (some ⟨w.heap.size + 1, 0, none⟩)]) by rw [hw2]; exact cell_new w1 _ _ 2 _ rfl)
  have X3 := Lib.hid (show w2.cell? ⟨w1.heap.size, 3, none⟩ = some (.int .i64 5) by rw [hw2]; exact cell_new w1 _ _ 3 _ rfl)
  clear hw2
  have cF := (ck_first (fun _ W => Below w2.heap.size w2 W) w2.heap.size w1.heap.size 2 2 [⟨119, #[.pointer (some ⟨g, 0, none⟩), .pointer (some ⟨w.heap.size + 1, 0, none⟩)], 3, amongB n2 q⟩, ⟨120, #[.pointer (some ⟨g2, 0, none⟩), .pointer (some ⟨w.heap.size, 0, none⟩), .pointer (some ⟨w.heap.size + 1, 0, none⟩)], 5, (!(l.take k).contains q)⟩] w2 rfl (by omega) (Lib.hid (Below.refl _ _)) (Lib.hid ⟨enters_of Tryz.func119 (by kernel_rfl) rfl, fun W h => ⟨cell_kept h X0.out, cell_kept h X1.out⟩, fun W h => (ck_can1 A2 n2 c2 q _ _ W hn2 (Lib.hid (cell_kept (below_then HB1.out (below_then HB2.out h)) hB.out)) (Lib.hid (cell_kept (below_then HB2.out h) V0.out))).mono fun e w' he => ⟨he.1, below_then h he.2, kept_of he.2⟩, enters_of Tryz.func120 (by kernel_rfl) rfl, fun W h => ⟨cell_kept h X2.out, cell_kept h X3.out⟩, fun W h => (ck_can2 l A n c k q _ _ _ W hk (Lib.hid (cell_kept (below_then HB1.out (below_then HB2.out h)) hL.out)) (Lib.hid (cell_kept (below_then HB2.out h) K1.out)) (Lib.hid (cell_kept (below_then HB2.out h) V0.out)) (Lib.hid (hS.out.below (below_then HB1.out (below_then HB2.out h))))).mono fun e w' he => ⟨he.1, below_then h he.2, kept_of he.2⟩, trivial⟩) (Lib.hid fun _ _ h => h.size) (Lib.hid fun i W o h => h.alloc h.size o))
  obtain ⟨y, hy⟩ : ∃ y, y = firstQ [⟨119, #[.pointer (some ⟨g, 0, none⟩), .pointer (some ⟨w.heap.size + 1, 0, none⟩)], 3, amongB n2 q⟩, ⟨120, #[.pointer (some ⟨g2, 0, none⟩), .pointer (some ⟨w.heap.size, 0, none⟩), .pointer (some ⟨w.heap.size + 1, 0, none⟩)], 5, (!(l.take k).contains q)⟩] := ⟨_, rfl⟩
  rw [← hy] at cF
  have HY := Lib.hid hy
  clear hy
  refine cF.mono ?_
  rintro e w3 ⟨rfl, hb3⟩
  clear cF
  have HB3 := Lib.hid (below_then HB1.out (below_then HB2.out hb3))
  clear hb3
  go_wp2_with fail
  go_ret
  refine ⟨ret1 ?_, HB3.out⟩
  rw [HE.out, HY.out, firstQ_E]
  rfl
set_option maxRecDepth 100000 in
set_option maxHeartbeats 2000000 in
theorem ck_cancels (l : List Int) (A : Option Addr) (n c : Nat) (w : World) (hn2 : n2 ≤ 9223372036854775807) (hS : Hid (Sl w (.slice A n c) n 1 (intCells l))) (a b : Int) :
    Calls Tryz.prog 70 #[netV A1 n1 c1 A2 n2 c2 A3 n3 c3 a b, .slice A n c] w fun e w' => e = .returned (.int .i64 (cancelsE n2 l)) ∧ Below w.heap.size w w' := by
  have hn := hS.out.bound
  have hl : l.length = n := by have := hS.out.len; rw [intCells_len] at this; omega
  have hb1 := alr w (.cells #[.slice A1 n1 c1, .slice A2 n2 c2, .slice A3 n3 c3, .int .i64 a, .int .i64 b] 26)
  have h1 := (NBox.new w A1 n1 c1 A2 n2 c2 A3 n3 c3 a b 26).c1
  have hsz : (w.alloc (.cells #[.slice A1 n1 c1, .slice A2 n2 c2, .slice A3 n3 c3, .int .i64 a, .int .i64 b] 26)).heap.size = w.heap.size + 1 := World.size_alloc _ _
  obtain ⟨wn, hwn⟩ : ∃ x, x = w.alloc (.cells #[.slice A1 n1 c1, .slice A2 n2 c2, .slice A3 n3 c3, .int .i64 a, .int .i64 b] 26) := ⟨_, rfl⟩
  rw [← hwn] at hb1 h1 hsz
  have HB1 := Lib.hid (below_then hb1 (alr wn (.cells #[.slice A n c] 36)))
  have X0 := Lib.hid (cell_kept (alr wn (.cells #[.slice A n c] 36)) h1)
  have X1 := Lib.hid (show (wn.alloc (.cells #[.slice A n c] 36)).cell? ⟨w.heap.size + 1, 0, none⟩ = _ from hsz ▸ cell_new wn #[.slice A n c] 36 0 _ rfl)
  obtain ⟨w1, hw1⟩ : ∃ x, x = wn.alloc (.cells #[.slice A n c] 36) := ⟨_, rfl⟩
  rw [← hw1] at HB1 X0 X1
  rw [hwn] at hw1
  have HW := Lib.hid hw1.symm
  clear hw1 hwn hb1 h1 hsz
  have cE := ck_each_int (cancelE n2 l) w.heap.size (w.heap.size + 1) A n c l w1 hn (Lib.hid (hS.out.below HB1.out)) (Lib.hid fun k hk W hb => ck_cans1 (A2 := A2) (c2 := c2) l A n c k _ _ W hk hn2 (Lib.hid (cell_kept hb X0.out)) (Lib.hid (cell_kept hb X1.out)) (Lib.hid (hS.out.below (below_then HB1.out hb))))
  have hv : (eachE (cancelE n2 l) n).2 = cancelsE n2 l := by unfold cancelsE; rw [hl]
  rw [hv] at cE
  obtain ⟨y, hy⟩ : ∃ y, y = (eachE (cancelE n2 l) n).1 := ⟨_, rfl⟩
  obtain ⟨x, hx⟩ : ∃ x, x = cancelsE n2 l := ⟨_, rfl⟩
  rw [← hx, ← hy] at cE
  rw [← hx]
  have CE := Lib.hid cE
  have b1 := X1.out
  clear hx hy hv hl cE
  go_enter Tryz.func70, Tryz.ntmps70
  go_upto_region 1 with fail
  rw [HW.out]
  go_wp2_with (go_at_call 117; refine CE.out.mono ?_; rintro e w2 ⟨rfl, hb⟩; have HB := Lib.hid (below_then HB1.out hb); clear hb)
  go_ret
  exact ⟨rfl, HB.out⟩
end
end Go.Proofs.YtaeeblceedklnaaGreatDoor
