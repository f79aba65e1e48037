/- Joined: Law 07: small. Printed by gen_prO.py. Law PrintBack: the walk. Printed by gen_prQ.py. Law PrintShort: the walk. Printed by gen_prQ.py. -/
import Derived.Test.YtkpjhjoopdbkaaaGreatDoorG54
import Derived.Test.YtkpjhjoopdbkaaaGreatDoorG43
import Derived.Deep.RegionHeld3
namespace Go.Proofs.YtkpjhjoopdbkaaaGreatDoor
open Go.RowKit
set_option maxRecDepth 100000 in
set_option maxHeartbeats 16000000 in
theorem law7_small (w : World) (htab : Hid (∀ W, Below w.heap.size w W → TabT W)) : Calls Tryz.prog 21 #[] w fun e w' => e = .returned (.bool true) ∧ Below w.heap.size w w' := by
  go_enter Tryz.func21, Tryz.ntmps21
  go_wp2_with fail
  refine (law7_some w).mono ?_
  rintro e w2 ⟨rfl, hA, hB⟩
  obtain ⟨b1, h1⟩ : ∃ y, y = w.heap.size + 2 := ⟨_, rfl⟩
  obtain ⟨b2, h2⟩ : ∃ y, y = w.heap.size + 4 := ⟨_, rfl⟩
  obtain ⟨b3, h3⟩ : ∃ y, y = w.heap.size + 9 := ⟨_, rfl⟩
  obtain ⟨Y2, y2⟩ : ∃ y : Option Addr, y = (some ⟨w.heap.size + 3, 0, none⟩) := ⟨_, rfl⟩
  obtain ⟨Yv, yv⟩ : ∃ y : Option Addr, y = (some ⟨w.heap.size + 5, 0, none⟩) := ⟨_, rfl⟩
  obtain ⟨Yi, yi⟩ : ∃ y : Option Addr, y = (some ⟨w.heap.size + 6, 0, none⟩) := ⟨_, rfl⟩
  obtain ⟨Yo, yo⟩ : ∃ y : Option Addr, y = (some ⟨w.heap.size + 7, 0, none⟩) := ⟨_, rfl⟩
  obtain ⟨Yc, yc⟩ : ∃ y : Option Addr, y = (some ⟨w.heap.size + 8, 0, none⟩) := ⟨_, rfl⟩
  rw [← h1, ← h2, ← h3, ← y2, ← yv, ← yi, ← yo, ← yc] at hA
  rw [← h1, ← h2, ← h3]
  have HB3 := Lib.hid (below_then hB.out (alrB w2 (.cells #[.slice (some ⟨b1, 0, none⟩) 1 1, .slice (some ⟨b2, 0, none⟩) 2 2, .slice (some ⟨b3, 0, none⟩) 1 1, .int .i64 0, .int .i64 1] 39)))
  have HA3 := Lib.hid (hA.out.below (alrB w2 (.cells #[.slice (some ⟨b1, 0, none⟩) 1 1, .slice (some ⟨b2, 0, none⟩) 2 2, .slice (some ⟨b3, 0, none⟩) 1 1, .int .i64 0, .int .i64 1] 39)))
  have R3 := Lib.hid (heap_alloc_new w2 (.cells #[.slice (some ⟨b1, 0, none⟩) 1 1, .slice (some ⟨b2, 0, none⟩) 2 2, .slice (some ⟨b3, 0, none⟩) 1 1, .int .i64 0, .int .i64 1] 39))
  clear hA hB h1 h2 h3 y2 yv yi yo yc
  go_upto_region 2 with fail
  obtain ⟨w3, hw3⟩ : ∃ y, y = w2.alloc (.cells #[.slice (some ⟨b1, 0, none⟩) 1 1, .slice (some ⟨b2, 0, none⟩) 2 2, .slice (some ⟨b3, 0, none⟩) 1 1, .int .i64 0, .int .i64 1] 39) := ⟨_, rfl⟩
  obtain ⟨gn, hgn⟩ : ∃ y, y = w2.heap.size := ⟨_, rfl⟩
  rw [← hw3] at HB3 HA3 R3 ⊢
  rw [← hgn] at R3 ⊢
  clear hw3 hgn
  have HC := Lib.hid (show ∀ W, Below w3.heap.size w3 W → W.cell? ⟨gn, 0, none⟩ = some (.slice (some ⟨b1, 0, none⟩) 1 1) ∧ W.cell? ⟨gn, 1, none⟩ = some (.slice (some ⟨b2, 0, none⟩) 2 2) ∧ W.cell? ⟨gn, 2, none⟩ = some (.slice (some ⟨b3, 0, none⟩) 1 1) ∧ W.cell? ⟨gn, 3, none⟩ = some (.int .i64 0) ∧ W.cell? ⟨gn, 4, none⟩ = some (.int .i64 1) from fun W h => ⟨row_cell (row_below R3.out h) 0 _ rfl, row_cell (row_below R3.out h) 1 _ rfl, row_cell (row_below R3.out h) 2 _ rfl, row_cell (row_below R3.out h) 3 _ rfl, row_cell (row_below R3.out h) 4 _ rfl⟩)
  have HN := Lib.hid (fun W (h : Below w3.heap.size w3 W) => (HA3.out.below h).net)
  have HTB := Lib.hid (fun W (h : Below w3.heap.size w3 W) V (hv : Below W.heap.size W V) => htab.out V (below_then (below_then HB3.out h) hv))
  obtain ⟨X, hX⟩ : ∃ X : ByteArray, X = ⟨(([99, 111, 108, 111, 117, 114, 32, 110, 32, 61, 32, 105, 110, 116, 32, 48, 32, 46, 46, 32, 51, 59, 10, 112, 108, 97, 99, 101, 32, 97, 58, 32, 110].append [32, 61, 32, 48, 42, 50, 59, 10, 112, 108, 97, 99, 101, 32, 98, 58, 32, 110, 59, 10, 116, 97, 115, 107, 32, 116, 32, 123, 10, 9, 118, 97, 114]).append ([32, 120, 58, 32, 110, 59, 10, 9, 115, 112, 108, 105, 116, 32, 111, 114, 59, 10, 9, 105, 110, 32, 97, 40, 120, 41, 59, 10, 9, 111, 117, 116, 32].append [98, 40, 120, 41, 59, 10, 9, 99, 97, 110, 99, 101, 108, 32, 98, 59, 10, 125, 10, 102, 114, 111, 109, 32, 97, 59, 10, 116, 111, 32, 98, 59, 10])).toArray⟩ := ⟨_, rfl⟩
  rw [← hX]
  have HTX := Lib.hid (show netB smN = X by rw [hX]; kernel_rfl)
  clear hX
  obtain ⟨eX, eY⟩ := str_yes (rfl : X = X)
  have CT := Lib.hid (fun W (h : Below w3.heap.size w3 W) => (show Calls Tryz.prog 22 #[netV (some ⟨b1, 0, none⟩) 1 1 (some ⟨b2, 0, none⟩) 2 2 (some ⟨b3, 0, none⟩) 1 1 0 1] W fun e w' => e = .returned (.string X) ∧ Below W.heap.size W w' from by
    have q := pr_Text (N := smN) W (Lib.hid (HN.out W h)) (Lib.hid sm_bd) (Lib.hid (HTB.out W h))
    rw [HTX.out] at q
    exact q))
  have CP := Lib.hid (fun W (h : Below w3.heap.size w3 W) => (show Calls Tryz.prog 41 #[netV (some ⟨b1, 0, none⟩) 1 1 (some ⟨b2, 0, none⟩) 2 2 (some ⟨b3, 0, none⟩) 1 1 0 1] W fun e w' => ∃ p1 p2 p3 k1 k2 k3, Hid (Below W.heap.size W w') ∧ e = .returned (netV (some ⟨p1, 0, none⟩) 1 k1 (some ⟨p2, 0, none⟩) 2 k2 (some ⟨p3, 0, none⟩) 1 k3 0 1) ∧ Hid (NetAt w' (some ⟨p1, 0, none⟩) 1 k1 (some ⟨p2, 0, none⟩) 2 k2 (some ⟨p3, 0, none⟩) 1 k3 smN) from
    (cp_small b1 b2 b3 1 2 1 Y2 1 Yv 1 Yi 1 Yo 1 Yc 1 W (Lib.hid (HA3.out.below h))).mono fun e w' => by
      intro hq
      obtain ⟨p1, p2, p3, k1, k2, k3, A2, c2, Av, cv, Ai, ci, Ao, co, Ac, cc, e1, ⟨g, K⟩, r1, r2, r3, s1, s2, s3, s4, s5, hb⟩ := hq
      exact ⟨p1, p2, p3, k1, k2, k3, Lib.hid hb, e1, Lib.hid (sm_net r1 r2 r3 s1 s2 s3 s4 s5 K.k1 K.k2 K.k3)⟩))
  have CS := Lib.hid (fun W p1 p2 p3 k1 k2 k3 (h : Below w3.heap.size w3 W) (hn : NetAt W (some ⟨p1, 0, none⟩) 1 k1 (some ⟨p2, 0, none⟩) 2 k2 (some ⟨p3, 0, none⟩) 1 k3 smN) => (show Calls Tryz.prog 23 #[netV (some ⟨b1, 0, none⟩) 1 1 (some ⟨b2, 0, none⟩) 2 2 (some ⟨b3, 0, none⟩) 1 1 0 1, netV (some ⟨p1, 0, none⟩) 1 k1 (some ⟨p2, 0, none⟩) 2 k2 (some ⟨p3, 0, none⟩) 1 k3 0 1] W fun e w' => e = .returned (.bool true) ∧ Below W.heap.size W w' from
    (pr_Same smN smN _ _ _ _ _ _ _ _ _ _ _ _ _ _ _ _ _ _ W (Lib.hid (HN.out W h)) (Lib.hid hn)).mono fun e w' q => EqAns.of_yes rfl q))
  have CL := Lib.hid (fun W (h : Below w3.heap.size w3 W) => (show Calls Tryz.prog 42 #[netV (some ⟨b1, 0, none⟩) 1 1 (some ⟨b2, 0, none⟩) 2 2 (some ⟨b3, 0, none⟩) 1 1 0 1, .int .i64 0] W fun e w' => (∃ A c, e = .returned (.slice A 5 c)) ∧ Below W.heap.size W w' from
    (pr_Clauses0 (N := smN) W (Lib.hid (HN.out W h)) (Lib.hid sm_bd) (Lib.hid (HTB.out W h)) (by omega)).mono fun e w' => by
      rintro ⟨v, n, e1, hS, hb⟩
      have hl := hS.len
      rw [strCells_len, sm_clauses] at hl
      obtain rfl : n = 5 := by omega
      obtain ⟨A, c, rfl, _, _, _⟩ := hS.form
      exact ⟨⟨A, c, e1⟩, hb⟩))
  have CK := Lib.hid (fun W (_ : Below w3.heap.size w3 W) => (show Calls Tryz.prog 43 #[netV (some ⟨b1, 0, none⟩) 1 1 (some ⟨b2, 0, none⟩) 2 2 (some ⟨b3, 0, none⟩) 1 1 0 1, .int .i64 1] W fun e w' => e = .returned (.string ⟨#[]⟩) ∧ Below W.heap.size W w' from pr_TaskNo (N := smN) W))
  have CN := Lib.hid (fun W (_ : Below w3.heap.size w3 W) => (show Calls Tryz.prog 42 #[netV (some ⟨b1, 0, none⟩) 1 1 (some ⟨b2, 0, none⟩) 2 2 (some ⟨b3, 0, none⟩) 1 1 0 1, .int .i64 (-1)] W fun e w' => e = .returned (.slice none 0 0) ∧ Below W.heap.size W w' from pr_ClausesNo (N := smN) W))
  have BD0 := Lib.hid (Below.refl w3.heap.size w3)
  go_region_held3 (fun W => W.cell? ⟨gn, 0, none⟩ = some (.slice (some ⟨b1, 0, none⟩) 1 1) ∧ W.cell? ⟨gn, 1, none⟩ = some (.slice (some ⟨b2, 0, none⟩) 2 2) ∧ W.cell? ⟨gn, 2, none⟩ = some (.slice (some ⟨b3, 0, none⟩) 1 1) ∧ W.cell? ⟨gn, 3, none⟩ = some (.int .i64 0) ∧ W.cell? ⟨gn, 4, none⟩ = some (.int .i64 1))
    (first | exact HC.out _ HB9.out | exact HC.out _ HB8.out | exact HC.out _ HB7.out | exact HC.out _ HB6.out | exact HC.out _ HB5.out | exact HC.out _ HB4.out | exact HC.out _ BD0.out | exact HC.out _ (below_drewN' BD0.out 1) | exact HC.out _ (below_drewN' BD0.out _))
    (first
      | (go_at_call 42; refine (CN.out _ HB8.out).mono ?_; rintro e w9 ⟨rfl, hb⟩; have HB9 := Lib.hid (below_then HB8.out hb); clear hb)
      | (go_at_call_of 42 (Value.int .i64 0); refine (CL.out _ HB6.out).mono ?_; rintro e w7 ⟨⟨A6, c6, rfl⟩, hb⟩; have HB7 := Lib.hid (below_then HB6.out hb); clear hb)
      | (go_at_call 43; refine (CK.out _ HB7.out).mono ?_; rintro e w8 ⟨rfl, hb⟩; have HB8 := Lib.hid (below_then HB7.out hb); clear hb)
      | (go_at_call 23; refine (CS.out _ p1 p2 p3 k1 k2 k3 HB5.out HN5.out).mono ?_; rintro e w6 ⟨rfl, hb⟩; have HB6 := Lib.hid (below_then HB5.out hb); clear hb)
      | (go_at_call 41; refine (CP.out _ HB4.out).mono ?_; rintro e w5 ⟨p1, p2, p3, k1, k2, k3, hb, rfl, HN5⟩; have HB5 := Lib.hid (below_then HB4.out hb.out); clear hb)
      | (go_at_call 22; refine (CT.out _ (by first | exact BD0.out | exact below_drewN' BD0.out 1 | exact below_drewN' BD0.out _)).mono ?_; rintro e w4 ⟨rfl, hb⟩; have HB4 := Lib.hid (below_then (show Below w3.heap.size w3 _ from (by first | exact BD0.out | exact below_drewN' BD0.out 1 | exact below_drewN' BD0.out _)) hb); clear hb))
  all_goals
    go_wp2_with fail
    go_ret
    exact ⟨rfl, below_then HB3.out HB9.out⟩
end Go.Proofs.YtkpjhjoopdbkaaaGreatDoor
namespace Go.Proofs.YtkpjhjoopdbkaaaGreatDoor
open Go.RowKit
theorem back_facts (s : ByteArray) (hs : s.size ≤ 4096) : (textAll s).2.2 = 0 → NtBd (textAll s).1 ∧ ((netB (textAll s).1).size ≤ 16384 → (textAll (netB (textAll s).1)).1 = (textAll s).1 ∧ (textAll (netB (textAll s).1)).2.2 = 0) := fun h => by
  obtain ⟨p, B, hB, g, e⟩ := parsed_good hs h
  rw [e]
  exact ⟨net_bd hB g, fun hl => text_back g hl⟩
theorem netB_size {N : Nt} (h : NtBd N) : (netB N).size ≤ 140000000000000 := by
  have := h.all
  rw [← netB_bytes, size_list] at this
  exact this
set_option maxRecDepth 100000 in
set_option maxHeartbeats 16000000 in
theorem law_PrintBack (s : ByteArray) (w : World) (ht : Hid (∀ W, Below w.heap.size w W → TabOk W)) (htab : Hid (∀ W, Below w.heap.size w W → TabT W)) (hs7 : s.size ≤ 9223372036854775807) :
    Calls Tryz.prog 6 #[.string s] w fun e w' => e = .returned (.bool true) ∧ Below w.heap.size w w' := by
  by_cases h4 : (4096 : Int) < (s.size : Int)
  · go_enter Tryz.func6, Tryz.ntmps6
    go_wp2_with (go_at_call 21; refine (law7_small _ htab).mono ?_; rintro e w1 ⟨rfl, hb1⟩; have HB1 := Lib.hid hb1; clear hb1)
    go_ret
    exact ⟨rfl, HB1.out⟩
  have hs : s.size ≤ 4096 := by omega
  have HF := Lib.hid (back_facts s hs)
  have CT := Lib.hid (fun W (hb : Below w.heap.size w W) => pa_Text s W (Lib.hid (ht.out W hb)) (by omega))
  obtain ⟨Z, hZ⟩ : ∃ Z, Z = textAll s := ⟨_, rfl⟩
  rw [← hZ] at HF CT
  obtain ⟨N, en, er⟩ := Z
  clear hZ hs
  go_enter Tryz.func6, Tryz.ntmps6
  go_wp2_with (go_at_call 21; refine (law7_small _ htab).mono ?_; rintro e w1 ⟨rfl, hb1⟩; have HB1 := Lib.hid hb1; clear hb1)
  refine (CT.out w1 HB1.out).mono ?_
  rintro e x1 ⟨A11, n11, c11, A12, n12, c12, A13, n13, c13, rfl, hH, hB⟩
  have hN := hH.now
  have HN1 := Lib.hid hN
  have HBx1 := Lib.hid (below_then HB1.out hB)
  have HY1 := Lib.hid (below_then HBx1.out (alrB x1 (.cells #[.slice A11 n11 c11, .slice A12 n12 c12, .slice A13 n13 c13, .int .i64 N.from_, .int .i64 N.to_] 39)))
  have HD1 := Lib.hid (below_then hB (alrB x1 (.cells #[.slice A11 n11 c11, .slice A12 n12 c12, .slice A13 n13 c13, .int .i64 N.from_, .int .i64 N.to_] 39)))
  have R1 := Lib.hid (heap_alloc_new x1 (.cells #[.slice A11 n11 c11, .slice A12 n12 c12, .slice A13 n13 c13, .int .i64 N.from_, .int .i64 N.to_] 39))
  clear hN hB hH
  go_upto_region 5 with fail
  obtain ⟨y1, hy1⟩ : ∃ y, y = x1.alloc (.cells #[.slice A11 n11 c11, .slice A12 n12 c12, .slice A13 n13 c13, .int .i64 N.from_, .int .i64 N.to_] 39) := ⟨_, rfl⟩
  obtain ⟨g1, hg1⟩ : ∃ y, y = x1.heap.size := ⟨_, rfl⟩
  have HM1 := Lib.hid (show NetAt y1 A11 n11 c11 A12 n12 c12 A13 n13 c13 N by rw [hy1]; exact HN1.out.below (alrB _ _))
  rw [← hy1] at HY1 HD1 R1 ⊢
  rw [← hg1] at R1 ⊢
  clear hy1 hg1 HN1
  by_cases he : er = 0
  · have z1 : (er != 0) = false := by simpa using he
    have HE := Lib.hid (HF.out he)
    have CP := Lib.hid (fun W (h : Below y1.heap.size y1 W) => pr_Text (N := N) W (Lib.hid (HM1.out.below h)) (Lib.hid HE.out.1) (Lib.hid (fun V hv => htab.out V (below_then (below_then HY1.out h) hv))))
    have HSB := Lib.hid (netB_size HE.out.1)
    have HE2 := Lib.hid HE.out.2
    have HNB := Lib.hid HE.out.1
    obtain ⟨T, hT⟩ : ∃ T, T = netB N := ⟨_, rfl⟩
    have HE3 := HE2.out
    rw [← hT] at CP HSB HE3
    have HTN := Lib.hid hT
    have HE4 := Lib.hid HE3
    clear he hT HE3 HE HE2
    have b0 := row_cell R1.out 0 _ rfl
    have b1 := row_cell R1.out 1 _ rfl
    have b2 := row_cell R1.out 2 _ rfl
    have b3 := row_cell R1.out 3 _ rfl
    have b4 := row_cell R1.out 4 _ rfl
    go_wp2_with (go_at_call 22; refine (CP.out _ (Below.refl _ _)).mono ?_; rintro e w4 ⟨rfl, hb⟩; have HB4 := Lib.hid (below_then HY1.out hb); have HK4 := Lib.hid hb; clear hb b0 b1 b2 b3 b4; by_cases h5 : (16384 : Int) < (T.size : Int))
    · go_wp2_with fail
      go_ret
      exact ⟨rfl, HB4.out⟩
    · have HT5 := Lib.hid (show T.size ≤ 16384 by omega)
      have CB := Lib.hid (pa_Text T w4 (Lib.hid (ht.out w4 HB4.out)) (by omega))
      have HX := Lib.hid (HE4.out HT5.out)
      obtain ⟨Z2, hZ2⟩ : ∃ Z, Z = textAll T := ⟨_, rfl⟩
      rw [← hZ2] at CB HX
      obtain ⟨N2, en2, er2⟩ := Z2
      obtain ⟨q1, q2⟩ : N2 = N ∧ er2 = 0 := HX.out
      subst q1 q2
      clear hZ2 HX
      go_wp2_with fail
      refine CB.out.mono ?_
      rintro e x2 ⟨A21, n21, c21, A22, n22, c22, A23, n23, c23, rfl, hH, hB⟩
      have hN := hH.now
      have HN2 := Lib.hid hN
      have HBx2 := Lib.hid (below_then HB4.out hB)
      have HY2 := Lib.hid (below_then HBx2.out (alrB x2 (.cells #[.slice A21 n21 c21, .slice A22 n22 c22, .slice A23 n23 c23, .int .i64 N2.from_, .int .i64 N2.to_] 39)))
      have HD2 := Lib.hid (below_then hB (alrB x2 (.cells #[.slice A21 n21 c21, .slice A22 n22 c22, .slice A23 n23 c23, .int .i64 N2.from_, .int .i64 N2.to_] 39)))
      have R2 := Lib.hid (heap_alloc_new x2 (.cells #[.slice A21 n21 c21, .slice A22 n22 c22, .slice A23 n23 c23, .int .i64 N2.from_, .int .i64 N2.to_] 39))
      clear hN hB hH
      go_upto_region 11 with fail
      obtain ⟨y2, hy2⟩ : ∃ y, y = x2.alloc (.cells #[.slice A21 n21 c21, .slice A22 n22 c22, .slice A23 n23 c23, .int .i64 N2.from_, .int .i64 N2.to_] 39) := ⟨_, rfl⟩
      obtain ⟨g2, hg2⟩ : ∃ y, y = x2.heap.size := ⟨_, rfl⟩
      have HM2 := Lib.hid (show NetAt y2 A21 n21 c21 A22 n22 c22 A23 n23 c23 N2 by rw [hy2]; exact HN2.out.below (alrB _ _))
      rw [← hy2] at HY2 HD2 R2 ⊢
      rw [← hg2] at R2 ⊢
      clear hy2 hg2 HN2
      have HM3 := Lib.hid (HM1.out.below (below_then HK4.out HD2.out))
      have R3 := Lib.hid (row_below R1.out (below_then HK4.out HD2.out))
      have CS := Lib.hid (fun W (h : Below y2.heap.size y2 W) => (pr_Same N2 N2 A11 n11 c11 A12 n12 c12 A13 n13 c13 A21 n21 c21 A22 n22 c22 A23 n23 c23 W (Lib.hid (HM3.out.below h)) (Lib.hid (HM2.out.below h))).mono fun _ _ q => EqAns.of_yes rfl q)
      have CQ := Lib.hid (fun W (h : Below y2.heap.size y2 W) => (show Calls Tryz.prog 22 #[netV A21 n21 c21 A22 n22 c22 A23 n23 c23 N2.from_ N2.to_] W fun e w' => e = .returned (.string T) ∧ Below W.heap.size W w' from by
        have q := pr_Text (N := N2) W (Lib.hid (HM2.out.below h)) (Lib.hid HNB.out) (Lib.hid (fun V hv => htab.out V (below_then (below_then HY2.out h) hv)))
        rw [← HTN.out] at q
        exact q))
      have HC := Lib.hid (show ∀ W, Below y2.heap.size y2 W → W.cell? ⟨g1, 0, none⟩ = some (.slice A11 n11 c11) ∧ W.cell? ⟨g1, 1, none⟩ = some (.slice A12 n12 c12) ∧ W.cell? ⟨g1, 2, none⟩ = some (.slice A13 n13 c13) ∧ W.cell? ⟨g1, 3, none⟩ = some (.int .i64 N2.from_) ∧ W.cell? ⟨g1, 4, none⟩ = some (.int .i64 N2.to_) ∧ W.cell? ⟨g2, 0, none⟩ = some (.slice A21 n21 c21) ∧ W.cell? ⟨g2, 1, none⟩ = some (.slice A22 n22 c22) ∧ W.cell? ⟨g2, 2, none⟩ = some (.slice A23 n23 c23) ∧ W.cell? ⟨g2, 3, none⟩ = some (.int .i64 N2.from_) ∧ W.cell? ⟨g2, 4, none⟩ = some (.int .i64 N2.to_) from fun W h => ⟨row_cell (row_below R3.out h) 0 _ rfl, row_cell (row_below R3.out h) 1 _ rfl, row_cell (row_below R3.out h) 2 _ rfl, row_cell (row_below R3.out h) 3 _ rfl, row_cell (row_below R3.out h) 4 _ rfl, row_cell (row_below R2.out h) 0 _ rfl, row_cell (row_below R2.out h) 1 _ rfl, row_cell (row_below R2.out h) 2 _ rfl, row_cell (row_below R2.out h) 3 _ rfl, row_cell (row_below R2.out h) 4 _ rfl⟩)
      obtain ⟨e1, e2⟩ := str_yes (rfl : T = T)
      have BD0 := Lib.hid (Below.refl y2.heap.size y2)
      obtain ⟨z10, z11, z12, z13, z14, z15, z16, z17, z18, z19⟩ := HC.out y2 BD0.out
      go_wp2_with (first
        | (go_at_call 23; refine (CS.out _ BD0.out).mono ?_; rintro e w6 ⟨rfl, hb⟩; have HB6 := Lib.hid hb; clear hb z10 z11 z12 z13 z14 z15 z16 z17 z18 z19; obtain ⟨z10, z11, z12, z13, z14, z15, z16, z17, z18, z19⟩ := HC.out _ HB6.out)
        | (go_at_call 22; refine (CQ.out _ HB6.out).mono ?_; rintro e w7 ⟨rfl, hb⟩; have HB7 := Lib.hid (below_then HB6.out hb); clear hb))
      go_ret
      exact ⟨rfl, below_then HY2.out HB7.out⟩
  · have z1 : (er != 0) = true := by simpa using he
    clear he
    go_wp2
    go_ret
    exact ⟨rfl, HY1.out⟩
end Go.Proofs.YtkpjhjoopdbkaaaGreatDoor
namespace Go.Proofs.YtkpjhjoopdbkaaaGreatDoor
open Go.RowKit
theorem short_facts (s t : ByteArray) (hs : s.size ≤ 4096) (ht : t.size ≤ 4096) : (textAll s).2.2 = 0 → (textAll t).2.2 = 0 → NtBd (textAll s).1 ∧ NtBd (textAll t).1 ∧ (netB (textAll s).1 = netB (textAll t).1 ↔ (textAll s).1 = (textAll t).1) := fun h k => by
  obtain ⟨p, B, hB, g, e⟩ := parsed_good hs h
  obtain ⟨q, C, hC, g2, e2⟩ := parsed_good ht k
  rw [e, e2]
  exact ⟨net_bd hB g, net_bd hC g2, text_apart g g2⟩
set_option maxRecDepth 100000 in
set_option maxHeartbeats 16000000 in
theorem law_PrintShort (s t : ByteArray) (w : World) (ht : Hid (∀ W, Below w.heap.size w W → TabOk W)) (htab : Hid (∀ W, Below w.heap.size w W → TabT W)) (hs7 : s.size ≤ 9223372036854775807) (ht7 : t.size ≤ 9223372036854775807) :
    Calls Tryz.prog 7 #[.string s, .string t] w fun e w' => e = .returned (.bool true) ∧ Below w.heap.size w w' := by
  by_cases h4 : (4096 : Int) < (s.size : Int)
  · have z0 : decide ((4096 : Int) < (s.size : Int)) = true := decide_eq_true h4
    go_enter Tryz.func7, Tryz.ntmps7
    go_wp2_with (go_at_call 21; refine (law7_small _ htab).mono ?_; rintro e w1 ⟨rfl, hb1⟩; have HB1 := Lib.hid hb1; clear hb1)
    go_ret
    exact ⟨rfl, HB1.out⟩
  by_cases h5 : (4096 : Int) < (t.size : Int)
  · have z0 : decide ((4096 : Int) < (s.size : Int)) = false := decide_eq_false h4
    have z1 : decide ((4096 : Int) < (t.size : Int)) = true := decide_eq_true h5
    go_enter Tryz.func7, Tryz.ntmps7
    go_wp2_with (go_at_call 21; refine (law7_small _ htab).mono ?_; rintro e w1 ⟨rfl, hb1⟩; have HB1 := Lib.hid hb1; clear hb1)
    go_ret
    exact ⟨rfl, HB1.out⟩
  have hs : s.size ≤ 4096 := by omega
  have hs2 : t.size ≤ 4096 := by omega
  have z0 : decide ((4096 : Int) < (s.size : Int)) = false := decide_eq_false h4
  have z1 : decide ((4096 : Int) < (t.size : Int)) = false := decide_eq_false h5
  have HF := Lib.hid (short_facts s t hs hs2)
  have CT := Lib.hid (fun W (hb : Below w.heap.size w W) => pa_Text s W (Lib.hid (ht.out W hb)) (by omega))
  have CU := Lib.hid (fun W (hb : Below w.heap.size w W) => pa_Text t W (Lib.hid (ht.out W hb)) (by omega))
  obtain ⟨Z, hZ⟩ : ∃ Z, Z = textAll s := ⟨_, rfl⟩
  obtain ⟨Z2, hZ2⟩ : ∃ Z, Z = textAll t := ⟨_, rfl⟩
  rw [← hZ, ← hZ2] at HF
  rw [← hZ] at CT
  rw [← hZ2] at CU
  obtain ⟨N, en, er⟩ := Z
  obtain ⟨M, en2, er2⟩ := Z2
  clear hZ hZ2 hs hs2
  go_enter Tryz.func7, Tryz.ntmps7
  go_wp2_with (go_at_call 21; refine (law7_small _ htab).mono ?_; rintro e w1 ⟨rfl, hb1⟩; have HB1 := Lib.hid hb1; clear hb1)
  clear z0 z1
  refine (CT.out w1 HB1.out).mono ?_
  rintro e x1 ⟨A11, n11, c11, A12, n12, c12, A13, n13, c13, rfl, hH, hB⟩
  have hN := hH.now
  have HN1 := Lib.hid hN
  have HBx1 := Lib.hid (below_then HB1.out hB)
  have HY1 := Lib.hid (below_then HBx1.out (alrB x1 (.cells #[.slice A11 n11 c11, .slice A12 n12 c12, .slice A13 n13 c13, .int .i64 N.from_, .int .i64 N.to_] 39)))
  have HD1 := Lib.hid (below_then hB (alrB x1 (.cells #[.slice A11 n11 c11, .slice A12 n12 c12, .slice A13 n13 c13, .int .i64 N.from_, .int .i64 N.to_] 39)))
  have R1 := Lib.hid (heap_alloc_new x1 (.cells #[.slice A11 n11 c11, .slice A12 n12 c12, .slice A13 n13 c13, .int .i64 N.from_, .int .i64 N.to_] 39))
  clear hN hB hH
  go_upto_region 5 with fail
  obtain ⟨y1, hy1⟩ : ∃ y, y = x1.alloc (.cells #[.slice A11 n11 c11, .slice A12 n12 c12, .slice A13 n13 c13, .int .i64 N.from_, .int .i64 N.to_] 39) := ⟨_, rfl⟩
  obtain ⟨g1, hg1⟩ : ∃ y, y = x1.heap.size := ⟨_, rfl⟩
  have HM1 := Lib.hid (show NetAt y1 A11 n11 c11 A12 n12 c12 A13 n13 c13 N by rw [hy1]; exact HN1.out.below (alrB _ _))
  rw [← hy1] at HY1 HD1 R1 ⊢
  rw [← hg1] at R1 ⊢
  clear hy1 hg1 HN1
  go_wp2_with fail
  refine (CU.out y1 HY1.out).mono ?_
  rintro e x2 ⟨A21, n21, c21, A22, n22, c22, A23, n23, c23, rfl, hH, hB⟩
  have hN := hH.now
  have HN2 := Lib.hid hN
  have HBx2 := Lib.hid (below_then HY1.out hB)
  have HY2 := Lib.hid (below_then HBx2.out (alrB x2 (.cells #[.slice A21 n21 c21, .slice A22 n22 c22, .slice A23 n23 c23, .int .i64 M.from_, .int .i64 M.to_] 39)))
  have HD2 := Lib.hid (below_then hB (alrB x2 (.cells #[.slice A21 n21 c21, .slice A22 n22 c22, .slice A23 n23 c23, .int .i64 M.from_, .int .i64 M.to_] 39)))
  have R2 := Lib.hid (heap_alloc_new x2 (.cells #[.slice A21 n21 c21, .slice A22 n22 c22, .slice A23 n23 c23, .int .i64 M.from_, .int .i64 M.to_] 39))
  clear hN hB hH
  go_upto_region 6 with fail
  obtain ⟨y2, hy2⟩ : ∃ y, y = x2.alloc (.cells #[.slice A21 n21 c21, .slice A22 n22 c22, .slice A23 n23 c23, .int .i64 M.from_, .int .i64 M.to_] 39) := ⟨_, rfl⟩
  obtain ⟨g2, hg2⟩ : ∃ y, y = x2.heap.size := ⟨_, rfl⟩
  have HM2 := Lib.hid (show NetAt y2 A21 n21 c21 A22 n22 c22 A23 n23 c23 M by rw [hy2]; exact HN2.out.below (alrB _ _))
  rw [← hy2] at HY2 HD2 R2 ⊢
  rw [← hg2] at R2 ⊢
  clear hy2 hg2 HN2
  by_cases he : er = 0
  · by_cases he2 : er2 = 0
    · have z1 : (er != 0) = false := by simpa using he
      have z2 : (er2 != 0) = false := by simpa using he2
      have HE := Lib.hid (HF.out he he2)
      have HM3 := Lib.hid (HM1.out.below HD2.out)
      have R3 := Lib.hid (row_below R1.out HD2.out)
      have CP := Lib.hid (fun W (h : Below y2.heap.size y2 W) => pr_Text (N := N) W (Lib.hid (HM3.out.below h)) (Lib.hid HE.out.1) (Lib.hid (fun V hv => htab.out V (below_then (below_then HY2.out h) hv))))
      have CQ := Lib.hid (fun W (h : Below y2.heap.size y2 W) => pr_Text (N := M) W (Lib.hid (HM2.out.below h)) (Lib.hid HE.out.2.1) (Lib.hid (fun V hv => htab.out V (below_then (below_then HY2.out h) hv))))
      have CS := Lib.hid (fun W (h : Below y2.heap.size y2 W) => pr_Same N M A11 n11 c11 A12 n12 c12 A13 n13 c13 A21 n21 c21 A22 n22 c22 A23 n23 c23 W (Lib.hid (HM3.out.below h)) (Lib.hid (HM2.out.below h)))
      have HIF := Lib.hid HE.out.2.2
      obtain ⟨T, hT⟩ : ∃ T, T = netB N := ⟨_, rfl⟩
      obtain ⟨U, hU⟩ : ∃ T, T = netB M := ⟨_, rfl⟩
      have hif := HIF.out
      rw [← hT, ← hU] at hif
      rw [← hT] at CP
      rw [← hU] at CQ
      have HIG := Lib.hid hif
      have HC := Lib.hid (show ∀ W, Below y2.heap.size y2 W → W.cell? ⟨g1, 0, none⟩ = some (.slice A11 n11 c11) ∧ W.cell? ⟨g1, 1, none⟩ = some (.slice A12 n12 c12) ∧ W.cell? ⟨g1, 2, none⟩ = some (.slice A13 n13 c13) ∧ W.cell? ⟨g1, 3, none⟩ = some (.int .i64 N.from_) ∧ W.cell? ⟨g1, 4, none⟩ = some (.int .i64 N.to_) ∧ W.cell? ⟨g2, 0, none⟩ = some (.slice A21 n21 c21) ∧ W.cell? ⟨g2, 1, none⟩ = some (.slice A22 n22 c22) ∧ W.cell? ⟨g2, 2, none⟩ = some (.slice A23 n23 c23) ∧ W.cell? ⟨g2, 3, none⟩ = some (.int .i64 M.from_) ∧ W.cell? ⟨g2, 4, none⟩ = some (.int .i64 M.to_) from fun W h => ⟨row_cell (row_below R3.out h) 0 _ rfl, row_cell (row_below R3.out h) 1 _ rfl, row_cell (row_below R3.out h) 2 _ rfl, row_cell (row_below R3.out h) 3 _ rfl, row_cell (row_below R3.out h) 4 _ rfl, row_cell (row_below R2.out h) 0 _ rfl, row_cell (row_below R2.out h) 1 _ rfl, row_cell (row_below R2.out h) 2 _ rfl, row_cell (row_below R2.out h) 3 _ rfl, row_cell (row_below R2.out h) 4 _ rfl⟩)
      have BD0 := Lib.hid (Below.refl y2.heap.size y2)
      clear he he2 hif hT hU HIF HE
      go_wp2_with fail
      by_cases hx : N = M
      · obtain ⟨e1, e2⟩ := str_yes (HIG.out.2 hx)
        have CS2 := Lib.hid (fun W (h : Below y2.heap.size y2 W) => (CS.out W h).mono fun _ _ q => EqAns.of_yes hx q)
        clear hx
        go_region_held3 (fun W => W.cell? ⟨g1, 0, none⟩ = some (.slice A11 n11 c11) ∧ W.cell? ⟨g1, 1, none⟩ = some (.slice A12 n12 c12) ∧ W.cell? ⟨g1, 2, none⟩ = some (.slice A13 n13 c13) ∧ W.cell? ⟨g1, 3, none⟩ = some (.int .i64 N.from_) ∧ W.cell? ⟨g1, 4, none⟩ = some (.int .i64 N.to_) ∧ W.cell? ⟨g2, 0, none⟩ = some (.slice A21 n21 c21) ∧ W.cell? ⟨g2, 1, none⟩ = some (.slice A22 n22 c22) ∧ W.cell? ⟨g2, 2, none⟩ = some (.slice A23 n23 c23) ∧ W.cell? ⟨g2, 3, none⟩ = some (.int .i64 M.from_) ∧ W.cell? ⟨g2, 4, none⟩ = some (.int .i64 M.to_))
          (first | exact HC.out _ HB7.out | exact HC.out _ HB6.out | exact HC.out _ HB5.out | exact HC.out _ BD0.out | exact HC.out _ (below_drewN' BD0.out 1) | exact HC.out _ (below_drewN' BD0.out _))
          (first
            | (go_at_call 23; refine (CS2.out _ HB6.out).mono ?_; rintro e w7 ⟨rfl, hb⟩; have HB7 := Lib.hid (below_then HB6.out hb); clear hb)
            | (go_at_call_of 22 (Value.agg #[Value.slice A21 n21 c21, Value.slice A22 n22 c22, Value.slice A23 n23 c23, Value.int .i64 M.from_, Value.int .i64 M.to_]); refine (CQ.out _ HB5.out).mono ?_; rintro e w6 ⟨rfl, hb⟩; have HB6 := Lib.hid (below_then HB5.out hb); clear hb)
            | (go_at_call 22; refine (CP.out _ (by first | exact BD0.out | exact below_drewN' BD0.out 1 | exact below_drewN' BD0.out _)).mono ?_; rintro e w5 ⟨rfl, hb⟩; have HB5 := Lib.hid (below_then (show Below y2.heap.size y2 _ from (by first | exact BD0.out | exact below_drewN' BD0.out 1 | exact below_drewN' BD0.out _)) hb); clear hb))
        all_goals
          go_wp2_with fail
          go_ret
          exact ⟨rfl, below_then HY2.out HB7.out⟩
      · obtain ⟨e1, e2⟩ := str_no (fun q => hx (HIG.out.1 q))
        have CS2 := Lib.hid (fun W (h : Below y2.heap.size y2 W) => (CS.out W h).mono fun _ _ q => EqAns.of_no hx q)
        clear hx
        go_region_held3 (fun W => W.cell? ⟨g1, 0, none⟩ = some (.slice A11 n11 c11) ∧ W.cell? ⟨g1, 1, none⟩ = some (.slice A12 n12 c12) ∧ W.cell? ⟨g1, 2, none⟩ = some (.slice A13 n13 c13) ∧ W.cell? ⟨g1, 3, none⟩ = some (.int .i64 N.from_) ∧ W.cell? ⟨g1, 4, none⟩ = some (.int .i64 N.to_) ∧ W.cell? ⟨g2, 0, none⟩ = some (.slice A21 n21 c21) ∧ W.cell? ⟨g2, 1, none⟩ = some (.slice A22 n22 c22) ∧ W.cell? ⟨g2, 2, none⟩ = some (.slice A23 n23 c23) ∧ W.cell? ⟨g2, 3, none⟩ = some (.int .i64 M.from_) ∧ W.cell? ⟨g2, 4, none⟩ = some (.int .i64 M.to_))
          (first | exact HC.out _ HB7.out | exact HC.out _ HB6.out | exact HC.out _ HB5.out | exact HC.out _ BD0.out | exact HC.out _ (below_drewN' BD0.out 1) | exact HC.out _ (below_drewN' BD0.out _))
          (first
            | (go_at_call 23; refine (CS2.out _ HB6.out).mono ?_; rintro e w7 ⟨rfl, hb⟩; have HB7 := Lib.hid (below_then HB6.out hb); clear hb)
            | (go_at_call_of 22 (Value.agg #[Value.slice A21 n21 c21, Value.slice A22 n22 c22, Value.slice A23 n23 c23, Value.int .i64 M.from_, Value.int .i64 M.to_]); refine (CQ.out _ HB5.out).mono ?_; rintro e w6 ⟨rfl, hb⟩; have HB6 := Lib.hid (below_then HB5.out hb); clear hb)
            | (go_at_call 22; refine (CP.out _ (by first | exact BD0.out | exact below_drewN' BD0.out 1 | exact below_drewN' BD0.out _)).mono ?_; rintro e w5 ⟨rfl, hb⟩; have HB5 := Lib.hid (below_then (show Below y2.heap.size y2 _ from (by first | exact BD0.out | exact below_drewN' BD0.out 1 | exact below_drewN' BD0.out _)) hb); clear hb))
        all_goals
          go_wp2_with fail
          go_ret
          exact ⟨rfl, below_then HY2.out HB7.out⟩
    · have z1 : (er != 0) = false := by simpa using he
      have z2 : (er2 != 0) = true := by simpa using he2
      clear he he2
      go_wp2
      go_ret
      exact ⟨rfl, HY2.out⟩
  · have z1 : (er != 0) = true := by simpa using he
    clear he
    go_wp2
    go_ret
    exact ⟨rfl, HY2.out⟩
end Go.Proofs.YtkpjhjoopdbkaaaGreatDoor
