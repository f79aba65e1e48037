/- Joined: Package print: Copy of the law's small net: the walk. Printed by gen_prM.py. -/
import Derived.Test.YtkpjhjoopdbkaaaGreatDoorG51
import Derived.Deep.RegionLaw
import Derived.Deep.RegionWith
namespace Go.Proofs.YtkpjhjoopdbkaaaGreatDoor
open Go.RowKit
set_option maxRecDepth 100000 in
set_option maxHeartbeats 16000000 in
theorem cp_small (b1 b2 b3 d1 d2 d3 : Nat) (A2 : Option Addr) (c2 : Nat) (Av : Option Addr) (cv : Nat) (Ai : Option Addr) (ci : Nat) (Ao : Option Addr) (co : Nat) (Ac : Option Addr) (cc : Nat) (w : World) (hA : Hid (SmA w b1 b2 b3 d1 d2 d3 A2 c2 Av cv Ai ci Ao co Ac cc)) :
    Calls Tryz.prog 41 #[netV (some ⟨b1, 0, none⟩) 1 d1 (some ⟨b2, 0, none⟩) 2 d2 (some ⟨b3, 0, none⟩) 1 d3 0 1] w (CpEnd w) := by
  obtain ⟨w1, hw1⟩ : ∃ Z, Z = (w.alloc (.cells #[.slice (some ⟨b1, 0, none⟩) 1 d1, .slice (some ⟨b2, 0, none⟩) 2 d2, .slice (some ⟨b3, 0, none⟩) 1 d3, .int .i64 0, .int .i64 1] 39)).alloc (.cells #[.slice none 0 0, .slice none 0 0, .slice none 0 0, .int .i64 0, .int .i64 0] 39) := ⟨_, rfl⟩
  have HB1 := Lib.hid (show Below w.heap.size w w1 by rw [hw1]; exact below_then (alrB w _) (alrB _ _))
  have hsz : (w.alloc (.cells #[.slice (some ⟨b1, 0, none⟩) 1 d1, .slice (some ⟨b2, 0, none⟩) 2 d2, .slice (some ⟨b3, 0, none⟩) 1 d3, .int .i64 0, .int .i64 1] 39)).heap.size = w.heap.size + 1 := World.size_alloc _ _
  have hsz2 : w1.heap.size = w.heap.size + 2 := by rw [hw1, World.size_alloc, hsz]
  have RA := Lib.hid (show w1.heap[w.heap.size]? = some (.cells #[.slice (some ⟨b1, 0, none⟩) 1 d1, .slice (some ⟨b2, 0, none⟩) 2 d2, .slice (some ⟨b3, 0, none⟩) 1 d3, .int .i64 0, .int .i64 1] 39 (0, 0)) by rw [hw1]; exact row_alloc (heap_alloc_new w _) _)
  have RB := Lib.hid (show w1.heap[w.heap.size + 1]? = some (.cells #[.slice none 0 0, .slice none 0 0, .slice none 0 0, .int .i64 0, .int .i64 0] 39 (0, 0)) by rw [hw1, ← hsz]; exact heap_alloc_new _ _)
  have HW := Lib.hid hw1.symm
  obtain ⟨g, hg⟩ : ∃ y, y = w.heap.size := ⟨_, rfl⟩
  have HG := Lib.hid hg.symm
  have HSZ := Lib.hid (show w1.heap.size = g + 2 by rw [hsz2, hg])
  rw [← hg] at RA RB
  have C1 := Lib.hid (fun W (h : Below w1.heap.size w1 W) => cl_col b1 0 1 d1 [.string ⟨#[110]⟩, .int .i64 1, .int .i64 0, .int .i64 3, .slice none 0 0, .int .i64 0, .int .i64 0] W (Lib.hid (((hA.out.r1.below HB1.out).below h).sl hA.out.k1.1 hA.out.k1.2 rfl)) (Lib.hid (by intro u hu; simp only [List.mem_cons, List.not_mem_nil, or_false] at hu; rcases hu with rfl | rfl | rfl | rfl | rfl | rfl | rfl <;> rfl)) (by omega))
  have C2 := Lib.hid (fun W (h : Below w1.heap.size w1 W) => cl_pl b2 0 2 d2 [.string ⟨#[97]⟩, .int .i64 0, .slice A2 1 c2, .string ⟨#[98]⟩, .int .i64 0, .slice none 0 0] W (Lib.hid (((hA.out.r2.below HB1.out).below h).sl hA.out.k2.1 hA.out.k2.2 rfl)) (Lib.hid (by intro u hu; simp only [List.mem_cons, List.not_mem_nil, or_false] at hu; rcases hu with rfl | rfl | rfl | rfl | rfl | rfl <;> rfl)) (by omega))
  have C3 := Lib.hid (fun W (h : Below w1.heap.size w1 W) => cl_tk b3 0 1 d3 [.string ⟨#[116]⟩, .slice Av 1 cv, .int .i64 1, .int .i64 1, .slice none 0 0, .int .i64 1, .int .i64 3, .slice Ai 1 ci, .slice Ao 1 co, .slice Ac 1 cc, .int .i64 0, .int .i64 0, .int .i64 0, .int .i64 0] W (Lib.hid (((hA.out.r3.below HB1.out).below h).sl hA.out.k3.1 hA.out.k3.2 rfl)) (Lib.hid (by intro u hu; simp only [List.mem_cons, List.not_mem_nil, or_false] at hu; rcases hu with rfl | rfl | rfl | rfl | rfl | rfl | rfl | rfl | rfl | rfl | rfl | rfl | rfl | rfl <;> rfl)) (by omega))
  have z0 := row_cell RA.out 0 _ rfl
  have z1 := row_cell RA.out 1 _ rfl
  have z2 := row_cell RA.out 2 _ rfl
  have f0 : w1.frozen? ⟨g, 0, none⟩ = false := by simp [World.frozen?, RA.out]
  have f1 : w1.frozen? ⟨g, 1, none⟩ = false := by simp [World.frozen?, RA.out]
  have f2 : w1.frozen? ⟨g, 2, none⟩ = false := by simp [World.frozen?, RA.out]
  have BD := Lib.hid (Below.refl w1.heap.size w1)
  clear hsz hsz2 hw1 hg
  go_enter Tryz.func41, Tryz.ntmps41
  go_upto_region 1 with fail
  rw [HG.out, HW.out]
  go_cut [] (fun wx => ∃ p1 k1 p2 k2 p3 k3, CpK g p1 p2 p3 k1 k2 k3 ∧ Hid (CpS wx g p1 p2 p3 k1 k2 k3 A2 c2 Av cv Ai ci Ao co Ac cc) ∧ Hid (Below w.heap.size w wx))
  case first =>
   as_aux_lemma =>
     go_region_law (first
      | (go_simp; go_at_call 87; refine (C1.out _ (by first | exact BD.out | exact below_drewN' BD.out _)).mono ?_; rintro e w2 ⟨v, rfl, hown, hb⟩
         obtain ⟨p1, k1, rfl, hk1, hk1', hp1, hR⟩ := RowX.of_own hown (by omega)
         have R1 := Lib.hid hR
         have B2 := Lib.hid (show Below w1.heap.size w1 w2 from below_then (by first | exact BD.out | exact below_drewN' BD.out _) hb)
         have P1 := Lib.hid (show w1.heap.size ≤ p1 from hp1)
         have K1 := Lib.hid (And.intro hk1 hk1')
         clear hown hb hp1 hR hk1 hk1' z0 z1 z2
         have z1 := cell_kept B2.out (row_cell RA.out 1 _ rfl)
         have z2 := cell_kept B2.out (row_cell RA.out 2 _ rfl))
      | (go_simp; go_at_call 88; refine (C2.out _ (by exact B2.out)).mono ?_; rintro e w3 ⟨v, rfl, hown, hb⟩
         obtain ⟨p2, k2, rfl, hk1, hk1', hp1, hR⟩ := RowX.of_own hown (by omega)
         have R2 := Lib.hid hR
         have B3 := Lib.hid (below_then B2.out hb)
         have D3 := Lib.hid hb
         have P2 := Lib.hid (show w2.heap.size ≤ p2 from hp1)
         have K2 := Lib.hid (And.intro hk1 hk1')
         clear hown hb hp1 hR hk1 hk1' z1 z2
         have z2 := cell_kept B3.out (row_cell RA.out 2 _ rfl))
      | (go_simp; go_at_call 89; refine (C3.out _ (by exact B3.out)).mono ?_; rintro e w4 ⟨v, rfl, hown, hb⟩
         obtain ⟨p3, k3, rfl, hk1, hk1', hp1, hR⟩ := RowX.of_own hown (by omega)
         have R3 := Lib.hid hR
         have B4 := Lib.hid (below_then B3.out hb)
         have D4 := Lib.hid hb
         have P3 := Lib.hid (show w3.heap.size ≤ p3 from hp1)
         have K3 := Lib.hid (And.intro hk1 hk1')
         clear hown hb hp1 hR hk1 hk1' z2 f0 f1 f2
         have z0 := cell_kept B4.out (row_cell RA.out 0 _ rfl)
         have z1 := cell_kept B4.out (row_cell RA.out 1 _ rfl)
         have z2 := cell_kept B4.out (row_cell RA.out 2 _ rfl)
         have f0 : w4.frozen? ⟨g, 0, none⟩ = false := by simp [World.frozen?, row_below RA.out B4.out]
         have f1 : w4.frozen? ⟨g, 1, none⟩ = false := by simp [World.frozen?, row_below RA.out B4.out]
         have f2 : w4.frozen? ⟨g, 2, none⟩ = false := by simp [World.frozen?, row_below RA.out B4.out]))
     all_goals
      go_wp2_with fail
      go_meet
      have n1 := P1.out
      have n2 := P2.out
      have n3 := P3.out
      have s1 := HSZ.out
      have s2 := R1.out.lt
      have s3 := R2.out.lt
      have K := CpK.mk (g := g) (p1 := p1) (p2 := p2) (p3 := p3) (by omega) (by omega) (by omega) K1.out K2.out K3.out
      refine ⟨p1, k1, p2, k2, p3, k3, K, Lib.hid ?_, Lib.hid ?_⟩
      · exact CpS.start K hA.out HG.out HB1.out B4.out RA.out RB.out (by omega) (by omega) ((R1.out.below D3.out).below D4.out) (R2.out.below D4.out) R3.out
      · exact ((((HB1.out.trans (B4.out.mono HB1.out.size)).setCell (p := ⟨g, 0, none⟩) (by rw [HG.out]; exact Nat.le_refl _) _).setCell (p := ⟨g, 1, none⟩) (by rw [HG.out]; exact Nat.le_refl _) _).setCell (p := ⟨g, 2, none⟩) (by rw [HG.out]; exact Nat.le_refl _) _)
  case rest =>
  clear C1 C2 C3 z0 z1 z2 f0 f1 f2 BD
  obtain ⟨p1, k1, p2, k2, p3, k3, K, HS, HB⟩ := hcut
  have x24a := row_cell HS.out.box 0 _ rfl
  go_wp2_with fail
  clear x24a
  go_loopw [24] (fun v wr => ∃ (j : Nat) (A2 : Option Addr) (c2 : Nat) (Av : Option Addr) (cv : Nat) (Ai : Option Addr) (ci : Nat) (Ao : Option Addr) (co : Nat) (Ac : Option Addr) (cc : Nat), j ≤ 1 ∧ v = .int .i64 j ∧ Hid (CpS wr g p1 p2 p3 k1 k2 k3 A2 c2 Av cv Ai ci Ao co Ac cc) ∧ Hid (Below w.heap.size w wr)) (fun v _ => 1 - (RowKit.intOf v).toNat)
  case atStart => exact ⟨0, A2, c2, Av, cv, Ai, ci, Ao, co, Ac, cc, by omega, rfl, HS, HB⟩
  case round =>
    obtain ⟨j, hA2, hc2, hAv, hcv, hAi, hci, hAo, hco, hAc, hcc, hj, rfl, HSr, HBr⟩ := hrel
    by_cases h0 : j = 0
    · subst h0
      have cl0 := HSr.out.r1.cell 0 _ rfl
      have cl1 := HSr.out.r1.cell 1 _ rfl
      have cl2 := HSr.out.r1.cell 2 _ rfl
      have cl3 := HSr.out.r1.cell 3 _ rfl
      have cl4 := HSr.out.r1.cell 4 _ rfl
      have cl5 := HSr.out.r1.cell 5 _ rfl
      have cl6 := HSr.out.r1.cell 6 _ rfl
      have HK := Lib.hid (alrB wr (.cells #[.string ⟨#[110]⟩, .int .i64 1, .int .i64 0, .int .i64 3, .slice none 0 0, .int .i64 0, .int .i64 0] 82))
      have HX := Lib.hid (heap_alloc_new wr (.cells #[.string ⟨#[110]⟩, .int .i64 1, .int .i64 0, .int .i64 3, .slice none 0 0, .int .i64 0, .int .i64 0] 82))
      go_upto_region 5 with fail
      obtain ⟨w3, hw3⟩ : ∃ y, y = wr.alloc (.cells #[.string ⟨#[110]⟩, .int .i64 1, .int .i64 0, .int .i64 3, .slice none 0 0, .int .i64 0, .int .i64 0] 82) := ⟨_, rfl⟩
      obtain ⟨gx, hgx⟩ : ∃ y, y = wr.heap.size := ⟨_, rfl⟩
      rw [← hw3] at HK HX ⊢
      have HGX := Lib.hid (show g + 1 < gx ∧ p3 < gx by have h1 := HSr.out.r3.lt; have h2 := K.n1; have h3 := K.n2; have h4 := K.n3; omega)
      rw [← hgx] at HX ⊢
      have HS3 := Lib.hid (HSr.out.below HK.out)
      have HB3 := Lib.hid (below_then HBr.out HK.out)
      clear hw3 hgx cl0 cl1 cl2 cl3 cl4 cl5 cl6
      have y0 := row_cell HS3.out.box 0 _ rfl
      have x4 := row_cell HX.out 4 _ rfl
      have d4l := HS3.out.r1.cell 4 _ rfl
      have f4l := HS3.out.r1.fro 4
      go_region_law (go_simp; go_at_call 90; refine (cl_str_nil _).mono ?_; rintro e w5 ⟨rfl, rfl⟩)
      all_goals
        go_wp2_with fail
        go_roundw
        case rel => exact ⟨1, hA2, hc2, hAv, hcv, hAi, hci, hAo, hco, hAc, hcc, by omega, by go_num, Lib.hid ((CpS.set1 K HS3.out).below (by first | exact Below.refl _ _ | exact below_drewN' (Below.refl _ _) 1 | exact below_drewN' (Below.refl _ _) _)), Lib.hid (below_then (HB3.out.setCell (p := ⟨p1, 4, none⟩) (by have h1 := K.n1; have h2 := K.n2; have h3 := K.n3; have h4 := HG.out; show w.heap.size ≤ p1; omega) _) (by first | exact Below.refl _ _ | exact below_drewN' (Below.refl _ _) 1 | exact below_drewN' (Below.refl _ _) _))⟩
        case measure => simp [RowKit.intOf]
    · have hge : ¬ ((j : Int) < 1) := by omega
      clear hj h0
      have x41a := row_cell HSr.out.box 1 _ rfl
      go_wp2_with fail
      clear x41a
      go_loopw [41] (fun v wr => ∃ (j : Nat) (A2 : Option Addr) (c2 : Nat) (Av : Option Addr) (cv : Nat) (Ai : Option Addr) (ci : Nat) (Ao : Option Addr) (co : Nat) (Ac : Option Addr) (cc : Nat), j ≤ 2 ∧ v = .int .i64 j ∧ Hid (CpS wr g p1 p2 p3 k1 k2 k3 A2 c2 Av cv Ai ci Ao co Ac cc) ∧ Hid (Below w.heap.size w wr)) (fun v _ => 2 - (RowKit.intOf v).toNat)
      case atStart => exact ⟨0, hA2, hc2, hAv, hcv, hAi, hci, hAo, hco, hAc, hcc, by omega, rfl, HSr, HBr⟩
      case round =>
        obtain ⟨j, iA2, ic2, iAv, icv, iAi, ici, iAo, ico, iAc, icc, hj, rfl, HSr, HBr⟩ := hrel
        by_cases h0 : j = 0
        · subst h0
          have cl0 := HSr.out.r2.cell 0 _ rfl
          have cl1 := HSr.out.r2.cell 1 _ rfl
          have cl2 := HSr.out.r2.cell 2 _ rfl
          have HK := Lib.hid (alrB wr (.cells #[.string ⟨#[97]⟩, .int .i64 0, .slice iA2 1 ic2] 66))
          have HX := Lib.hid (heap_alloc_new wr (.cells #[.string ⟨#[97]⟩, .int .i64 0, .slice iA2 1 ic2] 66))
          go_upto_region 10 with fail
          obtain ⟨w3, hw3⟩ : ∃ y, y = wr.alloc (.cells #[.string ⟨#[97]⟩, .int .i64 0, .slice iA2 1 ic2] 66) := ⟨_, rfl⟩
          obtain ⟨gx, hgx⟩ : ∃ y, y = wr.heap.size := ⟨_, rfl⟩
          rw [← hw3] at HK HX ⊢
          have HGX := Lib.hid (show g + 1 < gx ∧ p3 < gx by have h1 := HSr.out.r3.lt; have h2 := K.n1; have h3 := K.n2; have h4 := K.n3; omega)
          rw [← hgx] at HX ⊢
          have HS3 := Lib.hid (HSr.out.below HK.out)
          have HB3 := Lib.hid (below_then HBr.out HK.out)
          clear hw3 hgx cl0 cl1 cl2
          have y0 := row_cell HS3.out.box 1 _ rfl
          have x2 := row_cell HX.out 2 _ rfl
          obtain ⟨q, o, hq, hqn⟩ := HS3.out.first.ap
          subst hq
          have CB := Lib.hid (fun W (h : Below w3.heap.size w3 W) => cl_bag q o 1 ic2 [.int .i64 0, .int .i64 2] W (Lib.hid (HS3.out.first.below h).sl) (Lib.hid (by intro u hu; simp only [List.mem_cons, List.not_mem_nil, or_false] at hu; rcases hu with rfl | rfl <;> rfl)) (by omega))
          clear hqn
          go_region_law (first
            | (go_simp; go_at_call 91; refine (CB.out _ (by first | exact Below.refl _ _ | exact below_drewN' (Below.refl _ _) 1 | exact below_drewN' (Below.refl _ _) _)).mono ?_; rintro e w5 ⟨v, rfl, hown, hb⟩
               obtain ⟨pn, kn, rfl, hk1, hk1', hp1, hR⟩ := RowX.of_own hown (by omega)
               have R5 := Lib.hid hR
               have P5 := Lib.hid (show gx < pn by have h1 := (Array.getElem?_eq_some_iff.1 HX.out).1; have h2 := hp1; exact Nat.lt_of_lt_of_le h1 h2)
               have K5 := Lib.hid (And.intro hk1 hk1')
               have B5 := Lib.hid (below_then (show Below w3.heap.size w3 _ from (by first | exact Below.refl _ _ | exact below_drewN' (Below.refl _ _) 1 | exact below_drewN' (Below.refl _ _) _)) hb)
               clear hown hb hp1 hR hk1 hk1' y0 x2
               have y0 := row_cell (HS3.out.below B5.out).box 1 _ rfl
               have d2l := (HS3.out.below B5.out).r2.cell 2 _ rfl
               have f2l := (HS3.out.below B5.out).r2.fro 2))
          all_goals
            go_wp2_with fail
            go_roundw
            case rel => exact ⟨1, some ⟨pn, 0, none⟩, kn, iAv, icv, iAi, ici, iAo, ico, iAc, icc, by omega, by go_num, Lib.hid (CpS.set2a K (HS3.out.below B5.out) (ApR.new R5.out K5.out.1 K5.out.2 rfl (by have h1 := HGX.out; have h2 := K.n1; have h3 := K.n2; have h4 := K.n3; have h5 := P5.out; simp only [List.mem_cons, List.not_mem_nil, or_false]; omega)) |>.below (by first | exact Below.refl _ _ | exact below_drewN' (Below.refl _ _) 1 | exact below_drewN' (Below.refl _ _) _)), Lib.hid (below_then ((below_then HB3.out B5.out).setCell (p := ⟨p2, 2, none⟩) (by have h1 := K.n1; have h2 := K.n2; have h3 := K.n3; have h4 := HG.out; show w.heap.size ≤ p2; omega) _) (by first | exact Below.refl _ _ | exact below_drewN' (Below.refl _ _) 1 | exact below_drewN' (Below.refl _ _) _))⟩
            case measure => simp [RowKit.intOf]
        · by_cases h1 : j = 1
          · subst h1
            have cl0 := HSr.out.r2.cell 3 _ rfl
            have cl1 := HSr.out.r2.cell 4 _ rfl
            have cl2 := HSr.out.r2.cell 5 _ rfl
            have HK := Lib.hid (alrB wr (.cells #[.string ⟨#[98]⟩, .int .i64 0, .slice none 0 0] 66))
            have HX := Lib.hid (heap_alloc_new wr (.cells #[.string ⟨#[98]⟩, .int .i64 0, .slice none 0 0] 66))
            go_upto_region 10 with fail
            obtain ⟨w3, hw3⟩ : ∃ y, y = wr.alloc (.cells #[.string ⟨#[98]⟩, .int .i64 0, .slice none 0 0] 66) := ⟨_, rfl⟩
            obtain ⟨gx, hgx⟩ : ∃ y, y = wr.heap.size := ⟨_, rfl⟩
            rw [← hw3] at HK HX ⊢
            have HGX := Lib.hid (show g + 1 < gx ∧ p3 < gx by have h1 := HSr.out.r3.lt; have h2 := K.n1; have h3 := K.n2; have h4 := K.n3; omega)
            rw [← hgx] at HX ⊢
            have HS3 := Lib.hid (HSr.out.below HK.out)
            have HB3 := Lib.hid (below_then HBr.out HK.out)
            clear hw3 hgx cl0 cl1 cl2
            have y0 := row_cell HS3.out.box 1 _ rfl
            have x2 := row_cell HX.out 2 _ rfl
            have d5l := HS3.out.r2.cell 5 _ rfl
            have f5l := HS3.out.r2.fro 5
            go_region_law (go_simp; go_at_call 91; refine (cl_bag_nil _).mono ?_; rintro e w5 ⟨rfl, rfl⟩)
            all_goals
              go_wp2_with fail
              go_roundw
              case rel => exact ⟨2, iA2, ic2, iAv, icv, iAi, ici, iAo, ico, iAc, icc, by omega, by go_num, Lib.hid ((CpS.set2b K HS3.out).below (by first | exact Below.refl _ _ | exact below_drewN' (Below.refl _ _) 1 | exact below_drewN' (Below.refl _ _) _)), Lib.hid (below_then (HB3.out.setCell (p := ⟨p2, 5, none⟩) (by have h1 := K.n1; have h2 := K.n2; have h3 := K.n3; have h4 := HG.out; show w.heap.size ≤ p2; omega) _) (by first | exact Below.refl _ _ | exact below_drewN' (Below.refl _ _) 1 | exact below_drewN' (Below.refl _ _) _))⟩
              case measure => simp [RowKit.intOf]
          · have hge2 : ¬ ((j : Int) < 2) := by omega
            clear hj h0 h1
            have x58a := row_cell HSr.out.box 2 _ rfl
            go_wp2_with fail
            clear x58a
            go_loopw [58] (fun v wr => ∃ (j : Nat) (A2 : Option Addr) (c2 : Nat) (Av : Option Addr) (cv : Nat) (Ai : Option Addr) (ci : Nat) (Ao : Option Addr) (co : Nat) (Ac : Option Addr) (cc : Nat), j ≤ 1 ∧ v = .int .i64 j ∧ Hid (CpS wr g p1 p2 p3 k1 k2 k3 A2 c2 Av cv Ai ci Ao co Ac cc) ∧ Hid (Below w.heap.size w wr)) (fun v _ => 1 - (RowKit.intOf v).toNat)
            case atStart => exact ⟨0, iA2, ic2, iAv, icv, iAi, ici, iAo, ico, iAc, icc, by omega, rfl, HSr, HBr⟩
            case round =>
              obtain ⟨j, jA2, jc2, jAv, jcv, jAi, jci, jAo, jco, jAc, jcc, hj, rfl, HSr, HBr⟩ := hrel
              by_cases h0 : j = 0
              · subst h0
                obtain ⟨qv, ov, hqv, _⟩ := HSr.out.vars.ap
                obtain ⟨qi, oi, hqi, _⟩ := HSr.out.ins.ap
                obtain ⟨qo, oo, hqo, _⟩ := HSr.out.outs.ap
                obtain ⟨qc, oc, hqc, _⟩ := HSr.out.cancel.ap
                subst hqv hqi hqo hqc
                have cl0 := HSr.out.r3.cell 0 _ rfl
                have cl1 := HSr.out.r3.cell 1 _ rfl
                have cl2 := HSr.out.r3.cell 2 _ rfl
                have cl3 := HSr.out.r3.cell 3 _ rfl
                have cl4 := HSr.out.r3.cell 4 _ rfl
                have cl5 := HSr.out.r3.cell 5 _ rfl
                have cl6 := HSr.out.r3.cell 6 _ rfl
                have cl7 := HSr.out.r3.cell 7 _ rfl
                have cl8 := HSr.out.r3.cell 8 _ rfl
                have cl9 := HSr.out.r3.cell 9 _ rfl
                have cl10 := HSr.out.r3.cell 10 _ rfl
                have cl11 := HSr.out.r3.cell 11 _ rfl
                have cl12 := HSr.out.r3.cell 12 _ rfl
                have cl13 := HSr.out.r3.cell 13 _ rfl
                have HK := Lib.hid (alrB wr (.cells #[.string ⟨#[116]⟩, .slice (some ⟨qv, ov, none⟩) 1 jcv, .int .i64 1, .int .i64 1, .slice none 0 0, .int .i64 1, .int .i64 3, .slice (some ⟨qi, oi, none⟩) 1 jci, .slice (some ⟨qo, oo, none⟩) 1 jco, .slice (some ⟨qc, oc, none⟩) 1 jcc, .int .i64 0, .int .i64 0, .int .i64 0, .int .i64 0] 59))
                have HX := Lib.hid (heap_alloc_new wr (.cells #[.string ⟨#[116]⟩, .slice (some ⟨qv, ov, none⟩) 1 jcv, .int .i64 1, .int .i64 1, .slice none 0 0, .int .i64 1, .int .i64 3, .slice (some ⟨qi, oi, none⟩) 1 jci, .slice (some ⟨qo, oo, none⟩) 1 jco, .slice (some ⟨qc, oc, none⟩) 1 jcc, .int .i64 0, .int .i64 0, .int .i64 0, .int .i64 0] 59))
                go_upto_region 15 with fail
                obtain ⟨w3, hw3⟩ : ∃ y, y = wr.alloc (.cells #[.string ⟨#[116]⟩, .slice (some ⟨qv, ov, none⟩) 1 jcv, .int .i64 1, .int .i64 1, .slice none 0 0, .int .i64 1, .int .i64 3, .slice (some ⟨qi, oi, none⟩) 1 jci, .slice (some ⟨qo, oo, none⟩) 1 jco, .slice (some ⟨qc, oc, none⟩) 1 jcc, .int .i64 0, .int .i64 0, .int .i64 0, .int .i64 0] 59) := ⟨_, rfl⟩
                obtain ⟨gx, hgx⟩ : ∃ y, y = wr.heap.size := ⟨_, rfl⟩
                rw [← hw3] at HK HX ⊢
                have HGX := Lib.hid (show g + 1 < gx ∧ p3 < gx by have h1 := HSr.out.r3.lt; have h2 := K.n1; have h3 := K.n2; have h4 := K.n3; omega)
                rw [← hgx] at HX ⊢
                have HGE := Lib.hid hgx.symm
                have HW3 := Lib.hid (show w3.heap.size = gx + 1 by rw [hw3, World.size_alloc, hgx])
                have BT := Lib.hid (Below.refl w3.heap.size w3)
                have CV := Lib.hid (fun W (h : Below w3.heap.size w3 W) => cl_var qv ov 1 jcv [.string ⟨#[120]⟩, .int .i64 0] W (Lib.hid (HSr.out.below (below_then HK.out h)).vars.sl) (Lib.hid (by intro u hu; simp only [List.mem_cons, List.not_mem_nil, or_false] at hu; rcases hu with rfl | rfl <;> rfl)) (by omega))
                have CI := Lib.hid (fun W (h : Below w3.heap.size w3 W) => cl_int qc oc 1 jcc [.int .i64 1] W (Lib.hid (HSr.out.below (below_then HK.out h)).cancel.sl) (Lib.hid (by intro u hu; rw [List.mem_singleton.1 hu]; rfl)) (by omega))
                clear hw3 hgx cl0 cl1 cl2 cl3 cl4 cl5 cl6 cl7 cl8 cl9 cl10 cl11 cl12 cl13
                have xl1 := row_cell HX.out 1 _ rfl
                have xl9 := row_cell HX.out 9 _ rfl
                go_cut [] (fun wx => ∃ rv kv rc kc, Hid (wx.heap[gx]? = some (.cells #[.string ⟨#[116]⟩, .slice (some ⟨rv, 0, none⟩) 1 kv, .int .i64 1, .int .i64 1, .slice none 0 0, .int .i64 1, .int .i64 3, .slice (some ⟨qi, oi, none⟩) 1 jci, .slice (some ⟨qo, oo, none⟩) 1 jco, .slice (some ⟨rc, 0, none⟩) 1 kc, .int .i64 0, .int .i64 0, .int .i64 0, .int .i64 0] 59 (0, 0))) ∧ Hid (RowX wx rv 132 [.string ⟨#[120]⟩, .int .i64 0] ∧ gx < rv ∧ 1 ≤ kv ∧ kv ≤ 9223372036854775807) ∧ Hid (RowX wx rc 3 [.int .i64 1] ∧ gx < rc ∧ 1 ≤ kc ∧ kc ≤ 9223372036854775807) ∧ Hid (Below wr.heap.size wr wx))
                case first =>
                  as_aux_lemma =>
                    go_region_law (first
                      | (go_simp; go_at_call 92; refine (CV.out _ (by first | exact BT.out | exact below_drewN' BT.out 1 | exact below_drewN' BT.out _)).mono ?_; rintro e w4 ⟨v, rfl, hown, hb⟩
                         obtain ⟨rv, kv, rfl, hk1, hk1', hp1, hR⟩ := RowX.of_own hown (by omega)
                         have B4 := Lib.hid (below_then (show Below w3.heap.size w3 _ from (by first | exact BT.out | exact below_drewN' BT.out 1 | exact below_drewN' BT.out _)) hb)
                         have R4 := Lib.hid hR
                         have P4 := Lib.hid (show w3.heap.size ≤ rv from hp1)
                         have K4 := Lib.hid (And.intro hk1 hk1')
                         clear hown hb hp1 hR hk1 hk1' xl1 xl9
                         have xl9 := row_cell (row_below HX.out B4.out) 9 _ rfl)
                      | (go_simp; go_at_call 93; refine (CI.out _ (by exact B4.out)).mono ?_; rintro e w5 ⟨v, rfl, hown, hb⟩
                         obtain ⟨rc, kc, rfl, hk1, hk1', hp1, hR⟩ := RowX.of_own hown (by omega)
                         have B5 := Lib.hid (below_then B4.out hb)
                         have R5 := Lib.hid hR
                         have S5 := Lib.hid (R4.out.below hb)
                         have P5 := Lib.hid (show w3.heap.size ≤ rc from Nat.le_trans B4.out.size hp1)
                         have K5 := Lib.hid (And.intro hk1 hk1')
                         clear hown hb hp1 hR hk1 hk1' xl9
                         have xl1 := row_cell (row_below HX.out B5.out) 1 _ rfl
                         have xl9 := row_cell (row_below HX.out B5.out) 9 _ rfl
                         have fl1 : w5.frozen? ⟨gx, 1, none⟩ = false := by simp [World.frozen?, row_below HX.out B5.out]
                         have fl9 : w5.frozen? ⟨gx, 9, none⟩ = false := by simp [World.frozen?, row_below HX.out B5.out]))
                    all_goals
                      go_wp2_with fail
                      go_meet
                      have e1 := HW3.out
                      have e2 := P4.out
                      have e3 := P5.out
                      have e4 := HGE.out
                      refine ⟨rv, kv, rc, kc, Lib.hid (set_same3 (set_same3 (row_below HX.out B5.out))), Lib.hid ⟨(S5.out.other (by omega)).other (by omega), by omega, K4.out⟩, Lib.hid ⟨(R5.out.other (by omega)).other (by omega), by omega, K5.out⟩, Lib.hid (((below_then HK.out B5.out).setCell (p := ⟨gx, 1, none⟩) (by show wr.heap.size ≤ gx; omega) _).setCell (p := ⟨gx, 9, none⟩) (by show wr.heap.size ≤ gx; omega) _)⟩
                case rest =>
                clear CV CI BT HX xl1 xl9
                obtain ⟨rv, kv, rc, kc, HX, HV, HC, HK2⟩ := hcut
                obtain ⟨wy, hwy⟩ : ∃ y, Hid (y = wc) := ⟨_, Lib.hid rfl⟩
                rw [← hwy.out] at HX HV HC HK2 ⊢
                have HSY := Lib.hid (HSr.out.below HK2.out)
                have HSZ2 := Lib.hid (show gx < wy.heap.size from (Array.getElem?_eq_some_iff.1 HX.out).1)
                have BT := Lib.hid (Below.refl wy.heap.size wy)
                have CA := Lib.hid (fun W (h : Below wy.heap.size wy W) => cp_arcs 0 2 0 qi oi jci W (Lib.hid (HSY.out.below h).ins.sl))
                have CO := Lib.hid (fun W (h : Below wy.heap.size wy W) => cp_arcs 1 2 0 qo oo jco W (Lib.hid (HSY.out.below h).outs.sl))
                have HDIF := Lib.hid (show ∀ W, Below wy.heap.size wy W → RowX W rv 132 [.string ⟨#[120]⟩, .int .i64 0] ∧ RowX W rc 3 [.int .i64 1] from fun W h => ⟨HV.out.1.below h, HC.out.1.below h⟩)
                have xl7 := row_cell HX.out 7 _ rfl
                have xl8 := row_cell HX.out 8 _ rfl
                have xl2 := row_cell HX.out 2 _ rfl
                have xl3 := row_cell HX.out 3 _ rfl
                have xl4 := row_cell HX.out 4 _ rfl
                go_upto_region 16 with fail
                go_cut [] (fun wx => ∃ ri ki ro ko, Hid (wx.heap[gx]? = some (.cells #[.string ⟨#[116]⟩, .slice (some ⟨rv, 0, none⟩) 1 kv, .int .i64 1, .int .i64 1, .slice none 0 0, .int .i64 1, .int .i64 3, .slice (some ⟨ri, 0, none⟩) 1 ki, .slice (some ⟨ro, 0, none⟩) 1 ko, .slice (some ⟨rc, 0, none⟩) 1 kc, .int .i64 0, .int .i64 0, .int .i64 0, .int .i64 0] 59 (0, 0))) ∧ Hid (RowX wx rv 132 [.string ⟨#[120]⟩, .int .i64 0]) ∧ Hid (RowX wx rc 3 [.int .i64 1]) ∧ Hid (RowX wx ri 61 [.int .i64 0, .int .i64 2, .int .i64 0, .slice none 0 0] ∧ gx < ri ∧ 1 ≤ ki ∧ ki ≤ 9223372036854775807) ∧ Hid (RowX wx ro 61 [.int .i64 1, .int .i64 2, .int .i64 0, .slice none 0 0] ∧ gx < ro ∧ 1 ≤ ko ∧ ko ≤ 9223372036854775807) ∧ Hid (Below wr.heap.size wr wx))
                case first =>
                  as_aux_lemma =>
                    go_region_law (first
                      | (go_simp; go_at_call 95; refine (cp_leaf 1 1 _).mono ?_; rintro e w6 ⟨rfl, hb⟩
                         have B6 := Lib.hid (below_then B5.out hb)
                         have R6 := Lib.hid (R4.out.below hb)
                         have S6 := Lib.hid (R5.out.below hb)
                         clear hb xl2 xl3 xl4
                         have xl7 := row_cell (row_below HX.out B6.out) 7 _ rfl
                         have xl8 := row_cell (row_below HX.out B6.out) 8 _ rfl
                         have xl2 := row_cell (row_below HX.out B6.out) 2 _ rfl
                         have xl3 := row_cell (row_below HX.out B6.out) 3 _ rfl
                         have xl4 := row_cell (row_below HX.out B6.out) 4 _ rfl
                         have fl (i : Nat) : w6.frozen? ⟨gx, i, none⟩ = false := by simp [World.frozen?, row_below HX.out B6.out]
                         have fl7 := fl 7
                         have fl8 := fl 8
                         have fl2 := fl 2
                         have fl3 := fl 3
                         have fl4 := fl 4
                         clear fl)
                      | (go_simp; go_at_call_of 94 (Value.slice (some ⟨qo, oo, none⟩) 1 jco); refine (CO.out _ (by exact B4.out)).mono ?_; rintro e w5 ⟨ro, ko, rfl, hk1, hk1', hp1, hR, hb⟩
                         have B5 := Lib.hid (below_then B4.out hb)
                         have R5 := Lib.hid hR
                         have R4 := Lib.hid (R4.out.below hb)
                         have P5 := Lib.hid (show wy.heap.size ≤ ro from Nat.le_trans B4.out.size hp1)
                         have K5 := Lib.hid (And.intro hk1 hk1')
                         clear hb hp1 hR hk1 hk1' xl8 xl2 xl3 xl4
                         have xl2 := row_cell (row_below HX.out B5.out) 2 _ rfl
                         have xl3 := row_cell (row_below HX.out B5.out) 3 _ rfl
                         have xl4 := row_cell (row_below HX.out B5.out) 4 _ rfl)
                      | (go_simp; go_at_call_of 94 (Value.slice (some ⟨qi, oi, none⟩) 1 jci); refine (CA.out _ (by first | exact BT.out | exact below_drewN' BT.out 1 | exact below_drewN' BT.out _)).mono ?_; rintro e w4 ⟨ri, ki, rfl, hk1, hk1', hp1, hR, hb⟩
                         have B4 := Lib.hid (below_then (show Below wy.heap.size wy _ from (by first | exact BT.out | exact below_drewN' BT.out 1 | exact below_drewN' BT.out _)) hb)
                         have R4 := Lib.hid hR
                         have P4 := Lib.hid (show wy.heap.size ≤ ri from hp1)
                         have K4 := Lib.hid (And.intro hk1 hk1')
                         clear hb hp1 hR hk1 hk1' xl7 xl8 xl2 xl3 xl4
                         have xl8 := row_cell (row_below HX.out B4.out) 8 _ rfl
                         have xl2 := row_cell (row_below HX.out B4.out) 2 _ rfl
                         have xl3 := row_cell (row_below HX.out B4.out) 3 _ rfl
                         have xl4 := row_cell (row_below HX.out B4.out) 4 _ rfl))
                    all_goals
                      go_wp2_with fail
                      go_meet
                      exact cp_end16 HGE.out HSZ2.out HV.out.2.1 HC.out.2.1 (row_below HX.out B6.out) (HDIF.out _ B6.out) R6.out S6.out P4.out P5.out K4.out K5.out (below_then HK2.out B6.out)
                case rest =>
                clear CA CO BT HDIF xl7 xl8 xl2 xl3 xl4 HX
                have HKV := Lib.hid HV.out.2
                have HKC := Lib.hid HC.out.2
                clear HV HC HSY HSZ2
                obtain ⟨ri, ki, ro, ko, HX, HV, HC, HI, HO, HK3⟩ := hcut
                obtain ⟨wz, hwz⟩ : ∃ y, Hid (y = wc) := ⟨_, Lib.hid rfl⟩
                rw [← hwz.out] at HX HV HC HI HO HK3 ⊢
                have HSZ := Lib.hid (HSr.out.below HK3.out)
                have xl0 := row_cell HX.out 0 _ rfl
                have dl0 := HSZ.out.r3.cell 0 _ rfl
                have fl0 := HSZ.out.r3.fro 0
                have xl1 := row_cell HX.out 1 _ rfl
                have dl1 := HSZ.out.r3.cell 1 _ rfl
                have fl1 := HSZ.out.r3.fro 1
                have xl2 := row_cell HX.out 2 _ rfl
                have dl2 := HSZ.out.r3.cell 2 _ rfl
                have fl2 := HSZ.out.r3.fro 2
                have xl3 := row_cell HX.out 3 _ rfl
                have dl3 := HSZ.out.r3.cell 3 _ rfl
                have fl3 := HSZ.out.r3.fro 3
                have xl4 := row_cell HX.out 4 _ rfl
                have dl4 := HSZ.out.r3.cell 4 _ rfl
                have fl4 := HSZ.out.r3.fro 4
                have xl5 := row_cell HX.out 5 _ rfl
                have dl5 := HSZ.out.r3.cell 5 _ rfl
                have fl5 := HSZ.out.r3.fro 5
                have xl6 := row_cell HX.out 6 _ rfl
                have dl6 := HSZ.out.r3.cell 6 _ rfl
                have fl6 := HSZ.out.r3.fro 6
                have xl7 := row_cell HX.out 7 _ rfl
                have dl7 := HSZ.out.r3.cell 7 _ rfl
                have fl7 := HSZ.out.r3.fro 7
                have xl8 := row_cell HX.out 8 _ rfl
                have dl8 := HSZ.out.r3.cell 8 _ rfl
                have fl8 := HSZ.out.r3.fro 8
                have xl9 := row_cell HX.out 9 _ rfl
                have dl9 := HSZ.out.r3.cell 9 _ rfl
                have fl9 := HSZ.out.r3.fro 9
                have xl10 := row_cell HX.out 10 _ rfl
                have dl10 := HSZ.out.r3.cell 10 _ rfl
                have fl10 := HSZ.out.r3.fro 10
                have xl11 := row_cell HX.out 11 _ rfl
                have dl11 := HSZ.out.r3.cell 11 _ rfl
                have fl11 := HSZ.out.r3.fro 11
                have xl12 := row_cell HX.out 12 _ rfl
                have dl12 := HSZ.out.r3.cell 12 _ rfl
                have fl12 := HSZ.out.r3.fro 12
                have xl13 := row_cell HX.out 13 _ rfl
                have dl13 := HSZ.out.r3.cell 13 _ rfl
                have fl13 := HSZ.out.r3.fro 13
                have yl := row_cell HSZ.out.box 2 _ rfl
                go_wp2_with fail
                go_roundw
                case rel =>
                  have n1 := K.n1
                  have n2 := K.n2
                  have n3 := K.n3
                  have n4 := HGX.out
                  have e1 := HKV.out
                  have e2 := HKC.out
                  have e3 := HI.out.2
                  have e4 := HO.out.2
                  have e5 := HG.out
                  refine ⟨1, jA2, jc2, some ⟨rv, 0, none⟩, kv, some ⟨ri, 0, none⟩, ki, some ⟨ro, 0, none⟩, ko, some ⟨rc, 0, none⟩, kc, by omega, by go_num, Lib.hid (CpS.set3 K HSZ.out (ApR.new HV.out e1.2.1 e1.2.2 rfl (by simp only [List.mem_cons, List.not_mem_nil, or_false]; omega)) (ApR.new HI.out.1 e3.2.1 e3.2.2 rfl (by simp only [List.mem_cons, List.not_mem_nil, or_false]; omega)) (ApR.new HO.out.1 e4.2.1 e4.2.2 rfl (by simp only [List.mem_cons, List.not_mem_nil, or_false]; omega)) (ApR.new HC.out e2.2.1 e2.2.2 rfl (by simp only [List.mem_cons, List.not_mem_nil, or_false]; omega))), Lib.hid ?_⟩
                  have hb := below_then HBr.out HK3.out
                  exact ((((((((((((((hb.setCell (p := ⟨p3, 0, none⟩) (by show w.heap.size ≤ p3; omega) _).setCell (p := ⟨p3, 1, none⟩) (by show w.heap.size ≤ p3; omega) _).setCell (p := ⟨p3, 2, none⟩) (by show w.heap.size ≤ p3; omega) _).setCell (p := ⟨p3, 3, none⟩) (by show w.heap.size ≤ p3; omega) _).setCell (p := ⟨p3, 4, none⟩) (by show w.heap.size ≤ p3; omega) _).setCell (p := ⟨p3, 5, none⟩) (by show w.heap.size ≤ p3; omega) _).setCell (p := ⟨p3, 6, none⟩) (by show w.heap.size ≤ p3; omega) _).setCell (p := ⟨p3, 7, none⟩) (by show w.heap.size ≤ p3; omega) _).setCell (p := ⟨p3, 8, none⟩) (by show w.heap.size ≤ p3; omega) _).setCell (p := ⟨p3, 9, none⟩) (by show w.heap.size ≤ p3; omega) _).setCell (p := ⟨p3, 10, none⟩) (by show w.heap.size ≤ p3; omega) _).setCell (p := ⟨p3, 11, none⟩) (by show w.heap.size ≤ p3; omega) _).setCell (p := ⟨p3, 12, none⟩) (by show w.heap.size ≤ p3; omega) _).setCell (p := ⟨p3, 13, none⟩) (by show w.heap.size ≤ p3; omega) _)
                case measure => simp [RowKit.intOf]
              · have hge3 : ¬ ((j : Int) < 1) := by omega
                clear hj h0
                have yl0 := row_cell HSr.out.box 0 _ rfl
                have zl0 := row_cell HSr.out.out 0 _ rfl
                have fl0 : wr.frozen? ⟨g + 1, 0, none⟩ = false := by simp [World.frozen?, HSr.out.out]
                have yl1 := row_cell HSr.out.box 1 _ rfl
                have zl1 := row_cell HSr.out.out 1 _ rfl
                have fl1 : wr.frozen? ⟨g + 1, 1, none⟩ = false := by simp [World.frozen?, HSr.out.out]
                have yl2 := row_cell HSr.out.box 2 _ rfl
                have zl2 := row_cell HSr.out.out 2 _ rfl
                have fl2 : wr.frozen? ⟨g + 1, 2, none⟩ = false := by simp [World.frozen?, HSr.out.out]
                have yl3 := row_cell HSr.out.box 3 _ rfl
                have zl3 := row_cell HSr.out.out 3 _ rfl
                have fl3 : wr.frozen? ⟨g + 1, 3, none⟩ = false := by simp [World.frozen?, HSr.out.out]
                have yl4 := row_cell HSr.out.box 4 _ rfl
                have zl4 := row_cell HSr.out.out 4 _ rfl
                have fl4 : wr.frozen? ⟨g + 1, 4, none⟩ = false := by simp [World.frozen?, HSr.out.out]
                go_wp2_with fail
                obtain ⟨qa, qb, qc, qd, qe⟩ := set5_steps zl0 zl1 zl2 zl3 zl4 (.slice (some ⟨p1, 0, none⟩) 1 k1) (.slice (some ⟨p2, 0, none⟩) 2 k2) (.slice (some ⟨p3, 0, none⟩) 1 k3) (.int .i64 0) (.int .i64 1)
                exact bodyPost_ret (v := netV (some ⟨p1, 0, none⟩) 1 k1 (some ⟨p2, 0, none⟩) 2 k2 (some ⟨p3, 0, none⟩) 1 k3 0 1) (by simp [results, Tryz.results41, go_sem, qa, qb, qc, qd, qe]) rfl (cp_fin K HSr.out HBr.out HG.out)
end Go.Proofs.YtkpjhjoopdbkaaaGreatDoor
