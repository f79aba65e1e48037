/- Law ExprFree: the walk. Printed by gen_law_free.py. -/
import Derived.Test.YtmfdiclbenmfbaaDoorExprFa
namespace Go.Proofs.YtmfdiclbenmfbaaDoor
open Go.RowKit
set_option maxRecDepth 100000 in
set_option maxHeartbeats 8000000 in
theorem law_ExprFree (t : Tr) (A : Option Addr) (m c : Nat) (EA : Option Addr) (en ec : Nat) (env : List Int) (k v : Int) (hv : I64 v) (w : World) (h : Hid (TrAt w A m c t)) (he : Hid (EnvAt w EA en ec env)) (htab : Hid (∀ W, Below w.heap.size w W → TabT W)) :
    Calls Tryd.prog 6 #[t.val A m c, .slice EA en ec, .int .i64 k, .int .i64 v] w fun e w' => e = .returned (.bool true) ∧ Below w.heap.size w w' := by
  have al0 := al1 w (.cells #[.int .i64 t.kind, .int .i64 t.num, .slice A m c] 24)
  have hz0 : (w.alloc (.cells #[.int .i64 t.kind, .int .i64 t.num, .slice A m c] 24)).heap.size = w.heap.size + 1 := by rw [World.size_alloc]
  have k00 := cell_new w #[.int .i64 t.kind, .int .i64 t.num, .slice A m c] 24 0 _ rfl
  have k01 := cell_new w #[.int .i64 t.kind, .int .i64 t.num, .slice A m c] 24 1 _ rfl
  have k02 := cell_new w #[.int .i64 t.kind, .int .i64 t.num, .slice A m c] 24 2 _ rfl
  obtain ⟨w1, hw1⟩ : ∃ w1, w1 = (w.alloc (.cells #[.int .i64 t.kind, .int .i64 t.num, .slice A m c] 24)) := ⟨_, rfl⟩
  obtain ⟨g, hg⟩ : ∃ g, g = w.heap.size := ⟨_, rfl⟩
  have HW1 := Lib.hid hw1
  have HG := Lib.hid hg
  rw [← hw1] at al0 k00 k01 k02
  rw [← hg] at k00 k01 k02
  have HB1 := Lib.hid al0
  have HE := Lib.hid (show ∀ W, Below w1.heap.size w1 W → W.cell? ⟨g, 0, none⟩ = some (.int .i64 t.kind) ∧ W.cell? ⟨g, 1, none⟩ = some (.int .i64 t.num) ∧ W.cell? ⟨g, 2, none⟩ = some (.slice A m c) from fun W h => ⟨cell_kept h k00, cell_kept h k01, cell_kept h k02⟩)
  clear al0 hz0 hw1 hg
  have RFL := Lib.hid (Below.refl w1.heap.size w1)
  have HT := Lib.hid (fun W (hb : Below w1.heap.size w1 W) => Lib.hid (h.out.kept (below_then HB1.out hb)))
  have HV := Lib.hid (fun W (hb : Below w1.heap.size w1 W) => Lib.hid (he.out.kept (below_then HB1.out hb)))
  have hel := he.out.len
  by_cases hf : 0 < fewT t 60
  case neg =>
    have df := decide_eq_false hf
    clear hf
    go_enter Tryd.func6, Tryd.ntmps6
    go_upto_region 1 with fail
    rw [← HG.out, ← HW1.out]
    go_wp2_with fail
    refine (law_small w1 (Lib.hid (fun W h => htab.out W (below_then HB1.out h)))).mono ?_
    rintro e u1 ⟨rfl, hb⟩
    have HU1 := Lib.hid (below_then RFL.out hb)
    clear hb
    clear k00 k01 k02
    obtain ⟨k00, k01, k02⟩ := HE.out _ HU1.out
    go_wp2_with fail
    refine (law_Few t A m c u1 (HT.out _ HU1.out)).mono ?_
    rintro e u2 ⟨rfl, hb⟩
    have HU2 := Lib.hid (below_then HU1.out hb)
    clear hb
    clear k00 k01 k02
    obtain ⟨k00, k01, k02⟩ := HE.out _ HU2.out
    go_wp2_with fail
    go_ret
    exact ⟨rfl, below_then HB1.out HU2.out⟩
  have hs := few_sz hf
  have df := decide_eq_true hf
  by_cases hn : en ≤ 16
  case neg =>
    have dn : (16 : Int) < (en : Int) := by omega
    clear hn hf
    go_enter Tryd.func6, Tryd.ntmps6
    go_upto_region 1 with fail
    rw [← HG.out, ← HW1.out]
    go_wp2_with fail
    refine (law_small w1 (Lib.hid (fun W h => htab.out W (below_then HB1.out h)))).mono ?_
    rintro e u1 ⟨rfl, hb⟩
    have HU1 := Lib.hid (below_then RFL.out hb)
    clear hb
    clear k00 k01 k02
    obtain ⟨k00, k01, k02⟩ := HE.out _ HU1.out
    go_wp2_with fail
    refine (law_Few t A m c u1 (HT.out _ HU1.out)).mono ?_
    rintro e u2 ⟨rfl, hb⟩
    have HU2 := Lib.hid (below_then HU1.out hb)
    clear hb
    clear k00 k01 k02
    obtain ⟨k00, k01, k02⟩ := HE.out _ HU2.out
    go_wp2_with fail
    go_ret
    exact ⟨rfl, below_then HB1.out HU2.out⟩
  have dn : (en : Int) ≤ 16 := by omega
  by_cases hk0 : 0 ≤ k
  case neg =>
    have dk : k < 0 := by omega
    clear hn hf hk0
    go_enter Tryd.func6, Tryd.ntmps6
    go_upto_region 1 with fail
    rw [← HG.out, ← HW1.out]
    go_wp2_with fail
    refine (law_small w1 (Lib.hid (fun W h => htab.out W (below_then HB1.out h)))).mono ?_
    rintro e u1 ⟨rfl, hb⟩
    have HU1 := Lib.hid (below_then RFL.out hb)
    clear hb
    clear k00 k01 k02
    obtain ⟨k00, k01, k02⟩ := HE.out _ HU1.out
    go_wp2_with fail
    refine (law_Few t A m c u1 (HT.out _ HU1.out)).mono ?_
    rintro e u2 ⟨rfl, hb⟩
    have HU2 := Lib.hid (below_then HU1.out hb)
    clear hb
    clear k00 k01 k02
    obtain ⟨k00, k01, k02⟩ := HE.out _ HU2.out
    go_wp2_with fail
    go_ret
    exact ⟨rfl, below_then HB1.out HU2.out⟩
  have dk : decide (k < 0) = false := decide_eq_false (by omega)
  by_cases hk1 : k < (en : Int)
  case neg =>
    have dk2 : (en : Int) ≤ k := by omega
    clear hn hf hk0 hk1
    go_enter Tryd.func6, Tryd.ntmps6
    go_upto_region 1 with fail
    rw [← HG.out, ← HW1.out]
    go_wp2_with fail
    refine (law_small w1 (Lib.hid (fun W h => htab.out W (below_then HB1.out h)))).mono ?_
    rintro e u1 ⟨rfl, hb⟩
    have HU1 := Lib.hid (below_then RFL.out hb)
    clear hb
    clear k00 k01 k02
    obtain ⟨k00, k01, k02⟩ := HE.out _ HU1.out
    go_wp2_with fail
    refine (law_Few t A m c u1 (HT.out _ HU1.out)).mono ?_
    rintro e u2 ⟨rfl, hb⟩
    have HU2 := Lib.hid (below_then HU1.out hb)
    clear hb
    clear k00 k01 k02
    obtain ⟨k00, k01, k02⟩ := HE.out _ HU2.out
    go_wp2_with fail
    go_ret
    exact ⟨rfl, below_then HB1.out HU2.out⟩
  have dk2 : decide ((en : Int) ≤ k) = false := decide_eq_false (by omega)
  obtain ⟨j, rfl⟩ : ∃ j : Nat, k = (j : Int) := ⟨k.toNat, by omega⟩
  have hjn : j < en := by omega
  have hjl : (j : Int) < (en : Int) := by omega
  have hj0 : (0 : Int) ≤ (j : Int) := by omega
  obtain ⟨L1, L2⟩ := free_law env j v t
  obtain ⟨P1, hP1⟩ : ∃ P, P = evalV env t := ⟨_, rfl⟩
  obtain ⟨P2, hP2⟩ : ∃ P, P = evalV (env.set j v) t := ⟨_, rfl⟩
  obtain ⟨P3, hP3⟩ : ∃ P, P = evalV (env ++ [v]) t := ⟨_, rfl⟩
  rw [← hP1, ← hP2] at L1
  rw [← hP1, ← hP3] at L2
  have HL1 := Lib.hid L1
  have HL2 := Lib.hid L2
  have hok2 : ∀ x ∈ env.set j v, I64 x := by
    intro x hx
    rcases List.mem_or_eq_of_mem_set hx with h1 | h1
    · exact he.out.ok x h1
    · rw [h1]; exact hv
  have hok3 : ∀ x ∈ env ++ [v], I64 x := by
    intro x hx
    rcases List.mem_append.1 hx with h1 | h1
    · exact he.out.ok x h1
    · rw [List.mem_singleton.1 h1]; exact hv
  have C1 := Lib.hid (fun W (hb : Below w1.heap.size w1 W) => (show Calls Tryd.prog 22 #[t.val A m c, .slice EA en ec] W (EvP W P1) by rw [hP1]; exact ex_Eval env t A m c W EA en ec (HT.out _ hb) (HV.out _ hb) hs))
  have C2 := Lib.hid (fun W A' c' (hb : Below w1.heap.size w1 W) (hS : Sl W (.slice A' en c') en 1 (intCells (env.set j v))) => (show Calls Tryd.prog 22 #[t.val A m c, .slice A' en c'] W (EvP W P2) by rw [hP2]; exact ex_Eval (env.set j v) t A m c W A' en c' (HT.out _ hb) (Lib.hid ⟨hS, hok2⟩) hs))
  have C3 := Lib.hid (fun W A' c' (hb : Below w1.heap.size w1 W) (hS : Sl W (.slice A' (en + 1) c') (en + 1) 1 (intCells (env ++ [v]))) => (show Calls Tryd.prog 22 #[t.val A m c, .slice A' (en + 1) c'] W (EvP W P3) by rw [hP3]; exact ex_Eval (env ++ [v]) t A m c W A' (en + 1) c' (HT.out _ hb) (Lib.hid ⟨hS, hok3⟩) hs))
  have CV := Lib.hid (fun W (hb : Below w1.heap.size w1 W) => ex_Vars t.sz t (Nat.le_refl _) A m c W (HT.out _ hb) hs)
  have HHV := Lib.hid (has_vars j t)
  have HON := Lib.hid (int_one env)
  have HO1 := Lib.hid (int_one [v])
  have HEL := Lib.hid hel
  obtain ⟨n1, a1⟩ := P1
  obtain ⟨n2, a2⟩ := P2
  obtain ⟨n3, a3⟩ := P3
  have hvl := varsT_len t
  clear hn hf hk0 hk1 L1 L2 hP1 hP2 hP3 hel hok2 hok3
  go_enter Tryd.func6, Tryd.ntmps6
  go_upto_region 1 with fail
  rw [← HG.out, ← HW1.out]
  go_wp2_with fail
  refine (law_small w1 (Lib.hid (fun W h => htab.out W (below_then HB1.out h)))).mono ?_
  rintro e u1 ⟨rfl, hb⟩
  have HU1 := Lib.hid (below_then RFL.out hb)
  clear hb
  clear k00 k01 k02
  obtain ⟨k00, k01, k02⟩ := HE.out _ HU1.out
  go_wp2_with fail
  refine (law_Few t A m c u1 (HT.out _ HU1.out)).mono ?_
  rintro e u2 ⟨rfl, hb⟩
  have HU2 := Lib.hid (below_then HU1.out hb)
  clear hb
  clear k00 k01 k02
  obtain ⟨k00, k01, k02⟩ := HE.out _ HU2.out
  have oM := Lib.hid (World.ownsRow_made u2 (base := w1.heap.size) (e := 3) (size := 1) #[] 0 HU2.out.size (by decide) rfl)
  have sM := Lib.hid ((HV.out _ HU2.out).out.kept (al1 u2 (.cells #[] 3))).sl
  have bM := Lib.hid (Nat.le_trans HU2.out.size (al1 u2 (.cells #[] 3)).size)
  go_upto_region 6 with (at_builtin; refine wpList_append_sl ints_ty rfl (.tmp 43) (.tmp 44) rfl w1.heap.size rfl (by exact oM.out) rfl (by exact sM.out) HON.out (by omega) (by omega) bM.out ?_; intro v4 w4 hown4 hg4 hat4; rw [Nat.zero_add, List.nil_append] at hown4; have HB4 := Lib.hid (below_grown (below_then HU2.out (al1 u2 (.cells #[] 3))) hg4 oM.out (Nat.le_refl _) bM.out); obtain ⟨g4, c4, rfl, hg4b, hcells, hset⟩ := own_open hown4 (by omega); have HCL := Lib.hid hcells; have HST := Lib.hid hset; have HG4 := Lib.hid hg4b; clear hown4 hg4 hat4 hcells hset hg4b)
  obtain ⟨kc, kf⟩ := HCL.out j hjn
  go_upto_region 7 with fail
  have HB5 := Lib.hid (HB4.out.setCell (p := ⟨g4, j, none⟩) HG4.out (.int .i64 v))
  have HS5 := Lib.hid (HST.out j hjn v)
  obtain ⟨w5, hw5⟩ : ∃ w5, w5 = w4.setCell ⟨g4, j, none⟩ (.int .i64 v) := ⟨_, rfl⟩
  rw [← hw5] at HB5 HS5 ⊢
  clear hw5 kc kf
  clear k00 k01 k02
  obtain ⟨k00, k01, k02⟩ := HE.out _ HB5.out
  go_wp2_with fail
  refine (C1.out w5 HB5.out).mono ?_
  rintro e w6 ⟨rfl, hb⟩
  have HB6 := Lib.hid (below_then HB5.out hb)
  have HS6 := Lib.hid (HS5.out.below hb)
  clear hb
  clear k00 k01 k02
  obtain ⟨k00, k01, k02⟩ := HE.out _ HB6.out
  go_wp2_with fail
  refine (C2.out w6 _ c4 HB6.out HS6.out).mono ?_
  rintro e w7 ⟨rfl, hb⟩
  have HB7 := Lib.hid (below_then HB6.out hb)
  clear hb
  clear k00 k01 k02
  obtain ⟨k00, k01, k02⟩ := HE.out _ HB7.out
  go_wp2_with fail
  refine (CV.out w7 HB7.out).mono ?_
  rintro e w8 ⟨A8, c8, rfl, hS8, hb⟩
  have HB8 := Lib.hid (below_then HB7.out hb.out)
  clear hb
  clear k00 k01 k02
  obtain ⟨L, hL⟩ : ∃ L, L = varsT t := ⟨_, rfl⟩
  rw [← hL] at hS8 hvl HHV ⊢
  obtain ⟨len, hlen⟩ : ∃ len, len = L.length := ⟨_, rfl⟩
  rw [← hlen] at hS8 hvl ⊢
  have HLEN := Lib.hid hlen
  clear hL hlen
  go_wp2_with fail
  go_loopw [16, 18] (fun v16 v18 wr => ∃ (i : Nat) (b : Bool), i ≤ len ∧ v18 = .int .i64 (i : Int) ∧ v16 = .bool b ∧ Hid (b = decide ((j : Int) ∈ L.take i)) ∧ Hid (wr = w8)) (fun _ v18 _ => len - (intOf v18).toNat)
  case atStart => exact ⟨0, false, by omega, rfl, rfl, Lib.hid (by simp), Lib.hid rfl⟩
  case round =>
    obtain ⟨i, b, hi, rfl, rfl, hbb, hw⟩ := hrel
    have hw2 := hw.out
    subst hw2
    by_cases hlt : i < len
    · obtain ⟨b8, o8, rfl, hc8⟩ := hS8.out.int_at hlt
      have htk : L.take (i + 1) = L.take i ++ [L.getD i 0] := by rw [List.take_add_one, List.getD, List.getElem?_eq_getElem (by rw [← HLEN.out]; exact hlt)]; rfl
      obtain ⟨y, hy⟩ : ∃ y, y = L.getD i 0 := ⟨_, rfl⟩
      rw [← hy] at hc8 htk
      have HTK := Lib.hid htk
      have hlt2 : (i : Int) < (len : Int) := by omega
      have hi0 : (0 : Int) ≤ (i : Int) := by omega
      clear htk hy
      cases b with
      | true =>
        have hb1 : true = decide ((j : Int) ∈ L.take (i + 1)) := by
          have := hbb.out
          rw [HTK.out]
          simp only [List.mem_append]
          simp at this
          simp [this]
        have HBB1 := Lib.hid hb1
        clear hb1
        go_wp2_with fail
        go_roundw
        case rel => exact ⟨i + 1, true, by omega, by go_num, rfl, HBB1, trivial⟩
        case measure => simp [intOf]; omega
      | false =>
        by_cases hyj : y = (j : Int)
        · have by_ : (y == (j : Int)) = true := by simpa using hyj
          have hb1 : true = decide ((j : Int) ∈ L.take (i + 1)) := by
            rw [HTK.out, hyj]; simp
          have HBB1 := Lib.hid hb1
          clear hb1 hyj
          go_wp2_with fail
          go_roundw
          case rel => exact ⟨i + 1, true, by omega, by go_num, rfl, HBB1, trivial⟩
          case measure => simp [intOf]; omega
        · have by_ : (y == (j : Int)) = false := by simpa using hyj
          have hb1 : false = decide ((j : Int) ∈ L.take (i + 1)) := by
            have := hbb.out
            rw [HTK.out]
            simp only [List.mem_append, List.mem_singleton]
            simp at this
            simp [this, Ne.symm hyj]
          have HBB1 := Lib.hid hb1
          clear hb1 hyj
          go_wp2_with fail
          go_roundw
          case rel => exact ⟨i + 1, false, by omega, by go_num, rfl, HBB1, trivial⟩
          case measure => simp [intOf]; omega
    · have hil : i = len := by omega
      subst hil
      have e1 : L.take i = L := List.take_of_length_le (by rw [← HLEN.out]; exact Nat.le_refl _)
      have hbv := hbb.out
      rw [e1, HHV.out] at hbv
      rw [← hbv] at HL1
      have HBV := Lib.hid hbv
      clear e1 hbv hbb
      have oN := Lib.hid (World.ownsRow_made wr (base := w1.heap.size) (e := 3) (size := 1) #[] 0 HB8.out.size (by decide) rfl)
      have sN := Lib.hid ((HV.out _ HB8.out).out.kept (al1 wr (.cells #[] 3))).sl
      have bN := Lib.hid (Nat.le_trans HB8.out.size (al1 wr (.cells #[] 3)).size)
      have CK := Lib.hid HL2.out
      go_wp2_with (first
        | (at_builtin; refine wpList_append_sl ints_ty rfl (.tmp 79) (.tmp 80) rfl w1.heap.size rfl (by exact oN.out) rfl (by exact sN.out) HON.out (by omega) (by omega) bN.out ?_; intro v9 w9 hown9 hg9 hat9; rw [Nat.zero_add, List.nil_append] at hown9
           have HO9 := Lib.hid (own_below hown9 (al1 w9 (.cells #[.int .i64 v] 3)))
           have HB9 := Lib.hid (bl_alloc (below_grown (below_then HB8.out (al1 wr (.cells #[] 3))) hg9 oN.out (Nat.le_refl _) bN.out) (.cells #[.int .i64 v] 3))
           have HS9 := Lib.hid (Sl.new w9 3 [.int .i64 v] 1 1 rfl (by omega))
           have HZ9 := Lib.hid HB9.out.size
           clear hown9 hg9 hat9)
        | (at_builtin; refine wpList_append_sl ints_ty rfl (.tmp 81) (.tmp 83) rfl w1.heap.size rfl (by exact HO9.out) rfl (by exact HS9.out) HO1.out (by omega) (by omega) HZ9.out ?_; intro v10 w10 hown10 hg10 hat10
           have HB10 := Lib.hid (below_grown HB9.out hg10 HO9.out (Nat.le_refl _) HZ9.out)
           obtain ⟨A10, c10, rfl, _, _⟩ := own_form hown10
           have HS10 := Lib.hid (Sl.of_own hown10)
           obtain ⟨k00, k01, k02⟩ := HE.out _ HB10.out
           clear hown10 hg10 hat10))
      have hS10 : Sl w10 (.slice A10 (en + 1) c10) (en + 1) 1 (intCells (env ++ [v])) := by
        rw [intCells, List.map_append]; exact HS10.out
      refine (C3.out w10 A10 c10 HB10.out hS10).mono ?_
      rintro e w11 ⟨rfl, hb⟩
      have HB11 := Lib.hid (below_then HB10.out hb)
      clear hb
      rcases HL2.out with hE2 | hE2
      · have hE3 : a1 = 1 := hE2
        subst hE3
        clear hE2
        rcases HL1.out with rfl | hE1
        · clear HL1 HL2 CK
          go_wp2_with fail
          all_goals
            go_ret
            exact ⟨by first | rfl | simp_all, below_then HB1.out HB11.out⟩
        · obtain ⟨rfl, rfl⟩ := Prod.mk.inj hE1
          clear hE1 HL1 HL2 CK
          cases b
          all_goals
            go_wp2_with fail
            all_goals
              go_ret
              exact ⟨by first | rfl | simp_all, below_then HB1.out HB11.out⟩
      · obtain ⟨rfl, rfl⟩ := Prod.mk.inj hE2
        clear hE2
        rcases HL1.out with rfl | hE1
        · clear HL1 HL2 CK
          go_wp2_with fail
          all_goals
            go_ret
            exact ⟨by first | rfl | simp_all, below_then HB1.out HB11.out⟩
        · obtain ⟨rfl, rfl⟩ := Prod.mk.inj hE1
          clear hE1 HL1 HL2 CK
          cases b
          all_goals
            go_wp2_with fail
            all_goals
              go_ret
              exact ⟨by first | rfl | simp_all, below_then HB1.out HB11.out⟩
end Go.Proofs.YtmfdiclbenmfbaaDoor
