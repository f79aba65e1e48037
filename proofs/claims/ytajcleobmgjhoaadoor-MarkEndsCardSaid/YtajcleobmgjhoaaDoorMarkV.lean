/- Law MarkEnds: the walk. -/
import Derived.Test.YtajcleobmgjhoaaDoorMarkU
import Derived.Test.YtajcleobmgjhoaaDoorMarkS
import Derived.Test.YtajcleobmgjhoaaDoorMarkT
import Derived.Deep.DeepCutAuto
import Derived.Deep.RegionWith
namespace Go.Proofs.YtajcleobmgjhoaaDoor
open Go.RowKit
section
open _root_.Go.ChangeShapes _root_.Go.WideShapes _root_.Go.ChangeAt _root_.Go.Deep Go.Joins
variable {H : Type} {enc : TypeId × Value → H} {W : World} {base b0 : Nat} {spare : Nat → Bool} {held : Bool} {r : Reach}
theorem slice_of {P : Program} {t e : TypeId} {n : Nat} {v : Value} {y : DataW H × List MemPlace} (ht : P.underlying t = some (.slice e)) (h : DataW.trod enc P W base spare held n t [v] = some y) : ∃ A k c, v = .slice A k c := by
  rcases open_slice ht h with ⟨hcs, _⟩ | ⟨a, len, cap, k, fu, D, Pl, hcs, _⟩
  · injection hcs with h1 _
    exact ⟨_, _, _, h1⟩
  · injection hcs with h1 _
    exact ⟨_, _, _, h1⟩
theorem net_cells5 : Tryd.prog.cellsOf 45 = 5 := by kernel_rfl
theorem cells_41 : Tryd.prog.cellsOf 41 = 1 := by kernel_rfl
theorem cells_42 : Tryd.prog.cellsOf 42 = 1 := by kernel_rfl
theorem cells_43 : Tryd.prog.cellsOf 43 = 1 := by kernel_rfl
theorem cells_3 : Tryd.prog.cellsOf 3 = 1 := by kernel_rfl
set_option maxRecDepth 100000 in
theorem open_net {v : Value} {d : DataW H} {p : List MemPlace} (hv : Value.okWide Tryd.prog W r b0 45 v) (h : DataW.Trod enc Tryd.prog W base spare held 45 v d p) :
    ∃ C cn cc P pn pc T tn tc fr ti, v = netV C cn cc P pn pc T tn tc fr ti ∧ True := by
  obtain ⟨cs, rfl, hsz⟩ := okWide_struct Tryd.underlying45 hv
  obtain ⟨c0, c1, c2, c3, c4, rfl⟩ : ∃ c0 c1 c2 c3 c4, cs = #[c0, c1, c2, c3, c4] := by
    have h5 : cs.size = 5 := hsz.trans net_cells5
    obtain ⟨l⟩ := cs
    match l, h5 with
    | [c0, c1, c2, c3, c4], _ => exact ⟨c0, c1, c2, c3, c4, rfl⟩
  obtain ⟨fuel, hf⟩ := h
  obtain ⟨xs, n, _, _, _, hlen, hx⟩ := DataW.trod_struct Tryd.underlying45 hf
  match xs, hlen with
  | [y0, y1, y2, y3, y4], _ =>
    have h0 : DataW.trod enc Tryd.prog W base spare held n 41 [c0] = some y0 := by
      have := hx 0 _ rfl
      simpa [Value.cells, cells_41] using this
    have h1 : DataW.trod enc Tryd.prog W base spare held n 42 [c1] = some y1 := by
      have := hx 1 _ rfl
      simpa [Value.cells, cells_42] using this
    have h2 : DataW.trod enc Tryd.prog W base spare held n 43 [c2] = some y2 := by
      have := hx 2 _ rfl
      simpa [Value.cells, cells_43] using this
    have h3 : DataW.trod enc Tryd.prog W base spare held n 3 [c3] = some y3 := by
      have := hx 3 _ rfl
      simpa [Value.cells, cells_3] using this
    have h4 : DataW.trod enc Tryd.prog W base spare held n 3 [c4] = some y4 := by
      have := hx 4 _ rfl
      simpa [Value.cells, cells_3] using this
    obtain ⟨C, cn, cc, rfl⟩ := slice_of Tryd.underlying41 h0
    obtain ⟨P, pn, pc, rfl⟩ := slice_of Tryd.underlying42 h1
    obtain ⟨T, tn, tc, rfl⟩ := slice_of Tryd.underlying43 h2
    obtain ⟨fr, hfr, _⟩ := DataW.trod_int Tryd.underlying3 h3
    obtain ⟨ti, hti, _⟩ := DataW.trod_int Tryd.underlying3 h4
    injection hfr with hfr _
    injection hti with hti _
    subst hfr hti
    exact ⟨_, _, _, _, _, _, _, _, _, _, _, rfl, trivial⟩
end
structure EnS (w : World) (C : Option Addr) (cn cc : Nat) (P : Option Addr) (pn pc : Nat) (T : Option Addr) (tn tc : Nat) (fr ti : Int) (A : Option Addr) (n c : Nat) (X : List Bg) (W : World) : Prop where
  bel : Below w.heap.size w W
  mkg : Mk W A n c X
  k0 : W.cell? ⟨w.heap.size, 0, none⟩ = some (.slice C cn cc)
  k1 : W.cell? ⟨w.heap.size, 1, none⟩ = some (.slice P pn pc)
  k2 : W.cell? ⟨w.heap.size, 2, none⟩ = some (.slice T tn tc)
  k3 : W.cell? ⟨w.heap.size, 3, none⟩ = some (.int .i64 fr)
  k4 : W.cell? ⟨w.heap.size, 4, none⟩ = some (.int .i64 ti)
theorem EnS.go {w : World} {C : Option Addr} {cn cc : Nat} {P : Option Addr} {pn pc : Nat} {T : Option Addr} {tn tc : Nat} {fr ti : Int} {A : Option Addr} {n c : Nat} {X : List Bg} {W W' : World} (h : EnS w C cn cc P pn pc T tn tc fr ti A n c X W) (hb : Below W.heap.size W W') : EnS w C cn cc P pn pc T tn tc fr ti A n c X W' :=
  ⟨below_then h.bel hb, h.mkg.below hb, cell_kept hb h.k0, cell_kept hb h.k1, cell_kept hb h.k2, cell_kept hb h.k3, cell_kept hb h.k4⟩
theorem rowsB_set {ys : List Bg} {p : Nat} {b : Bg} (_ : p < ys.length) : rowsB (ys.set p b) = (rowsB ys).set p b.l := by unfold rowsB; rw [List.map_set]
set_option maxRecDepth 100000 in
set_option maxHeartbeats 40000000 in
theorem law_MarkEnds (hT : Hid Text1) (C : Option Addr) (cn cc : Nat) (P : Option Addr) (pn pc : Nat) (T : Option Addr) (tn tc : Nat) (fr ti : Int) (A : Option Addr) (n c : Nat) (X : List Bg) (place member : Int) (w : World) (H : Hid (Mk w A n c X)) (z : Hid (∀ b ∈ X, b.n ≤ 8796093022208)) (hmem : Hid (I64 member)) :
    Calls Tryd.prog 5 #[netV C cn cc P pn pc T tn tc fr ti, .slice A n c, .int .i64 place, .int .i64 member] w fun e w' => e = .returned (.bool true) ∧ Below w.heap.size w w' := by
  have b0 := H.out.sl.bound
  have hb0 := (Below.refl w.heap.size w).alloc (Nat.le_refl _) (.cells #[.slice C cn cc, .slice P pn pc, .slice T tn tc, .int .i64 fr, .int .i64 ti] 45)
  have S := Lib.hid (show EnS w C cn cc P pn pc T tn tc fr ti A n c X (w.alloc (.cells #[.slice C cn cc, .slice P pn pc, .slice T tn tc, .int .i64 fr, .int .i64 ti] 45)) from ⟨hb0, H.out.below hb0, cell_new w _ _ 0 _ rfl, cell_new w _ _ 1 _ rfl, cell_new w _ _ 2 _ rfl, cell_new w _ _ 3 _ rfl, cell_new w _ _ 4 _ rfl⟩)
  clear hb0 H
  go_enter Tryd.func5, Tryd.ntmps5
  go_wp2_with fail
  refine (law09_small' hT _).mono ?_
  rintro e w1 ⟨rfl, hb⟩
  replace S := Lib.hid (S.out.go hb)
  clear hb
  obtain ⟨F1, hF⟩ : ∃ F, F = fewB X := ⟨_, rfl⟩
  have cF := law_Few A n c X w1 (Lib.hid S.out.mkg) z
  rw [← hF] at cF
  have CF := Lib.hid cF
  have HF := Lib.hid hF
  have k1 := S.out.k1
  clear hF cF
  cases F1 with
  | false =>
    go_wp2_with fail
    refine CF.out.mono ?_
    rintro e w' ⟨rfl, rfl⟩
    go_wp2
    go_ret
    exact ⟨rfl, S.out.bel⟩
  | true =>
  have K := Lib.hid (few_ok HF.out.symm)
  have n70 : n ≤ 70 := by have := K.out.1; rw [S.out.mkg.len] at this; exact this
  go_wp2_with fail
  refine CF.out.mono ?_
  rintro e w' ⟨rfl, rfl⟩
  clear CF HF
  by_cases hp70 : 70 < pn
  · have hp2 : (70 : Int) < (pn : Int) := by omega
    go_wp2
    go_ret
    exact ⟨rfl, S.out.bel⟩
  have hp2 : (pn : Int) ≤ 70 := by omega
  have Y := Lib.hid (show ∀ b ∈ X, b.n < 100000 from fun b hb => by have := K.out.2 b hb; omega)
  go_wp2
  clear k1
  go_loopw [11] (fun v wr => ∃ (k : Nat), k ≤ n ∧ v = .int .i64 (k : Int) ∧ Hid (EnS w C cn cc P pn pc T tn tc fr ti A n c X wr) ∧ Hid (∀ b ∈ X.take k, rightB b.l = true)) (fun v _ => n - (RowKit.intOf v).toNat)
  case atStart => exact ⟨0, by omega, rfl, S.out, fun b hb => by simp at hb⟩
  case round =>
    clear S
    obtain ⟨k, hk, rfl, S, hz⟩ := hrel
    by_cases hlt : k < n
    · obtain ⟨b1, o1, g, e0, e1, _, e3, _, e4⟩ := S.out.mkg.at_ hlt
      have cR := bag_Right g.A g.n g.c g.l wr (Lib.hid (S.out.mkg.bag g e3).sl)
      obtain ⟨R, hR⟩ : ∃ R, R = rightB g.l := ⟨_, rfl⟩
      rw [← hR] at cR
      have hst := Lib.hid (show R = true → ∀ b ∈ X.take (k + 1), rightB b.l = true from fun h b hb => by
        rw [e4] at hb
        rcases List.mem_append.1 hb with hb | hb
        · exact hz.out b hb
        · rw [List.mem_singleton] at hb
          subst hb
          rw [← hR]; exact h)
      obtain ⟨gA, gn, gc, gl⟩ := g
      simp only at e1 cR
      have CR := Lib.hid cR
      have hlt2 : (k : Int) < (n : Int) := by omega
      have hk0 : (0 : Int) ≤ (k : Int) := by omega
      subst e0
      clear e3 e4 hR cR
      cases R with
      | false =>
        go_wp2_with fail
        refine CR.out.mono ?_
        rintro e w2 ⟨rfl, hb⟩
        have S2 := Lib.hid (S.out.go hb)
        clear hb
        go_wp2
        go_ret
        exact ⟨rfl, S2.out.bel⟩
      | true =>
        go_wp2_with fail
        refine CR.out.mono ?_
        rintro e w2 ⟨rfl, hb⟩
        have S2 := Lib.hid (S.out.go hb)
        clear hb
        go_wp2
        go_roundw
        case rel => exact ⟨k + 1, by omega, by go_num, S2.out, hst.out (by first | rfl | trivial)⟩
        case measure => simp [RowKit.intOf]; omega
    · have O := Lib.hid (show OkL (rowsB X) from okl_of (by
        have h := hz.out
        rw [List.take_of_length_le (by have := S.out.mkg.len; omega)] at h
        exact h))
      have hge : (n : Int) ≤ (k : Int) := by omega
      clear hz hlt
      obtain ⟨W1, hWW⟩ : ∃ W, W = wr := ⟨_, rfl⟩
      rw [← hWW] at S ⊢
      clear hWW
      have k0 := S.out.k0
      have k1 := S.out.k1
      have k2 := S.out.k2
      have k3 := S.out.k3
      have k4 := S.out.k4
      obtain ⟨fi, hfi⟩ : ∃ f, f = finalB pn ti (rowsB X) := ⟨_, rfl⟩
      have HFI := Lib.hid hfi
      go_wp2_with fail
      have cX := mark_Final C cn cc P pn pc T tn tc fr ti A n c X _ (Lib.hid S.out.mkg) Y
      rw [← hfi] at cX
      refine cX.mono ?_
      rintro e w3 ⟨rfl, hb⟩
      replace S := Lib.hid (S.out.go hb)
      clear hb cX hfi k0 k1 k2 k3 k4 hge hk
      cases fi with
      | false =>
        go_wp2
        go_ret
        exact ⟨rfl, S.out.bel⟩
      | true =>
      obtain ⟨f1, f2, f3, f4, f5, f6⟩ := final_facts HFI.out.symm
      have G1 := Lib.hid f1
      have G2 := Lib.hid f2
      clear f1 f2 f3 f4 f5 f6
      have k0 := S.out.k0
      have k1 := S.out.k1
      have k2 := S.out.k2
      have k3 := S.out.k3
      have k4 := S.out.k4
      go_wp2_with fail
      have cX := mark_Ended C cn cc P pn pc T tn tc fr ti A n c X _ (Lib.hid S.out.mkg) Y
      rw [G1.out] at cX
      refine cX.mono ?_
      rintro e w4 ⟨rfl, hb⟩
      replace S := Lib.hid (S.out.go hb)
      clear hb cX k0 k1 k2 k3 k4
      go_wp2_with fail
      have cX := mark_Total A n c X _ (Lib.hid S.out.mkg) Y (by omega)
      rw [G2.out] at cX
      refine cX.mono ?_
      rintro e w5 ⟨rfl, hb⟩
      replace S := Lib.hid (S.out.go hb)
      clear hb cX
      by_cases hp0 : place < 0
      · go_wp2
        go_ret
        exact ⟨rfl, S.out.bel⟩
      by_cases hpn : (n : Int) ≤ place
      · go_wp2
        go_ret
        exact ⟨rfl, S.out.bel⟩
      by_cases hm0 : member < 0
      · go_wp2
        go_ret
        exact ⟨rfl, S.out.bel⟩
      obtain ⟨p, rfl⟩ : ∃ p : Nat, place = (p : Int) := ⟨place.toNat, by omega⟩
      have hpn2 : (p : Int) < (n : Int) := by omega
      have hpn3 : p < n := by omega
      have hp00 : (0 : Int) ≤ (p : Int) := by omega
      have hm1 : 0 ≤ member := by omega
      clear hp0 hpn hm0
      go_wp2_with fail
      refine (mark_Copy A n c X _ (Lib.hid S.out.mkg) Y (by omega)).mono ?_
      rintro e w6 ⟨B, d, ys, rfl, ho, hys, hry, hyz, hb⟩
      have S6 := Lib.hid (S.out.go hb)
      have hM6 : Mk w6 B n d ys := ⟨Sl.of_own ho, hys⟩
      have O6 := Lib.hid ho
      have RY := Lib.hid hry
      have YZ := Lib.hid hyz
      have YS := Lib.hid hys
      have sz5 := hb.size
      have HBC := Lib.hid hb
      clear hb hry hyz hys
      obtain ⟨b1, o1, g, e0, e1, _, e3, e5, _⟩ := hM6.at_ hpn3
      have hyl : ys.length = n := hM6.len
      have hgr : rowsB ys = rowsB X := RY.out
      have hpl : p < (rowsB X).length := by rw [← hgr]; unfold rowsB; rw [List.length_map]; omega
      have hgl : (rowsB X)[p] = g.l := by
        have h1 : (rowsB ys)[p]? = some g.l := by unfold rowsB; rw [List.getElem?_map, e5]; rfl
        rw [hgr, List.getElem?_eq_getElem hpl] at h1
        exact Option.some.inj h1
      have hgo : Ok g.l := by rw [← hgl]; exact O.out _ (List.getElem_mem hpl)
      have hgn := YZ.out g e3
      have hg300 : g.l.length ≤ 300 := by
        have h1 : g.l ∈ rowsB X := by rw [← hgl]; exact List.getElem_mem hpl
        obtain ⟨b, hb, hbe⟩ := List.mem_map.1 h1
        have h2 := (S.out.mkg.bag b hb).len
        have h3 := K.out.2 b hb
        rw [← hbe]; omega
      have hbg := YS.out g e3
      have hgi := hbg.wf
      subst e0
      obtain ⟨q, cap, e9⟩ := Joins.ownsRow_form ho (by omega)
      injection e9 with e9 _ e8
      injection e9 with e9
      injection e9 with e9 e10
      subst e9 e10 e8
      have e1z : w6.cell? ⟨b1, p, none⟩ = some (.slice g.A g.n g.c) := by rwa [Nat.zero_add] at e1
      obtain ⟨fu, hfu⟩ : ∃ f, f = fullB g.l [(member, 1)] := ⟨_, rfl⟩
      have hbl : b1 < w6.heap.size := World.block_lt_of_cell? w6 _ e1z
      have qA := (cell_kept ((Below.refl w6.heap.size w6).alloc (Nat.le_refl _) (.cells #[.int .i64 member] 3)) e1z)
      have hbgs := Lib.hid hbg.sl
      have HGO := Lib.hid hgo
      have HGI := Lib.hid hgi
      have HFU := Lib.hid hfu
      have HGL := Lib.hid hgl
      have HYL := Lib.hid hyl
      have E1 := Lib.hid e1z
      have HGR := Lib.hid (row_one hm1)
      have I1 := Lib.hid (i64s_one member 1 hmem.out ⟨by omega, by omega⟩)
      have IM := Lib.hid (show ∀ x ∈ [member], I64 x from fun x hx => by rw [List.mem_singleton] at hx; subst hx; exact hmem.out)
      clear ho hM6 e1 e3 e5 hyl hgr hgl hgo hbg hgi hfu
      obtain ⟨gA, gn, gc, gl⟩ := g
      simp only at hgn hg300 hbgs HGO HGI HFU HGL E1 e1z qA
      have cO : ∀ (V : World) (a : Nat), Hid (Sl V (.slice (some ⟨a, 0, none⟩) 1 1) 1 1 (intCells [member]) → Calls Tryd.prog 19 #[.slice (some ⟨a, 0, none⟩) 1 1] V fun e w' => ∃ B d, e = .returned (.slice B 1 d) ∧ Sl w' (.slice B 1 d) 1 2 (pairCells [(member, 1)]) ∧ Below V.heap.size V w') := fun V a h => by
        refine (callOf [(member, 1)] _ 1 1 [member] h IM.out (by omega) HGR.out).mono ?_
        rintro e w' ⟨v, rfl, B, d, rfl, h1, h2⟩
        exact ⟨B, d, rfl, h1, h2⟩
      go_wp2
      go_cut [14, 15] (fun v e wx => Hid (Below w6.heap.size w6 wx) ∧ ((fu = true ∧ v = .slice none 0 0 ∧ e = .int .i64 2) ∨ (fu = false ∧ e = .int .i64 0 ∧ ∃ B k d, v = .slice B k d ∧ Hid (∃ M, More gl M member ∧ Sl wx (.slice B k d) k 2 (pairCells M) ∧ I64s M ∧ k = M.length ∧ k ≤ gl.length + 1))))
      case first =>
        cases fu with
        | true =>
          go_region_with (first
            | (go_at_call 19; refine ((cO _ _).out (by exact Sl.new _ _ [Value.int .i64 member] 1 1 rfl (by omega))).mono ?_; rintro e w7 ⟨B7, d7, rfl, s7, hb7⟩; have hB7 : Below w6.heap.size w6 w7 := below_then (by first | exact (below_drewN' (Below.refl _ w6) _).alloc (by simp) _ | exact below_drewN' ((Below.refl _ w6).alloc (Nat.le_refl _) _) _) hb7; have q7 := cell_kept hB7 e1z; have HB7 := Lib.hid hB7; have S7 := Lib.hid s7; have G7 := Lib.hid (hbgs.out.below hB7); clear hb7 hB7 s7)
            | (go_at_call 18; refine (gotFull G7.out HGI.out S7.out I1.out (by omega) (by omega) HGO.out (ok_one hm1) HFU.out.symm).mono ?_; rintro e w8 ⟨rfl, hb8⟩; have HB8 := Lib.hid (below_then HB7.out hb8); clear hb8))
          all_goals
            clear qA q7
            go_wp2_with fail
            go_meet
            exact ⟨HB8.out, .inl ⟨by first | rfl | trivial, by first | rfl | trivial, by first | rfl | trivial⟩⟩
        | false =>
          go_region_with (first
            | (go_at_call 19; refine ((cO _ _).out (by exact Sl.new _ _ [Value.int .i64 member] 1 1 rfl (by omega))).mono ?_; rintro e w7 ⟨B7, d7, rfl, s7, hb7⟩; have hB7 : Below w6.heap.size w6 w7 := below_then (by first | exact (below_drewN' (Below.refl _ w6) _).alloc (by simp) _ | exact below_drewN' ((Below.refl _ w6).alloc (Nat.le_refl _) _) _) hb7; have q7 := cell_kept hB7 e1z; have HB7 := Lib.hid hB7; have S7 := Lib.hid s7; have G7 := Lib.hid (hbgs.out.below hB7); clear hb7 hB7 s7)
            | (go_at_call 18; refine (gotSum G7.out HGI.out S7.out I1.out (by omega) (by omega) HGO.out (ok_one hm1) HFU.out.symm).mono ?_; rintro e w8 ⟨B8, d8, M8, k8, rfl, hk8, hk9, hr8, hi8, hs8, hb8⟩; have HB8 := Lib.hid (below_then HB7.out hb8); have HM8 := Lib.hid (show ∃ M, More gl M member ∧ Sl w8 (.slice B8 k8 d8) k8 2 (pairCells M) ∧ I64s M ∧ k8 = M.length ∧ k8 ≤ gl.length + 1 from ⟨M8, more_of HGO.out hm1 HFU.out.symm hr8, hs8, hi8, hk8, hk9⟩); clear hb8 hk8 hk9 hr8 hi8 hs8))
          all_goals
            clear qA q7
            go_wp2_with fail
            go_meet
            exact ⟨HB8.out, .inr ⟨by first | rfl | trivial, by first | rfl | trivial, _, _, _, rfl, HM8.out⟩⟩
      case rest =>
        obtain ⟨HB, ⟨rfl, rfl, rfl⟩ | ⟨rfl, rfl, B8, k8, d8, rfl, HM⟩⟩ := hcut
        · have S9 := Lib.hid (S6.out.go HB.out)
          clear qA
          go_wp2
          go_ret
          exact ⟨rfl, S9.out.bel⟩
        · obtain ⟨M, hM, hs, hi, hk8, hk9⟩ := HM.out
          have OC := own_below O6.out HB.out
          have hcc := cell_kept HB.out e1z
          have hfz : wc.frozen? ⟨b1, p, none⟩ = false := OC.frozenAt p
          have hb1 := (OC.lt b1 rfl).1
          have hbc := (HBC.out.trans (HB.out.mono HBC.out.size)).setCell (p := ⟨b1, p, none⟩) hb1 (.slice B8 k8 d8)
          have S9 := Lib.hid (S.out.go hbc)
          have hmk : Mk (wc.setCell ⟨b1, p, none⟩ (.slice B8 k8 d8)) (some ⟨b1, 0, none⟩) n d (ys.set p ⟨B8, k8, d8, M⟩) := by
            refine ⟨?_, fun b hb => ?_⟩
            · have h1 := Sl.of_own (OC.stored p (.slice B8 k8 d8)).1
              rw [show (ys.set p ⟨B8, k8, d8, M⟩).map Bg.val = (ys.map Bg.val).set p (.slice B8 k8 d8) by rw [List.map_set]]
              exact h1
            · rcases List.mem_or_eq_of_mem_set hb with hb | rfl
              · exact ((YS.out b hb).below HB.out).set hcc _
              · exact BgOk.set (b := (⟨B8, k8, d8, M⟩ : Bg)) ⟨hs, hi⟩ hcc _
          have MK9 := Lib.hid hmk
          have hrs : rowsB (ys.set p ⟨B8, k8, d8, M⟩) = (rowsB X).set p M := by rw [rowsB_set (by rw [HYL.out]; exact hpn3), RY.out]
          have RS := Lib.hid hrs
          have ZS := Lib.hid (show ∀ b ∈ ys.set p ⟨B8, k8, d8, M⟩, b.n < 100000 from fun b hb => by
            rcases List.mem_or_eq_of_mem_set hb with hb | rfl
            · exact YZ.out b hb
            · show k8 < 100000; omega)
          have hM2 : More ((rowsB X)[p]'hpl) M member := by rw [HGL.out]; exact hM
          have mf := more_final HFI.out.symm hpl hM2
          have MF1 := Lib.hid mf.1
          have MF2 := Lib.hid mf.2
          have MW := Lib.hid (show allF withR (rowsB X) ((rowsB X).set p M) = true from allF_set (rowsB X) p M hpl (fun r hr => (withR_iff (O.out r hr) (O.out r hr)).2 fun k => Int.le_refl _) hM2.le)
          have MC := Lib.hid (fun (z : Int) (h : MCmp ((rowsB X).set p M) (rowsB X) z) => MCmp.set_one hpl O.out hM2 h)
          clear hM hs hi hk8 hk9 OC hb1 hbc hmk hrs hM2 mf qA HM
          obtain ⟨w9, hw9⟩ : ∃ W, W = wc.setCell ⟨b1, p, none⟩ (.slice B8 k8 d8) := ⟨_, rfl⟩
          rw [← hw9] at S9 MK9
          have k0 := S9.out.k0
          have k1 := S9.out.k1
          have k2 := S9.out.k2
          have k3 := S9.out.k3
          have k4 := S9.out.k4
          rw [hw9] at k0 k1 k2 k3 k4
          have HW9 := Lib.hid hw9
          clear hw9
          go_wp2_with fail
          rw [← HW9.out]
          have cX := mark_Final C cn cc P pn pc T tn tc fr ti (some ⟨b1, 0, none⟩) n d (ys.set p ⟨B8, k8, d8, M⟩) w9 MK9 ZS
          rw [RS.out, MF1.out] at cX
          refine cX.mono ?_
          rintro e w10 ⟨rfl, hb⟩
          replace S9 := Lib.hid (S9.out.go hb)
          replace MK9 := Lib.hid (MK9.out.below hb)
          clear hb cX k0 k1 k2 k3 k4
          have k0 := S9.out.k0
          have k1 := S9.out.k1
          have k2 := S9.out.k2
          have k3 := S9.out.k3
          have k4 := S9.out.k4
          go_wp2_with fail
          have cX := mark_Ended C cn cc P pn pc T tn tc fr ti (some ⟨b1, 0, none⟩) n d (ys.set p ⟨B8, k8, d8, M⟩) w10 MK9 ZS
          rw [RS.out, MF2.out] at cX
          refine cX.mono ?_
          rintro e w11 ⟨rfl, hb⟩
          replace S9 := Lib.hid (S9.out.go hb)
          replace MK9 := Lib.hid (MK9.out.below hb)
          clear hb cX k0 k1 k2 k3 k4
          go_wp2_with fail
          have cX := mark_Within A n c X (some ⟨b1, 0, none⟩) n d (ys.set p ⟨B8, k8, d8, M⟩) w11 (Lib.hid S9.out.mkg) MK9 Y ZS
          rw [RS.out, MW.out] at cX
          refine cX.mono ?_
          rintro e w12 ⟨rfl, hb⟩
          replace S9 := Lib.hid (S9.out.go hb)
          replace MK9 := Lib.hid (MK9.out.below hb)
          clear hb cX
          go_wp2_with fail
          have cX := mark_Compare (some ⟨b1, 0, none⟩) n d (ys.set p ⟨B8, k8, d8, M⟩) A n c X w12 MK9 (Lib.hid S9.out.mkg) ZS Y
          rw [RS.out] at cX
          refine cX.mono ?_
          rintro e w13 ⟨⟨zz, rfl, hzz⟩, hb⟩
          obtain rfl := MC.out zz hzz
          replace S9 := Lib.hid (S9.out.go hb)
          clear hb cX hzz
          go_wp2
          go_ret
          exact ⟨rfl, S9.out.bel⟩
end Go.Proofs.YtajcleobmgjhoaaDoor
