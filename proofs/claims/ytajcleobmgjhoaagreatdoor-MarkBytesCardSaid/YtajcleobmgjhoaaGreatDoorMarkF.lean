/- Contracts of package mark: Encode. -/
import Derived.Test.YtajcleobmgjhoaaGreatDoorMarkE
namespace Go.Proofs.YtajcleobmgjhoaaGreatDoor
open Go.RowKit Go.Lib
def encRows (b : Row) : List Int := b.flatMap fun p => be 4 p.1 ++ be 4 p.2
def encBag (b : Row) : List Int := be 2 (b.length : Int) ++ encRows b
def encBags (M : List Row) : List Int := M.flatMap encBag
def encM (M : List Row) : List Int := be 1 (M.length : Int) ++ encBags M
def lastM (b : Row) : Int := if b.length = 0 then -1 else (b.getD (b.length - 1) (0, 0)).1
def encOk1 (b : Row) : Bool := rightB b && decide (lastM b ≤ 4294967295)
def encOk (M : List Row) : Bool := decide (M.length ≤ 64) && M.all encOk1
theorem be_len (s : Nat) (n : Int) : (be s n).length = s := beT_len s n s
theorem encRows_snoc (b : Row) (p : Int × Int) : encRows (b ++ [p]) = encRows b ++ (be 4 p.1 ++ be 4 p.2) := by simp [encRows]
theorem encRows_len : ∀ b : Row, (encRows b).length = b.length * 8
  | [] => rfl
  | p :: r => by
    have := encRows_len r
    unfold encRows at this ⊢
    rw [List.flatMap_cons, List.length_append, this, List.length_append, be_len, be_len, List.length_cons]
    omega
theorem encBags_snoc (M : List Row) (b : Row) : encBags (M ++ [b]) = encBags M ++ encBag b := by simp [encBags]
def EncP (M : List Row) (w : World) (e : Ending) (w' : World) : Prop :=
  Below w.heap.size w w' ∧ ((encOk M = false ∧ e = .returned (.tuple #[.slice none 0 0, .int .i64 1])) ∨
    (encOk M = true ∧ ∃ A c j, e = .returned (.tuple #[.slice A j c, .int .i64 0]) ∧ j = (encM M).length ∧ w'.ownsRow w.heap.size 5 1 (.slice A j c) j (u8Cells (encM M))))
theorem lit1 (w : World) (base : Nat) (x : Int) (hb : base ≤ w.heap.size) : (w.alloc (.cells #[.int .i64 x] 3)).ownsRow base 3 1 (.slice (some ⟨w.heap.size, 0, none⟩) 1 1) 1 (intCells [x]) := World.ownsRow_lit w #[.int .i64 x] 1 hb (by decide) rfl
theorem lit2 (w : World) (base : Nat) (x y : Int) (hb : base ≤ w.heap.size) : (w.alloc (.cells #[.int .i64 x, .int .i64 y] 3)).ownsRow base 3 1 (.slice (some ⟨w.heap.size, 0, none⟩) 2 2) 2 (intCells [x, y]) := World.ownsRow_lit w #[.int .i64 x, .int .i64 y] 2 hb (by decide) rfl
theorem lit2a (w : World) (o : Obj) (base : Nat) (x y : Int) (hb : base ≤ (w.alloc o).heap.size) : ((w.alloc o).alloc (.cells #[.int .i64 x, .int .i64 y] 3)).ownsRow base 3 1 (.slice (some ⟨w.heap.size + 1, 0, none⟩) 2 2) 2 (intCells [x, y]) := by
  have h := lit2 (w.alloc o) base x y hb
  have e : (w.alloc o).heap.size = w.heap.size + 1 := by simp
  rwa [e] at h
theorem beL_1 (s : Nat) (x : Int) : beL s [x] = be s x := by simp [beL]
theorem beL_2 (s : Nat) (x y : Int) : beL s [x, y] = be s x ++ be s y := by simp [beL]
set_option maxRecDepth 100000 in
set_option maxHeartbeats 8000000 in
theorem mark_Encode (A : Option Addr) (n c : Nat) (xs : List Bg) (w : World) (hA : Hid (Mk w A n c xs)) (zA : Hid (∀ b ∈ xs, b.n ≤ 1000)) (hn : n < 100000) :
    Calls Tryz.prog 13 #[.slice A n c] w (EncP (rowsB xs) w) := by
  have lA := Lib.hid (show (rowsB xs).length = n by unfold rowsB; rw [List.length_map]; exact hA.out.len)
  by_cases h64 : 64 < n
  · have hf := Lib.hid (show encOk (rowsB xs) = false by unfold encOk; rw [lA.out, decide_eq_false (by omega)]; rfl)
    go_enter Tryz.func13, Tryz.ntmps13
    go_wp2
    go_ret2
    exact ⟨Below.refl _ _, .inl ⟨hf.out, rfl⟩⟩
  · have HB0 := Lib.hid ((Below.refl w.heap.size w).alloc (Nat.le_refl _) (.cells #[.int .i64 (n : Int)] 3))
    have cP := Lib.hid (mark_put w.heap.size none 0 0 [] 1 _ 1 1 w.heap.size [(n : Int)] _ (Lib.hid (World.ownsRow_nil _ _ _ _)) (Lib.hid (lit1 w w.heap.size (n : Int) (Nat.le_refl _))) (by simp) (by omega) (by omega) (by omega))
    have hall := Lib.hid (show ∀ b ∈ xs, encOk1 b.l = false → encOk (rowsB xs) = false from fun b hb h => by
      unfold encOk
      rw [show (rowsB xs).all encOk1 = false from ?_, Bool.and_false]
      rw [List.all_eq_false]
      exact ⟨b.l, List.mem_map_of_mem hb, by rw [h]; decide⟩)
    go_enter Tryz.func13, Tryz.ntmps13
    go_wp2_with fail
    refine cP.out.mono ?_
    rintro e w1 ⟨B1, d1, j1, rfl, hj1, ho1, hb1, hs1⟩
    have hj1b : j1 = 1 := by rw [hj1]; rfl
    have HO1 := Lib.hid (show w1.ownsRow w.heap.size 5 1 (.slice B1 j1 d1) j1 (u8Cells (be 1 (n : Int))) by rw [List.nil_append, beL_1] at ho1; exact ho1)
    have HB1 := Lib.hid (HB0.out.trans hb1)
    clear hj1 ho1 hb1 hs1 cP
    have hj1c : j1 ≤ 1 := by omega
    have HJ1 := Lib.hid hj1b
    clear hj1b
    go_wp2
    go_loopw [4, 6, 18] (fun o _ v wr => ∃ (k j : Nat) (A' : Option Addr) (c' : Nat), k ≤ n ∧ v = .int .i64 (k : Int) ∧ o = .slice A' j c' ∧ j ≤ 1 + k * 8002 ∧ Hid (j = (be 1 (n : Int) ++ encBags (rowsB (xs.take k))).length) ∧ Hid ((rowsB (xs.take k)).all encOk1 = true) ∧ Hid (wr.ownsRow w.heap.size 5 1 (.slice A' j c') j (u8Cells (be 1 (n : Int) ++ encBags (rowsB (xs.take k))))) ∧ Hid (Below w.heap.size w wr)) (fun _ _ v _ => n - (RowKit.intOf v).toNat)
    case atStart => exact ⟨0, j1, B1, d1, by omega, rfl, rfl, by omega, (by show j1 = _; rw [HJ1.out]; rfl), rfl, (by show World.ownsRow _ _ _ _ _ _ _; simpa [rowsB, encBags] using HO1.out), HB1.out⟩
    case round =>
      obtain ⟨k, j, A', c', hk, rfl, rfl, hj, hjl, hal, ho, hB⟩ := hrel
      by_cases hlt : k < n
      · obtain ⟨q1, o1, g, rfl, e1, e2, e3, _, e4⟩ := hA.out.at_ hlt
        replace e1 := cell_kept hB.out e1
        have hbg := hA.out.bag g e3
        have CS := bag_Right g.A g.n g.c g.l wr (Lib.hid (hbg.below hB.out).sl)
        have hbad := Lib.hid (hall.out g e3)
        have hzg := zA.out g e3
        have hgl := Lib.hid hbg.len
        have HSL := Lib.hid hbg.sl
        have htk := Lib.hid (show rowsB (xs.take (k + 1)) = rowsB (xs.take k) ++ [g.l] by rw [e4]; unfold rowsB; rw [List.map_append]; rfl)
        obtain ⟨gA, gn, gc, gl⟩ := g
        simp only at e1 CS hbad hzg hgl HSL htk
        obtain ⟨R, hR⟩ : ∃ R, R = rightB gl := ⟨_, rfl⟩
        rw [← hR] at CS
        have HR := Lib.hid hR
        have CR := Lib.hid CS
        have hlt2 : (k : Int) < (n : Int) := by omega
        have hk0 : (0 : Int) ≤ (k : Int) := by omega
        clear e2 e3 e4 hbg hR CS
        cases R with
        | false =>
          go_wp2_with fail
          refine CR.out.mono ?_
          rintro e w2 ⟨rfl, hb⟩
          have HB2 := Lib.hid (below_then hB.out hb)
          clear hb
          go_wp2
          go_ret2
          exact ⟨HB2.out, .inl ⟨hbad.out (by unfold encOk1; rw [← HR.out]; rfl), rfl⟩⟩
        | true =>
          go_wp2_with fail
          refine CR.out.mono ?_
          rintro e w2 ⟨rfl, hb⟩
          have HB2 := Lib.hid (below_then hB.out hb)
          have HO2 := Lib.hid (own_below ho.out hb)
          have SL2 := Lib.hid (HSL.out.below HB2.out)
          clear hb ho hB
          have hmain : lastM gl ≤ 4294967295 → Hid (encOk1 gl = true) := fun h => by
            show encOk1 gl = true
            unfold encOk1
            rw [← HR.out, decide_eq_true h]; rfl
          by_cases hg0 : gn = 0
          · subst hg0
            have hlg := Lib.hid (show gl.length = 0 by exact hgl.out)
            have okG := Lib.hid (hmain (by unfold lastM; rw [if_pos hgl.out]; omega)).out
            clear hmain hgl
            obtain ⟨L, hL⟩ : ∃ L, L = be 1 (n : Int) ++ encBags (rowsB (xs.take k)) := ⟨_, rfl⟩
            rw [← hL] at hjl HO2
            have HL := Lib.hid hL
            clear hL
            have HBx := Lib.hid (HB2.out.alloc HB2.out.size (.cells #[.int .i64 (0 : Int)] 3))
            have cP := Lib.hid (mark_put w.heap.size A' j c' L 2 _ 1 1 w.heap.size [(0 : Int)] _ (Lib.hid (HO2.out.alloc (.cells #[.int .i64 (0 : Int)] 3))) (Lib.hid (lit1 w2 w.heap.size (0 : Int) HB2.out.size)) HBx.out.size (by omega) (by omega) (by omega))
            go_wp2_with fail
            refine cP.out.mono ?_
            rintro e w3 ⟨B3, d3, j3, rfl, hj3, ho3, hb3, hs3⟩
            have HJ3 := Lib.hid (show j3 = (L ++ be 2 (0 : Int)).length by rw [List.length_append, be_len]; exact hj3)
            have hj3b : j3 ≤ 1 + k * 8002 + 2 := by rw [hj3, ← hjl.out]; simp; omega
            have HO3 := Lib.hid (show w3.ownsRow w.heap.size 5 1 (.slice B3 j3 d3) j3 (u8Cells (L ++ be 2 (0 : Int))) by rw [beL_1] at ho3; exact ho3)
            have HB3 := Lib.hid (HBx.out.trans hb3)
            clear hj3 ho3 hb3 hs3 cP HBx HO2 HB2 hjl
            go_wp2
            go_loopw [4, 52] (fun o v wr => ∃ (i j : Nat) (A' : Option Addr) (c' : Nat), i ≤ 0 ∧ v = .int .i64 (i : Int) ∧ o = .slice A' j c' ∧ j ≤ 1 + k * 8002 + 2 + i * 8 ∧ Hid (j = (L ++ be 2 (0 : Int) ++ encRows (gl.take i)).length) ∧ Hid (wr.ownsRow w.heap.size 5 1 (.slice A' j c') j (u8Cells (L ++ be 2 (0 : Int) ++ encRows (gl.take i)))) ∧ Hid (Below w.heap.size w wr)) (fun _ v _ => 0 - (RowKit.intOf v).toNat)
            case atStart => exact ⟨0, j3, B3, d3, by omega, rfl, rfl, by omega, (by show j3 = _; simpa [encRows] using HJ3.out), (by show World.ownsRow _ _ _ _ _ _ _; simpa [encRows] using HO3.out), HB3.out⟩
            case round =>
              clear HO3 HB3 HJ3
              obtain ⟨i, j4, A4, c4, hi, rfl, rfl, hj4, hjl4, ho4, hB4⟩ := hrel
              by_cases hli : i < 0
              · exact absurd hli (by omega)
              · have e1 : gl.take i = gl := List.take_of_length_le (by rw [hlg.out]; omega)
                have e2 : L ++ be 2 (0 : Int) ++ encRows gl = be 1 (n : Int) ++ encBags (rowsB (xs.take (k + 1))) := by
                  rw [htk.out, encBags_snoc, HL.out, encBag, hlg.out, List.append_assoc, List.append_assoc] <;> rfl
                have h1 := hjl4.out
                have h2 := ho4.out
                rw [e1, e2] at h1 h2
                have H1 := Lib.hid h1
                have H2 := Lib.hid h2
                have H3 := Lib.hid (show (rowsB (xs.take (k + 1))).all encOk1 = true by rw [htk.out, List.all_append, hal.out]; simp [okG.out])
                clear e1 e2 h1 h2 hjl4 ho4
                go_wp2
                go_roundw
                case rel => exact ⟨k + 1, j4, A4, c4, by omega, by go_num, rfl, by omega, H1.out, H3.out, H2.out, hB4.out⟩
                case measure => simp [RowKit.intOf]; omega
          · obtain ⟨m, hm⟩ : ∃ m, gn = m + 1 := ⟨gn - 1, by omega⟩
            obtain ⟨b6, o6, rfl, c6, _⟩ := SL2.out.pair_at (k := m) (by omega)
            have hmg : (m : Int) < (gn : Int) := by omega
            have hm0 : (0 : Int) ≤ (m : Int) := by omega
            have hgp : (0 : Int) < (gn : Int) := by omega
            have hw1 : IntKind.i64.wrap ((gn : Int) - 1) = (m : Int) := by rw [IntWalk.i64_in _ (by omega)]; omega
            have hw2 : (gn : Int) - 1 = (m : Int) := by omega
            obtain ⟨x, hx⟩ : ∃ x, x = (gl.getD m (0, 0)).1 := ⟨_, rfl⟩
            rw [← hx] at c6
            have hla := Lib.hid (show lastM gl = x by unfold lastM; rw [if_neg (by rw [hgl.out]; omega), hgl.out, hx, hm]; rfl)
            clear hx hm hg0
            by_cases hx9 : 4294967295 < x
            · have hf := Lib.hid (hbad.out (by unfold encOk1; rw [decide_eq_false (by rw [hla.out]; omega), Bool.and_false]))
              go_wp2
              go_ret2
              exact ⟨HB2.out, .inl ⟨hf.out, rfl⟩⟩
            · have hx10 : x ≤ 4294967295 := by omega
              have hlg := Lib.hid (show gl.length = gn by exact hgl.out)
              have okG := Lib.hid (hmain (by rw [hla.out]; exact hx10)).out
              clear hmain hgl
              obtain ⟨L, hL⟩ : ∃ L, L = be 1 (n : Int) ++ encBags (rowsB (xs.take k)) := ⟨_, rfl⟩
              rw [← hL] at hjl HO2
              have HL := Lib.hid hL
              clear hL
              have HBx := Lib.hid (HB2.out.alloc HB2.out.size (.cells #[.int .i64 (gn : Int)] 3))
              have cP := Lib.hid (mark_put w.heap.size A' j c' L 2 _ 1 1 w.heap.size [(gn : Int)] _ (Lib.hid (HO2.out.alloc (.cells #[.int .i64 (gn : Int)] 3))) (Lib.hid (lit1 w2 w.heap.size (gn : Int) HB2.out.size)) HBx.out.size (by omega) (by omega) (by omega))
              go_wp2_with fail
              clear hw1 hw2 hmg hm0 hx9 hx10 c6 hgp
              refine cP.out.mono ?_
              rintro e w3 ⟨B3, d3, j3, rfl, hj3, ho3, hb3, hs3⟩
              have HJ3 := Lib.hid (show j3 = (L ++ be 2 (gn : Int)).length by rw [List.length_append, be_len]; exact hj3)
              have hj3b : j3 ≤ 1 + k * 8002 + 2 := by rw [hj3, ← hjl.out]; simp; omega
              have HO3 := Lib.hid (show w3.ownsRow w.heap.size 5 1 (.slice B3 j3 d3) j3 (u8Cells (L ++ be 2 (gn : Int))) by rw [beL_1] at ho3; exact ho3)
              have HB3 := Lib.hid (HBx.out.trans hb3)
              clear hj3 ho3 hb3 hs3 cP HBx HO2 HB2 hjl
              go_wp2
              go_loopw [4, 52] (fun o v wr => ∃ (i j : Nat) (A' : Option Addr) (c' : Nat), i ≤ gn ∧ v = .int .i64 (i : Int) ∧ o = .slice A' j c' ∧ j ≤ 1 + k * 8002 + 2 + i * 8 ∧ Hid (j = (L ++ be 2 (gn : Int) ++ encRows (gl.take i)).length) ∧ Hid (wr.ownsRow w.heap.size 5 1 (.slice A' j c') j (u8Cells (L ++ be 2 (gn : Int) ++ encRows (gl.take i)))) ∧ Hid (Below w.heap.size w wr)) (fun _ v _ => gn - (RowKit.intOf v).toNat)
              case atStart => exact ⟨0, j3, B3, d3, by omega, rfl, rfl, by omega, (by show j3 = _; simpa [encRows] using HJ3.out), (by show World.ownsRow _ _ _ _ _ _ _; simpa [encRows] using HO3.out), HB3.out⟩
              case round =>
                clear HO3 HB3 HJ3
                obtain ⟨i, j4, A4, c4, hi, rfl, rfl, hj4, hjl4, ho4, hB4⟩ := hrel
                by_cases hli : i < gn
                · obtain ⟨b5, o5, e5, p1, p2⟩ := (HSL.out.below hB4.out).pair_at hli
                  injection e5 with e5; injection e5 with e5 e6; subst e5 e6
                  have hts := Lib.hid (take_snoc (M := gl) (k := i) (by rw [hlg.out]; exact hli))
                  obtain ⟨pp, hpp⟩ : ∃ pp, pp = gl.getD i (0, 0) := ⟨_, rfl⟩
                  rw [← hpp] at p1 p2 hts
                  clear hpp
                  obtain ⟨y1, y2⟩ := pp
                  simp only at p1 p2
                  have hli2 : (i : Int) < (gn : Int) := by omega
                  have hi0 : (0 : Int) ≤ (i : Int) := by omega
                  have HBr := Lib.hid (hB4.out.alloc hB4.out.size (.cells #[.int .i64 y1, .int .i64 y2] 45))
                  have HBy := Lib.hid (HBr.out.alloc HBr.out.size (.cells #[.int .i64 y1, .int .i64 y2] 3))
                  have cP := Lib.hid (mark_put w.heap.size A4 j4 c4 (L ++ be 2 (gn : Int) ++ encRows (gl.take i)) 4 _ 2 2 w.heap.size [y1, y2] _ (Lib.hid ((ho4.out.alloc (.cells #[.int .i64 y1, .int .i64 y2] 45)).alloc (.cells #[.int .i64 y1, .int .i64 y2] 3))) (Lib.hid (lit2a wr (.cells #[.int .i64 y1, .int .i64 y2] 45) w.heap.size y1 y2 HBr.out.size)) HBy.out.size (by omega) (by omega) (by omega))
                  go_wp2_with fail
                  refine cP.out.mono ?_
                  rintro e w5 ⟨B5, d5, j5, rfl, hj5, ho5, hb5, hs5⟩
                  have HJ5 := Lib.hid (show j5 = (L ++ be 2 (gn : Int) ++ encRows (gl.take (i + 1))).length by
                    rw [hj5, hts.out, encRows_snoc]
                    simp only [List.length_append, be_len, List.length_cons, List.length_nil]
                    omega)
                  have hj5b : j5 ≤ 1 + k * 8002 + 2 + (i + 1) * 8 := by rw [hj5, ← hjl4.out]; simp; omega
                  have HO5 := Lib.hid (show w5.ownsRow w.heap.size 5 1 (.slice B5 j5 d5) j5 (u8Cells (L ++ be 2 (gn : Int) ++ encRows (gl.take (i + 1)))) by
                    rw [hts.out, encRows_snoc, ← List.append_assoc, ← beL_2]; exact ho5)
                  have HB5 := Lib.hid (HBy.out.trans hb5)
                  clear hj5 ho5 hb5 hs5 cP HBy HBr p1 p2
                  go_wp2
                  go_roundw
                  case rel => exact ⟨i + 1, j5, B5, d5, by omega, by go_num, rfl, hj5b, HJ5.out, HO5.out, HB5.out⟩
                  case measure => simp [RowKit.intOf]; omega
                · have e1 : gl.take i = gl := List.take_of_length_le (by rw [hlg.out]; omega)
                  have e2 : L ++ be 2 (gn : Int) ++ encRows gl = be 1 (n : Int) ++ encBags (rowsB (xs.take (k + 1))) := by
                    rw [htk.out, encBags_snoc, HL.out, encBag, hlg.out, List.append_assoc, List.append_assoc] <;> rfl
                  have h1 := hjl4.out
                  have h2 := ho4.out
                  rw [e1, e2] at h1 h2
                  have H1 := Lib.hid h1
                  have H2 := Lib.hid h2
                  have H3 := Lib.hid (show (rowsB (xs.take (k + 1))).all encOk1 = true by rw [htk.out, List.all_append, hal.out]; simp [okG.out])
                  clear e1 e2 h1 h2 hjl4 ho4
                  go_wp2
                  go_roundw
                  case rel => exact ⟨k + 1, j4, A4, c4, by omega, by go_num, rfl, by omega, H1.out, H3.out, H2.out, hB4.out⟩
                  case measure => simp [RowKit.intOf]; omega
      · go_wp2
        go_ret2
        have e1 : xs.take k = xs := List.take_of_length_le (by have := hA.out.len; omega)
        have h1 := hjl.out
        have h2 := hal.out
        have h3 := ho.out
        rw [e1] at h1 h2 h3
        refine ⟨hB.out, .inr ⟨by unfold encOk; rw [lA.out, decide_eq_true (by omega), h2]; rfl, A', c', j, rfl, ?_, ?_⟩⟩
        · unfold encM; rw [lA.out]; exact h1
        · unfold encM; rw [lA.out]; exact h3
end Go.Proofs.YtajcleobmgjhoaaGreatDoor
