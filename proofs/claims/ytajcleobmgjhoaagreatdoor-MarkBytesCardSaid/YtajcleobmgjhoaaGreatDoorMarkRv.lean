/- The document's answer of layer 09: Encode. -/
import Derived.Test.YtajcleobmgjhoaaGreatDoorMarkRu
import Derived.Test.YtajcleobmgjhoaaGreatDoorBagW
import Derived.Deep.RegionHeld3
import Derived.Deep.AppendLies
namespace Go.Proofs.YtajcleobmgjhoaaGreatDoor
open Go.RowKit Go.Lib
theorem srt_last {b : Row} (h : Srt b) {k : Nat} (hk : k < b.length) : (b.getD k (0, 0)).1 ≤ lastM b := by
  unfold lastM
  rw [if_neg (by omega)]
  rw [List.getD, List.getD, List.getElem?_eq_getElem hk, List.getElem?_eq_getElem (by omega)]
  by_cases e : k = b.length - 1
  · subst e; exact Int.le_refl _
  · have := List.pairwise_iff_getElem.1 h k (b.length - 1) hk (by omega) (by omega)
    show (b[k]).1 ≤ _
    exact Int.le_of_lt this
theorem encOk1_bad {b : Row} (h : rightB b = true) {k : Nat} (hk : k < b.length) (hx : 4294967295 < (b.getD k (0, 0)).1) : encOk1 b = false := by
  have := srt_last ((rightB_iff b).1 h).1 hk
  unfold encOk1
  rw [decide_eq_false (by omega), Bool.and_false]
theorem encOk1_good {b : Row} (h : rightB b = true) (hx : ∀ p ∈ b, p.1 ≤ 4294967295) : encOk1 b = true := by
  unfold encOk1
  rw [h, decide_eq_true, Bool.and_self]
  unfold lastM
  split
  · omega
  · rw [List.getD, List.getElem?_eq_getElem (by omega)]
    exact hx _ (List.getElem_mem _)
theorem getD_mem {b : Row} {k : Nat} (hk : k < b.length) : b.getD k (0, 0) ∈ b := by
  rw [List.getD, List.getElem?_eq_getElem hk]
  exact List.getElem_mem _
theorem be1 (x : Int) : be 1 x = [x % 256] := by
  have e : be 1 x = [byt x 0] := by
    unfold be beT
    rw [show List.range 1 = [0] from rfl]
    rfl
  rw [e, byt_0]
set_option maxRecDepth 100000 in
set_option maxHeartbeats 8000000 in
theorem ref09_Encode (A : Option Addr) (n c : Nat) (xs : List Bg) (w : World) (hA : Hid (Mk w A n c xs)) (zA : Hid (∀ b ∈ xs, b.n ≤ 1000)) (hn : n < 100000) :
    Calls Tryz.prog 14 #[.slice A n c] w (EncP (rowsB xs) w) := by
  have lA := Lib.hid (show (rowsB xs).length = n by unfold rowsB; rw [List.length_map]; exact hA.out.len)
  by_cases h64 : 64 < n
  · have hf := Lib.hid (show encOk (rowsB xs) = false by unfold encOk; rw [lA.out, decide_eq_false (by omega)]; rfl)
    have h64' : (64 : Int) < (n : Int) := by omega
    go_enter Tryz.func14, Tryz.ntmps14
    go_wp2
    go_ret2
    exact ⟨Below.refl _ _, .inl ⟨hf.out, rfl⟩⟩
  · have h64' : (n : Int) ≤ 64 := by omega
    have HO1 := Lib.hid (show (w.alloc (.cells #[.int .u8 (n : Int)] 5)).ownsRow w.heap.size 5 1 (.slice (some ⟨w.heap.size, 0, none⟩) 1 1) 1 (u8Cells (be 1 (n : Int))) by rw [be1, show (n : Int) % 256 = (n : Int) by omega]; exact World.ownsRow_lit w #[.int .u8 (n : Int)] 1 (Nat.le_refl _) (by decide) rfl)
    have HB1 := Lib.hid ((Below.refl w.heap.size w).alloc (Nat.le_refl _) (.cells #[.int .u8 (n : Int)] 5))
    have hall := Lib.hid (show ∀ b ∈ xs, encOk1 b.l = false → encOk (rowsB xs) = false from fun b hb h => by
      unfold encOk
      rw [show (rowsB xs).all encOk1 = false from ?_, Bool.and_false]
      rw [List.all_eq_false]
      exact ⟨b.l, List.mem_map_of_mem hb, by rw [h]; decide⟩)
    go_enter Tryz.func14, Tryz.ntmps14
    go_wp2
    go_loopw [4, 5, 6, 7] (fun o v _ _ wr => ∃ (k j : Nat) (A' : Option Addr) (c' : Nat), k ≤ n ∧ v = .int .i64 (k : Int) ∧ o = .slice A' j c' ∧ j ≤ 1 + k * 8002 ∧ Hid (j = (be 1 (n : Int) ++ encBags (rowsB (xs.take k))).length) ∧ Hid ((rowsB (xs.take k)).all encOk1 = true) ∧ Hid (wr.ownsRow w.heap.size 5 1 (.slice A' j c') j (u8Cells (be 1 (n : Int) ++ encBags (rowsB (xs.take k))))) ∧ Hid (Below w.heap.size w wr)) (fun _ v _ _ _ => n - (RowKit.intOf v).toNat)
    case atStart => exact ⟨0, 1, _, 1, by omega, rfl, rfl, by omega, (by show 1 = _; simp [rowsB, encBags, be_len]), rfl, (by show World.ownsRow _ _ _ _ _ _ _; simpa [rowsB, encBags] using HO1.out), HB1.out⟩
    case round =>
      clear HO1 HB1
      obtain ⟨k, j, A', c', hk, rfl, rfl, hj, hjl, hal, ho, hB⟩ := hrel
      by_cases hlt : k < n
      · obtain ⟨q1, o1, g, rfl, e0, e2, e3, _, e4⟩ := hA.out.at_ hlt
        have e1 := cell_kept hB.out e0
        have hbg := hA.out.bag g e3
        have CS := ref_Right g.A g.n g.c g.l wr (Lib.hid (hbg.below hB.out).sl)
        have hbad := Lib.hid (hall.out g e3)
        have hzg := zA.out g e3
        have hgl := Lib.hid hbg.len
        have HSL := Lib.hid hbg.sl
        have htk := Lib.hid (show rowsB (xs.take (k + 1)) = rowsB (xs.take k) ++ [g.l] by rw [e4]; unfold rowsB; rw [List.map_append]; rfl)
        obtain ⟨gA, gn, gc, gl⟩ := g
        simp only at e0 e1 CS hbad hzg hgl HSL htk
        have E0 := Lib.hid e0
        obtain ⟨R, hR⟩ : ∃ R, R = rightB gl := ⟨_, rfl⟩
        rw [← hR] at CS
        have HR := Lib.hid hR
        have CR := Lib.hid CS
        have hlt2 : (k : Int) < (n : Int) := by omega
        have hk0 : (0 : Int) ≤ (k : Int) := by omega
        have h655 : (gn : Int) ≤ 65535 := by omega
        clear e2 e3 e4 hbg hR CS e0
        go_wp2_with fail
        refine CR.out.mono ?_
        rintro e w2 ⟨rfl, hq⟩
        have hb : Below wr.heap.size wr w2 := by
          obtain ⟨q, h⟩ := hq
          rw [h]
          exact below_drewN' (Below.refl _ _) q
        have HB2 := Lib.hid (below_then hB.out hb)
        have HO2 := Lib.hid (own_below ho.out hb)
        have e12 := cell_kept HB2.out E0.out
        clear hq hb CR e1 ho hB
        cases R with
        | false =>
          go_wp2
          go_ret2
          exact ⟨HB2.out, .inl ⟨hbad.out (by unfold encOk1; rw [← HR.out]; rfl), rfl⟩⟩
        | true =>
          have okG := Lib.hid ((rightB_iff gl).1 HR.out.symm)
          obtain ⟨L, hL⟩ : ∃ L, L = be 1 (n : Int) ++ encBags (rowsB (xs.take k)) := ⟨_, rfl⟩
          rw [← hL] at hjl HO2
          have HL := Lib.hid hL
          have t1 := tdiv_nn (x := (gn : Int)) (by omega) 256
          have hw1 := Lib.hid (show IntKind.u8.wrap (IntKind.i64.wrap ((gn : Int) / 256)) = (gn : Int) / 256 % 256 by rw [IntWalk.i64_in _ (by omega)]; rfl)
          have hw2 := Lib.hid (show IntKind.u8.wrap (gn : Int) = (gn : Int) % 256 from rfl)
          have hone := Lib.hid (u8_one [IntKind.u8.wrap (IntKind.i64.wrap ((gn : Int) / 256)), IntKind.u8.wrap (gn : Int)])
          have HBa := Lib.hid (show Below w.heap.size w ((w2.alloc (.cells #[.int .u8 (IntKind.u8.wrap (IntKind.i64.wrap ((gn : Int) / 256))), .int .u8 (IntKind.u8.wrap (gn : Int))] 5)).drew) from below_drewN' (HB2.out.alloc HB2.out.size _) 1)
          have HBd := Lib.hid (show Below w.heap.size w w2.drew from below_drewN' HB2.out 1)
          have hsz2 := HB2.out.size
          clear hL
          go_wp2
          go_region_held3 (fun W => W.cell? ⟨q1, o1 + k, none⟩ = some (.slice gA gn gc)) (first | exact cell_kept HB4.out E0.out | exact cell_kept HBa.out E0.out | exact cell_kept HBd.out E0.out)
            ((refine step_append_sl u8s_ty rfl (.tmp 36) (.tmp 50) rfl w.heap.size rfl (by exact own_drew (HO2.out.alloc _)) rfl (by exact Sl.new _ _ [Value.int .u8 (IntKind.u8.wrap (IntKind.i64.wrap ((gn : Int) / 256))), Value.int .u8 (IntKind.u8.wrap (gn : Int))] 2 1 rfl (by omega)) hone.out (by omega) (by omega) (by simp; omega) ?_; intro v4 w4 hown4 hg4 hat4; obtain ⟨A4, c4, rfl, _, _⟩ := own_form hown4; have HO4 := Lib.hid hown4; have HB4 := Lib.hid (HBa.out.grown hg4 (by simp; omega) (fun q hq => (HO2.out.lt q hq).1)); clear hown4 hg4 hat4))
          have HJ3 := Lib.hid (show j + 2 = (L ++ be 2 (gn : Int)).length by rw [List.length_append, be_len, ← hjl.out])
          have HO3 := Lib.hid (show w4.ownsRow w.heap.size 5 1 (.slice A4 (j + 2) c4) (j + 2) (u8Cells (L ++ be 2 (gn : Int))) by rw [be2, u8Cells_app, ← hw1.out, ← hw2.out]; exact HO4.out)
          clear HO4 HBa HBd HO2 HB2 e12 hone t1 hw1 hw2
          go_wp2
          go_loopw [4, 7] (fun o v wr => ∃ (i j' : Nat) (A' : Option Addr) (c' : Nat), i ≤ gn ∧ v = .int .i64 (i : Int) ∧ o = .slice A' j' c' ∧ j' ≤ 1 + k * 8002 + 2 + i * 8 ∧ Hid (j' = (L ++ be 2 (gn : Int) ++ encRows (gl.take i)).length) ∧ Hid (wr.ownsRow w.heap.size 5 1 (.slice A' j' c') j' (u8Cells (L ++ be 2 (gn : Int) ++ encRows (gl.take i)))) ∧ Hid (∀ p ∈ gl.take i, p.1 ≤ 4294967295) ∧ Hid (Below w.heap.size w wr)) (fun _ v _ => gn - (RowKit.intOf v).toNat)
          case atStart => exact ⟨0, j + 2, A4, c4, by omega, rfl, rfl, by omega, (by show j + 2 = _; simpa [encRows] using HJ3.out), (by show World.ownsRow _ _ _ _ _ _ _; simpa [encRows] using HO3.out), (fun p hp => by cases hp), HB4.out⟩
          case round =>
            clear HO3 HB4 HJ3
            obtain ⟨i, j4, A4, c4, hi, rfl, rfl, hj4, hjl4, ho4, hle, hB4⟩ := hrel
            have e15 := cell_kept hB4.out E0.out
            by_cases hli : i < gn
            · have hil := Lib.hid (show i < gl.length by rw [hgl.out]; exact hli)
              obtain ⟨b5, o5, rfl, p1, p2⟩ := HSL.out.pair_at hli
              have hts := Lib.hid (take_snoc (M := gl) (k := i) hil.out)
              have hpo := Lib.hid (okG.out.2 _ (getD_mem hil.out))
              have hbx := Lib.hid (fun h => hbad.out (encOk1_bad HR.out.symm hil.out h))
              obtain ⟨pp, hpp⟩ : ∃ pp, pp = gl.getD i (0, 0) := ⟨_, rfl⟩
              rw [← hpp] at p1 p2 hts hpo hbx
              clear hpp
              obtain ⟨y1, y2⟩ := pp
              simp only at p1 p2 hpo hbx
              have P1 := Lib.hid p1
              have P2 := Lib.hid p2
              have p1r := cell_kept hB4.out p1
              have p2r := cell_kept hB4.out p2
              have hy1 : 0 ≤ y1 := hpo.out.1
              have hy2 : 1 ≤ y2 := hpo.out.2.1
              have hy3 : y2 ≤ 1048576 := hpo.out.2.2
              have hli2 : (i : Int) < (gn : Int) := by omega
              have hi0 : (0 : Int) ≤ (i : Int) := by omega
              clear p1 p2
              by_cases hx9 : 4294967295 < y1
              · have hf := Lib.hid (hbx.out hx9)
                go_wp2
                go_ret2
                exact ⟨hB4.out, .inl ⟨hf.out, rfl⟩⟩
              · have hx10 : y1 ≤ 4294967295 := by omega
                have HBd := Lib.hid (show Below w.heap.size w wr.drew from below_drewN' hB4.out 1)
                have KS := Lib.hid (show ∀ W, Below w.heap.size w W → W.cell? ⟨q1, o1 + k, none⟩ = some (.slice (some ⟨b5, o5, none⟩) gn gc) ∧ W.cell? ⟨b5, o5 + i * 2, none⟩ = some (.int .i64 y1) ∧ W.cell? ⟨b5, o5 + i * 2 + 1, none⟩ = some (.int .i64 y2) from fun W h => ⟨cell_kept h E0.out, cell_kept h P1.out, cell_kept h P2.out⟩)
                have C1 := Lib.hid (ref_four w.heap.size A4 j4 c4 (L ++ be 2 (gn : Int) ++ encRows (gl.take i)) y1 wr.drew (Lib.hid (own_drew ho4.out)) HBd.out.size hy1 (by omega) (by omega))
                go_wp2
                go_region_held3 (fun W => W.cell? ⟨q1, o1 + k, none⟩ = some (.slice (some ⟨b5, o5, none⟩) gn gc) ∧ W.cell? ⟨b5, o5 + i * 2, none⟩ = some (.int .i64 y1) ∧ W.cell? ⟨b5, o5 + i * 2 + 1, none⟩ = some (.int .i64 y2)) (first | exact KS.out _ HB6.out | exact KS.out _ HB5.out | exact KS.out _ HBd.out)
                  (first
                    | (go_at_call_of 37 (Value.slice A4 j4 c4); refine C1.out.mono ?_; rintro e w5 ⟨A5, c5, rfl, ho5, hb5, hs5⟩; have HO5 := Lib.hid ho5; have HB5 := Lib.hid (HBd.out.trans hb5); clear ho5 hb5 hs5)
                    | (go_at_call 37; refine (ref_four w.heap.size A5 (j4 + 4) c5 _ y2 _ HO5 HB5.out.size (by omega) (by omega) (by omega)).mono ?_; rintro e w6 ⟨A6, c6, rfl, ho6, hb6, hs6⟩; have HO6 := Lib.hid ho6; have HB6 := Lib.hid (HB5.out.trans hb6); clear ho6 hb6 hs6))
                all_goals
                  have HJ6 := Lib.hid (show j4 + 4 + 4 = (L ++ be 2 (gn : Int) ++ encRows (gl.take (i + 1))).length by
                    rw [hts.out, encRows_snoc, ← List.append_assoc, ← List.append_assoc, List.length_append, List.length_append, be_len, be_len, ← hjl4.out])
                  have HO7 := Lib.hid (show w6.ownsRow w.heap.size 5 1 (.slice A6 (j4 + 4 + 4) c6) (j4 + 4 + 4) (u8Cells (L ++ be 2 (gn : Int) ++ encRows (gl.take (i + 1)))) by
                    rw [hts.out, encRows_snoc, ← List.append_assoc, ← List.append_assoc]; exact HO6.out)
                  have HLE := Lib.hid (show ∀ p ∈ gl.take (i + 1), p.1 ≤ 4294967295 from fun p hp => by
                    rw [hts.out] at hp
                    rcases List.mem_append.1 hp with hp | hp
                    · exact hle.out p hp
                    · rw [List.mem_singleton] at hp
                      subst hp
                      exact hx10)
                  clear HO6 HO5 HB5 HBd C1 KS P1 P2 hts hpo hbx
                  go_wp2
                  go_roundw
                  case rel => exact ⟨i + 1, j4 + 4 + 4, A6, c6, by omega, by go_num, rfl, by omega, HJ6.out, HO7.out, HLE.out, HB6.out⟩
                  case measure => simp [RowKit.intOf]; omega
            · have e1 : gl.take i = gl := List.take_of_length_le (by rw [hgl.out]; omega)
              have e2 : L ++ be 2 (gn : Int) ++ encRows gl = be 1 (n : Int) ++ encBags (rowsB (xs.take (k + 1))) := by
                rw [htk.out, encBags_snoc, HL.out, encBag, hgl.out, List.append_assoc, List.append_assoc] <;> rfl
              have h1 := hjl4.out
              have h2 := ho4.out
              have h4 := hle.out
              rw [e1] at h4
              rw [e1, e2] at h1 h2
              have H1 := Lib.hid h1
              have H2 := Lib.hid h2
              have ok1 := encOk1_good HR.out.symm h4
              have H3 := Lib.hid (show (rowsB (xs.take (k + 1))).all encOk1 = true by rw [htk.out, List.all_append, hal.out]; simp [ok1])
              clear e1 e2 h1 h2 h4 ok1 hjl4 ho4 hle
              go_wp2
              go_roundw
              case rel => exact ⟨k + 1, j4, A4, c4, by omega, by go_num, rfl, by omega, H1.out, H3.out, H2.out, hB4.out⟩
              case measure => simp [RowKit.intOf]; omega
      · go_wp2
        go_ret2
        have e1 : xs.take k = xs := List.take_of_length_le (by have := hA.out.len; omega)
        have h1 := hjl.out
        have h2 := hal.out
        have h3 := ho.out
        rw [e1] at h1 h2 h3
        refine ⟨hB.out, .inr ⟨by unfold encOk; rw [lA.out, decide_eq_true (by omega), h2]; rfl, A', c', j, rfl, ?_, ?_⟩⟩
        · unfold encM; rw [lA.out]; exact h1
        · unfold encM; rw [lA.out]; exact h3
end Go.Proofs.YtajcleobmgjhoaaGreatDoor
