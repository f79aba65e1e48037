/- Contracts of package mark: Decode. -/
import Derived.Test.YtajcleobmgjhoaaGreatDoorMarkI
namespace Go.Proofs.YtajcleobmgjhoaaGreatDoor
open Go.RowKit Go.Lib
def decs : Nat → List Int → Option (List Row × List Int)
  | 0, l => some ([], l)
  | k + 1, l => match decBag l with
    | none => none
    | some (b, r) => match decs k r with
      | none => none
      | some (bs, r') => some (b :: bs, r')
def decM : List Int → Option (List Row)
  | [] => none
  | x :: r => if 64 < x then none else match decs x.toNat r with
    | some (M, []) => some M
    | _ => none
theorem decM_cons (x : Int) (r : List Int) : decM (x :: r) = if 64 < x then none else match decs x.toNat r with
    | some (M, []) => some M
    | _ => none := rfl
/-- What is told behind some bags. -/
def after (M : List Row) : Option (List Row × List Int) → Option (List Row × List Int)
  | none => none
  | some (bs, r) => some (M ++ bs, r)
theorem decs_none {k : Nat} {l : List Int} (h : decBag l = none) : decs (k + 1) l = none := by rw [decs, h]
theorem decs_some {k : Nat} {l r : List Int} {b : Row} (h : decBag l = some (b, r)) (M : List Row) : after M (decs (k + 1) l) = after (M ++ [b]) (decs k r) := by
  rw [decs, h]
  simp only
  cases decs k r with
  | none => rfl
  | some p => obtain ⟨bs, r'⟩ := p; simp [after]
/-- A bag's own row. -/
structure BgOwn (w : World) (base : Nat) (b : Bg) : Prop where
  own : w.ownsRow base 45 2 (.slice b.A b.n b.c) b.n (pairCells b.l)
  wf : I64s b.l
  len : b.n = b.l.length
  small : b.n < 100000
theorem BgOwn.ok {w : World} {base : Nat} {b : Bg} (h : BgOwn w base b) : BgOk w b := ⟨Sl.of_own h.own, h.wf⟩
def DecP (cs : List Int) (w : World) (e : Ending) (w' : World) : Prop :=
  Below w.heap.size w w' ∧ ((decM cs = none ∧ e = .returned (.tuple #[.slice none 0 0, .int .i64 4])) ∨
    (∃ A n c ys, decM cs = some (rowsB ys) ∧ e = .returned (.tuple #[.slice A n c, .int .i64 0]) ∧ n ≤ 64 ∧ Mk w' A n c ys ∧ (∀ b ∈ ys, b.n < 100000)))
theorem rd_new (w : World) (A : Option Addr) (n c : Nat) (cs : List Int) (h : Sl w (.slice A n c) n 1 (u8Cells cs)) (hw : U8s cs) : Rd (w.alloc (.cells #[.slice A n c, .bool false] 58)) (w.heap.size + 1) w.heap.size cs false := by
  refine ⟨⟨A, n, c, cell_new w _ _ 0 _ rfl, h.below ((Below.refl _ w).alloc (Nat.le_refl _) _), fun hn b o e => ?_⟩, Nat.lt_succ_self _, cell_new w _ _ 1 _ rfl, fun j => ?_, hw⟩
  · subst e
    obtain ⟨b', o', e, hc⟩ := h.u8_at hn
    injection e with e
    injection e with e1 e2
    subst e1 e2
    have := World.block_lt_of_cell? w _ hc
    simp only at this
    omega
  · exact frozen_of_row _ _ j _ 58 (heap_alloc_new w _)
theorem sl_one (A : Option Addr) (n c : Nat) : ∀ u ∈ [Value.slice A n c], u.oneCell' = true := by
  intro u hu
  rw [List.mem_singleton] at hu
  subst hu
  rfl
theorem after_none {t : Option (List Row × List Int)} {M : List Row} (h : after M t = none) : t = none := by
  cases t with
  | none => rfl
  | some p => obtain ⟨a, b⟩ := p; cases h
theorem after_nil (t : Option (List Row × List Int)) : after [] t = t := by
  cases t with
  | none => rfl
  | some p => obtain ⟨a, b⟩ := p; rfl
theorem BgOwn.fr {w w' : World} {r : Nat} {b : Bg} (h : BgOwn w (r + 1) b) (hf : Fr r w w') : BgOwn w' (r + 1) b := ⟨hf.own _ _ _ _ _ _ (Nat.lt_succ_self _) h.own, h.wf, h.len, h.small⟩
theorem BgOwn.app {w w' : World} {base b2 s n : Nat} {v : Value} {xs : List Value} {b : Bg} (h : BgOwn w base b) (o : Obj) (hg : (w.alloc o).grownBy w' v.ownBlock) (hv : w.ownsRow b2 36 s v n xs) : BgOwn w' base b :=
  ⟨(World.ownsRow.alloc h.own o).kept hg (kinds_ne h.own hv (by decide)), h.wf, h.len, h.small⟩
set_option maxRecDepth 100000 in
set_option maxHeartbeats 8000000 in
theorem mark_Decode (A : Option Addr) (n c : Nat) (cs : List Int) (w : World) (hA : Hid (Sl w (.slice A n c) n 1 (u8Cells cs))) (hw : Hid (U8s cs)) (hn : n ≤ 50000) :
    Calls Tryz.prog 15 #[.slice A n c] w (DecP cs w) := by
  have hl := Lib.hid (show cs.length = n by have := hA.out.len; rw [u8_len] at this; omega)
  obtain ⟨W1, hW1⟩ : ∃ W1, W1 = w.alloc (.cells #[.slice A n c, .bool false] 58) := ⟨_, rfl⟩
  obtain ⟨r, hr⟩ : ∃ r, r = w.heap.size := ⟨_, rfl⟩
  have hrd := rd_new w A n c cs hA.out hw.out
  have hsz : W1.heap.size = r + 1 := by rw [hW1, hr]; simp
  have HB1 := Lib.hid (show Below r w W1 by rw [hW1, hr]; exact (Below.refl _ w).alloc (Nat.le_refl _) _)
  rw [← hr, ← hW1] at hrd
  have cN := Lib.hid (reader_number (r + 1) r 1 cs false W1 (Lib.hid hrd) (by omega) (by omega))
  have HSZ := Lib.hid hsz
  have HR := Lib.hid hr
  have HW1 := Lib.hid hW1
  unfold DecP
  rw [← HR.out]
  clear hrd hsz hr hW1
  go_enter Tryz.func15, Tryz.ntmps15
  go_wp2_with fail
  rw [← HR.out, ← HW1.out]
  refine cN.out.mono ?_
  rintro e w1 hP
  have F1 := Lib.hid hP.fr
  obtain ⟨g1, g2, g3, hP⟩ := hP
  clear g1 g2 g3
  have B1 := Lib.hid (F1.out.bel r w HB1.out (Nat.le_refl _))
  obtain ⟨hb, rfl, hR1⟩ | ⟨g4, g5, rfl, hR1⟩ := hP
  · have hn0 := Lib.hid (show decM cs = none by
      rcases hb with h | h
      · cases h
      · have : cs = [] := List.eq_nil_of_length_eq_zero (by omega)
        rw [this]; rfl)
    have q1 := hR1.isBad
    have f1 := hR1.live 1
    have B2 := Lib.hid (B1.out.setCell (p := ⟨r, 1, none⟩) (Nat.le_refl _) (.bool true))
    clear hb hR1 cN
    go_wp2
    refine wp_loop_rounds 1 ?_
    rw [rounds_succ]
    go_wp2
    go_ret2
    exact ⟨B2.out, .inl ⟨hn0.out, rfl⟩⟩
  · obtain ⟨x, L, hxL⟩ : ∃ x L, cs = x :: L := by
      cases cs with
      | nil => simp at g5
      | cons x L => exact ⟨x, L, rfl⟩
    have hxb : 0 ≤ x ∧ x ≤ 255 := hw.out x (by rw [hxL]; simp)
    have hxe : numB 0 (cs.take 1) = x := by rw [hxL]; simp [numB]
    have hLe : cs.drop 1 = L := by rw [hxL]; rfl
    have hLl := Lib.hid (show L.length ≤ 50000 by have := hl.out; rw [hxL, List.length_cons] at this; omega)
    rw [hxe]
    rw [hLe] at hR1
    obtain ⟨m, rfl⟩ : ∃ m : Nat, x = (m : Int) := ⟨x.toNat, by omega⟩
    have HX := Lib.hid hxL
    have hm9 : m ≤ 255 := by omega
    have q1 := hR1.isBad
    have f1 := hR1.live 1
    have HR1 := Lib.hid hR1
    clear hxL hxb hxe hLe hR1 cN g4 g5
    by_cases hm : 64 < m
    · have hm2 : (64 : Int) < (m : Int) := by omega
      have hn0 := Lib.hid (show decM cs = none by rw [HX.out, decM_cons, if_pos hm2])
      have B2 := Lib.hid (B1.out.setCell (p := ⟨r, 1, none⟩) (Nat.le_refl _) (.bool true))
      have hm0 : (0 : Int) < (m : Int) := by omega
      go_wp2
      refine wp_loop_rounds 1 ?_
      rw [rounds_succ]
      go_wp2
      go_ret2
      exact ⟨B2.out, .inl ⟨hn0.out, rfl⟩⟩
    · have hm2 : (m : Int) ≤ 64 := by omega
      have hdm := Lib.hid (show decM cs = match decs m L with | some (M, []) => some M | _ => none by rw [HX.out, decM_cons, if_neg (by omega), Int.toNat_natCast])
      have HR3 := Lib.hid (HR1.out.setBad false)
      have B3 := Lib.hid (B1.out.setCell (p := ⟨r, 1, none⟩) (Nat.le_refl _) (.bool false))
      have S3 := Lib.hid (show r + 1 ≤ (w1.setCell ⟨r, 1, none⟩ (.bool false)).heap.size by have h1 := F1.out.size; have h2 := HSZ.out; simp [World.setCell]; omega)
      obtain ⟨w3, hw3⟩ : ∃ w3, w3 = w1.setCell ⟨r, 1, none⟩ (.bool false) := ⟨_, rfl⟩
      rw [← hw3] at HR3 B3 S3
      have HW3 := Lib.hid hw3
      clear hw3
      go_wp2
      rw [show decide ((64 : Int) < (m : Int)) = false from decide_eq_false (by omega), ← HW3.out]
      clear q1 f1
      go_loopw [5, 7] (fun o v wr => ∃ (k j : Nat) (A' : Option Addr) (c' : Nat) (bd : Bool) (l : List Int) (vs : List Value), k ≤ m ∧ v = .int .i64 (k : Int) ∧ o = .slice A' j c' ∧ j ≤ k ∧ Hid (wr.ownsRow (r + 1) 36 1 (.slice A' j c') j vs) ∧ Hid (Rd wr (r + 1) r l bd) ∧ Hid (Below r w wr) ∧ r + 1 ≤ wr.heap.size ∧ Hid (l.length ≤ 50000) ∧ Hid (bd = true → decs m L = none) ∧ Hid (bd = false → ∃ ys, vs = ys.map Bg.val ∧ (∀ b ∈ ys, BgOwn wr (r + 1) b) ∧ decs m L = after (rowsB ys) (decs (m - k) l))) (fun _ v _ => m - (RowKit.intOf v).toNat)
      case atStart => exact ⟨0, 0, none, 0, false, L, [], by omega, rfl, rfl, by omega, World.ownsRow_nil _ _ _ _, HR3.out, B3.out, S3.out, hLl.out, (fun h => by cases h), fun _ => ⟨[], rfl, fun b h => (by cases h), (after_nil _).symm⟩⟩
      case round =>
        obtain ⟨k, j, A', c', bd, l, vs, hk, rfl, rfl, hj, ho, hrd, HBw, hszr, hll, hbt, hbf⟩ := hrel
        have q1 := hrd.out.isBad
        obtain ⟨Ar, nr, cr, q0, hSr, _⟩ := hrd.out.buf
        have hnr := Lib.hid (show l.length = nr by have := hSr.len; rw [u8_len] at this; omega)
        clear hSr
        cases bd with
        | true =>
          have hn0 := Lib.hid (show decM cs = none by rw [hdm.out, hbt.out rfl])
          by_cases hkm : k < m
          · have hkm2 : (k : Int) < (m : Int) := by omega
            go_wp2
            go_ret2
            exact ⟨HBw.out, .inl ⟨hn0.out, rfl⟩⟩
          · have hkm2 : (m : Int) ≤ (k : Int) := by omega
            go_wp2
            go_ret2
            exact ⟨HBw.out, .inl ⟨hn0.out, rfl⟩⟩
        | false =>
          by_cases hkm : k < m
          · have hkm2 : (k : Int) < (m : Int) := by omega
            have hk0 : (0 : Int) ≤ (k : Int) := by omega
            have CB := Lib.hid (reader_bag (r + 1) r l wr hrd hszr (by have := hll.out; omega))
            have hst := Lib.hid (show m - k = (m - (k + 1)) + 1 by omega)
            clear q0
            go_wp2_with fail
            refine CB.out.mono ?_
            rintro e wa ⟨hfa, A2, n2, c2, rfl, hP⟩
            have Ba := Lib.hid (hfa.bel r w HBw.out (Nat.le_refl _))
            have Oa := Lib.hid (hfa.own _ _ _ _ _ _ (Nat.lt_succ_self _) ho.out)
            have hsza : r + 1 ≤ wa.heap.size := Nat.le_trans hszr hfa.size
            have Ya := Lib.hid (show ∃ ys, vs = ys.map Bg.val ∧ (∀ b ∈ ys, BgOwn wa (r + 1) b) ∧ decs m L = after (rowsB ys) (decs (m - k) l) by
              obtain ⟨ys, h1, h2, h3⟩ := hbf.out (by first | rfl | trivial)
              exact ⟨ys, h1, fun b hb => (h2 b hb).fr hfa, h3⟩)
            have HP := Lib.hid hP
            have HFA := Lib.hid hfa
            have hone := Lib.hid (sl_one A2 n2 c2)
            clear hP hfa hbf hbt ho hrd CB q1 HBw
            go_wp2_with (at_builtin; refine wpList_append_sl bags_ty rfl (.tmp 36) (.tmp 39) rfl (r + 1) rfl (by exact (Oa.out.alloc _)) rfl (by exact Sl.new _ _ [Value.slice A2 n2 c2] 1 1 rfl (by omega)) hone.out (by omega) (by omega) (by simp; omega) ?_; intro v4 w4 hown4 hg4 hat4; obtain ⟨A4, c4, rfl, _, _⟩ := own_form hown4; have HO4 := Lib.hid hown4; have HG4 := Lib.hid hg4; clear hown4 hg4 hat4)
            have HB4 := Lib.hid (show Below (r + 1) wa w4 from ((Below.refl _ wa).alloc hsza _).grown HG4.out (by simp; omega) (fun q hq => (Oa.out.lt q hq).1))
            have B4 := Lib.hid (Ba.out.trans (HB4.out.mono (Nat.le_succ r)))
            have S4 : r + 1 ≤ w4.heap.size := Nat.le_trans hsza HB4.out.size
            rcases HP.out with ⟨hd, rest2, hl2, hR2⟩ | ⟨b, rest2, hd, hn2, hr2, hn2b, hb2, hbw, hR2⟩
            · have R4 := Lib.hid (hR2.below HB4.out (Nat.le_refl _))
              have N4 := Lib.hid (show decs m L = none by
                obtain ⟨ys, _, _, h3⟩ := Ya.out
                rw [h3, hst.out, decs_none hd]; rfl)
              have L4 := Lib.hid (show rest2.length ≤ 50000 by have := hll.out; omega)
              clear hd hR2 hl2
              go_roundw
              case rel => exact ⟨k + 1, j + 1, A4, c4, true, rest2, _, by omega, by go_num, rfl, by omega, HO4.out, R4.out, B4.out, S4, L4.out, fun _ => N4.out, fun h => by cases h⟩
              case measure => simp [RowKit.intOf]; omega
            · have R4 := Lib.hid (hR2.below HB4.out (Nat.le_refl _))
              have L4 := Lib.hid (show rest2.length ≤ 50000 by have := hll.out; omega)
              have Y4 := Lib.hid (show ∃ ys, vs ++ [Value.slice A2 n2 c2] = ys.map Bg.val ∧ (∀ b ∈ ys, BgOwn w4 (r + 1) b) ∧ decs m L = after (rowsB ys) (decs (m - (k + 1)) rest2) by
                obtain ⟨ys, h1, h2, h3⟩ := Ya.out
                refine ⟨ys ++ [⟨A2, n2, c2, b⟩], by rw [h1, List.map_append]; rfl, fun q hq => ?_, ?_⟩
                · rcases List.mem_append.1 hq with hq | hq
                  · exact (h2 q hq).app _ HG4.out Oa.out
                  · rw [List.mem_singleton] at hq
                    subst hq
                    exact BgOwn.app (b := (⟨A2, n2, c2, b⟩ : Bg)) ⟨own_base hb2 hszr, hbw, hn2, by have := hll.out; show n2 < 100000; omega⟩ _ HG4.out Oa.out
                · rw [h3, hst.out, decs_some hd]; unfold rowsB; rw [List.map_append]; rfl)
              clear hd hR2 hn2 hr2 hn2b hb2 hbw
              go_roundw
              case rel => exact ⟨k + 1, j + 1, A4, c4, false, rest2, _, by omega, by go_num, rfl, by omega, HO4.out, R4.out, B4.out, S4, L4.out, (fun h => by cases h), fun _ => Y4.out⟩
              case measure => simp [RowKit.intOf]; omega
          · have hkm2 : (m : Int) ≤ (k : Int) := by omega
            have e1 : m - k = 0 := by omega
            obtain ⟨ys, h1, h2, h3⟩ := hbf.out rfl
            rw [e1] at h3
            have h4 : decs m L = some (rowsB ys, l) := by rw [h3]; simp [decs, after]
            by_cases h0 : nr = 0
            · have hl0 : l = [] := List.eq_nil_of_length_eq_zero (by have := hnr.out; omega)
              have hfin := Lib.hid (show decM cs = some (rowsB ys) by rw [hdm.out, h4, hl0])
              have HY := Lib.hid h2
              have HV := Lib.hid h1
              subst h0
              have hkk := Lib.hid hk
              clear h1 h2 h3 h4 e1 hl0 hbf hbt
              go_wp2
              go_ret2
              refine ⟨HBw.out, .inr ⟨A', j, c', ys, hfin.out, rfl, by omega, ⟨?_, fun b hb => (HY.out b hb).ok⟩, fun b hb => (HY.out b hb).small⟩⟩
              have := Sl.of_own ho.out
              rw [HV.out] at this
              exact this
            · have hnp : (0 : Int) < (nr : Int) := by omega
              have hfin := Lib.hid (show decM cs = none by
                rw [hdm.out, h4]
                cases l with
                | nil => exact absurd hnr.out.symm h0
                | cons y z => rfl)
              clear h1 h2 h3 h4 e1 hbf hbt
              go_wp2
              go_ret2
              exact ⟨HBw.out, .inl ⟨hfin.out, rfl⟩⟩
end Go.Proofs.YtajcleobmgjhoaaGreatDoor
