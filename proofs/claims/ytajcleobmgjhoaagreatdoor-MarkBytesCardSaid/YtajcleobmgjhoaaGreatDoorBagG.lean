/- Contracts of package bag: Sum. -/
import Derived.Test.YtajcleobmgjhoaaGreatDoorBagF
namespace Go.Proofs.YtajcleobmgjhoaaGreatDoor
open Go.RowKit
theorem MapG.put {w w' : World} {b n n' : Nat} {g : Int → Int} {D : DataW Unit} (h : OwnI w b n D) (hg : GetD D g) {k v : Int} (h2 : OwnI w' b n' (D.put (.int .i64 k) (.lit (.int .i64 v)))) : MapG w' b n' (fun j => if j = k then v else g j) :=
  ⟨_, h2, hg.put (h.canon keyI |>.elim fun es h => ⟨es, h.1⟩) k v⟩
/-- What a function that makes a bag leaves: the slice, and what lies in it. -/
def NewBag (g : Int → Int) (n : Nat) (w : World) (v : Value) (w' : World) : Prop :=
  ∃ A c M, v = .slice A M.length c ∧ RowG M g ∧ I64s M ∧ M.length ≤ n ∧ w'.ownsRow w.heap.size 45 2 (.slice A M.length c) M.length (pairCells M)
/-- Is a sum too much? -/
def fullB (a b : Row) : Bool := b.any fun p => decide (1048576 < getM a p.1 + p.2)
def sumG (a b : Row) : Int → Int := fun k => getM a k + getM b k
def SumP (a b : Row) (w : World) (e : Ending) (w' : World) : Prop :=
  Below w.heap.size w w' ∧ (((rightB a && rightB b) = false ∧ e = .returned (.tuple #[.slice none 0 0, .int .i64 1])) ∨
    ((rightB a && rightB b) = true ∧ fullB a b = true ∧ e = .returned (.tuple #[.slice none 0 0, .int .i64 2])) ∨
    ((rightB a && rightB b) = true ∧ fullB a b = false ∧ ∃ v, e = .returned (.tuple #[v, .int .i64 0]) ∧ NewBag (sumG a b) (a.length + b.length) w v w'))
set_option maxRecDepth 100000 in
set_option maxHeartbeats 2000000 in
theorem bag_Sum (A : Option Addr) (n c : Nat) (l : Row) (A2 : Option Addr) (n2 c2 : Nat) (l2 : Row) (w : World) (hA : Hid (Sl w (.slice A n c) n 2 (pairCells l))) (hi : Hid (I64s l)) (hmax : n < 100000000000)
    (hA2 : Hid (Sl w (.slice A2 n2 c2) n2 2 (pairCells l2))) (hi2 : Hid (I64s l2)) (hmax2 : n2 < 100000000000) :
    Calls Tryz.prog 41 #[.slice A n c, .slice A2 n2 c2] w (SumP l l2 w) := by
  have cB := Lib.hid (bag_both A n c l A2 n2 c2 l2 w hA hi (by omega) hA2 hi2 (by omega))
  have hl := Lib.hid (show l.length = n by have := hA.out.len; rw [pairCells_len] at this; omega)
  have hl2 := Lib.hid (show l2.length = n2 by have := hA2.out.len; rw [pairCells_len] at this; omega)
  go_enter Tryz.func41, Tryz.ntmps41
  go_wp2_with fail
  refine cB.out.mono ?_
  rintro e w1 ⟨hb1, ⟨hr1, hr2, x, y, rfl, hx, hxy, hM1, hM2⟩ | ⟨hr, x, y, rfl⟩⟩
  · have HB1 := Lib.hid hb1
    have HR := Lib.hid (show (rightB l && rightB l2) = true by rw [hr1, hr2]; rfl)
    have hok1 := (rightB_iff l).1 hr1
    have hok2 := (rightB_iff l2).1 hr2
    have HK1 := Lib.hid hok1
    have HK2 := Lib.hid hok2
    have HM1 := Lib.hid (hM1.get hok1.1)
    obtain ⟨D, h1, h2⟩ := hM2
    have HO := Lib.hid h1
    have HD := Lib.hid h2
    have hby := h1.lt
    have hbx := hM1.lt
    have hsz := hb1.size
    clear hb1 hr1 hr2 hM1 h1 h2 hok1 hok2
    go_wp2_with (first
      | (at_range; refine wpList_range_own _ rfl _ 76 rfl 3 3 keyI Tryz.underlying76 _ y _ D rfl HO.out ?_; intro w0 hrg0 hg0 hs0)
      | go_in)
    go_frame
    have HG0 := Lib.hid hg0
    have hsl : Maps.size D ≤ l2.length := HO.out.size_le
    go_loopw [9] (fun _ wr => ∃ (left : Lit → Bool) (cnt m : Nat) (g : Int → Int), Hid (wr.ranges Tryz.prog 3 (plainElem Tryz.prog 3) y w1.heap.size l2.length D left cnt) ∧ Hid (MapG wr x m g) ∧ m + cnt ≤ l.length + l2.length ∧
      Hid (∀ k, g k = if left (.int .i64 k) then getM l k else sumG l l2 k) ∧ Hid (∀ p ∈ l2, left (.int .i64 p.1) = false → getM l p.1 + p.2 ≤ 1048576) ∧ Hid (Below w.heap.size w wr) ∧ w1.heap.size < wr.heap.size) (fun _ wr => wr.rangeLeft y w1.heap.size)
    case atStart =>
      refine ⟨_, _, l.length, getM l, hrg0, HM1.out.kept hg0 (by simp), by omega, fun k => ?_, fun p hp h => (by rw [Maps.has_true_of_atKey (HD.out.2 p hp)] at h; cases h), HB1.out.grown hg0 hsz (fun q hq => by cases hq), by omega⟩
      unfold sumG
      split
      · rfl
      · rename_i hh
        rw [getM_not (M := l2)]
        · omega
        · intro p hp e
          exact hh (by rw [← e]; exact Maps.has_true_of_atKey (HD.out.2 p hp))
    case round =>
      obtain ⟨left, cnt, m, g, hrg, hG, hmc, hgk, hno, hB, hsr⟩ := hrel
      clear hg0 hs0 hrg0
      go_wp2_with (first
        | (at_next; refine wpList_next_ranges_ii _ rfl _ rfl 3 3 .i64 .i64 keyI Tryz.underlying3 Tryz.underlying3 y w1.heap.size l2.length _ _ _ rfl hrg.out ?_ ?_)
        | go_in)
      · intro hc0 hl0
        obtain ⟨D9, h3, h4⟩ := hG.out
        have hc := Lib.hid (bag_bag x m D9 g wr h3 h4 (by have := hl.out; have := hl2.out; omega))
        have HL0 := Lib.hid hl0
        clear hl0 hc0 h3 h4
        go_wp2_with fail
        refine hc.out.mono ?_
        rintro e w5 ⟨A5, c5, M5, rfl, m1, m2, m3, m4, m5⟩
        go_wp2
        go_ret2
        refine ⟨below_then hB.out m5, .inr (.inr ⟨HR.out, ?_, _, rfl, A5, c5, M5, rfl, ?_, m2, by omega, own_base m4 hB.out.size⟩)⟩
        · rw [Bool.eq_false_iff]
          intro h
          obtain ⟨p, hp, h⟩ := List.any_eq_true.1 h
          simp only [decide_eq_true_eq] at h
          have := hno.out p hp (HL0.out _)
          omega
        · have e1 : g = sumG l l2 := funext fun k => by rw [hgk.out, HL0.out]; rfl
          rw [← e1]; exact m1
      · intro k v wq cnt1 hwy hwv hly hat hrg1 hlt hg1 hs1 hen
        have hp := Lib.hid (HD.out.came hat)
        have hB1 := hB.out.grown hg1 hB.out.size (fun q hq => by injection hq with hq; omega)
        have hG1 := hG.out.kept hg1 (by intro e; injection e with e; omega)
        have hki := hi2.out _ hp.out
        simp only at hki
        have lk := hG1.look hki.1
        obtain ⟨u, hu⟩ : ∃ u, u = g k := ⟨_, rfl⟩
        have hu2 : u = getM l k := by rw [hu, hgk.out, hly]; rfl
        rw [← hu] at lk
        have hb2 := HK1.out.nonneg k
        rw [← hu2] at hb2
        have hb3 := HK2.out.2 _ hp.out
        simp only at hb3
        obtain ⟨b1, b2⟩ := hb2
        obtain ⟨b3, b4, b5⟩ := hb3
        obtain ⟨D9, h3, h4⟩ := hG1
        have H3 := Lib.hid h3
        have H4 := Lib.hid h4
        have HRG1 := Lib.hid hrg1
        have HB1q := Lib.hid hB1
        have HLT := Lib.hid hlt
        have HU := Lib.hid hu2
        have hln := hl.out
        have hln2 := hl2.out
        have hwrap : IntKind.i64.wrap (u + v) = u + v := by rw [IntKind.wrap_i64]; omega
        have HKK := Lib.hid (keyOfI hki.1)
        have HVV := Lib.hid (plainElem_int (H := Unit) Tryz.underlying3 (wf64 (x := u + v) (by omega)))
        have HKI := Lib.hid hki.1
        have hgk1 := Lib.hid (show ∀ j, (if j = k then u + v else g j) = if (left (.int .i64 j) && !(Lit.int .i64 j).sameKey (.int .i64 k)) then getM l j else sumG l l2 j by
          intro j
          by_cases e : j = k
          · subst e
            have : getM l2 j = v := getM_mem HK2.out.1 hp.out
            simp [Lit.sameKey, sumG, this, hu2]
          · rw [if_neg e, hgk.out]
            simp [Lit.sameKey, e])
        have hsq : wq.heap.size = wr.heap.size := hs1
        have HPL := Lib.hid (show getM l k + v = u + v by rw [← hu2])
        clear hat hly hwy hwv hrg1 hg1 hlt hu hu2 hB1 h3 h4 hki hs1
        by_cases hfull : 1048576 < u + v
        · have hfu : fullB l l2 = true := List.any_eq_true.2 ⟨_, hp.out, by simp only [decide_eq_true_eq]; rw [HPL.out]; exact hfull⟩
          have HFU := Lib.hid hfu
          clear hfu
          go_wp2_with (first
            | (at_mapUpdate; refine wpList_mapUpdate_own _ rfl _ _ _ 76 rfl 3 3 keyI Tryz.underlying76 _ x _ _ rfl H3.out (by unfold maxLen; omega) _ _ _ rfl rfl HKK.out _ [] HVV.out ?_; intro w2 hout2 hg2; go_frame; have hG2 := MapG.put H3.out H4.out hout2; have lk2 := hG2.look HKI.out; rw [if_pos rfl] at lk2; have HG2 := Lib.hid hG2; have HGR := Lib.hid hg2; have HS2 := Lib.hid hg2.size; clear hout2 hg2 hG2 lk)
            | go_in)
          go_ret2
          exact ⟨HB1q.out.grown HGR.out (by omega) (fun q hq => by injection hq with hq; omega), .inr (.inl ⟨HR.out, HFU.out, rfl⟩)⟩
        · have hno1 := Lib.hid (show ∀ p ∈ l2, (left (.int .i64 p.1) && !(Lit.int .i64 p.1).sameKey (.int .i64 k)) = false → getM l p.1 + p.2 ≤ 1048576 by
            intro p hp2 h
            by_cases e : left (.int .i64 p.1) = false
            · exact hno.out p hp2 e
            · have e1 : left (.int .i64 p.1) = true := by simpa using e
              simp [e1, Lit.sameKey] at h
              have h5 : p.2 = v := by rw [← getM_mem HK2.out.1 hp2, h, getM_mem HK2.out.1 hp.out]
              rw [h, h5, HPL.out]
              omega)
          go_wp2_with (first
            | (at_mapUpdate; refine wpList_mapUpdate_own _ rfl _ _ _ 76 rfl 3 3 keyI Tryz.underlying76 _ x _ _ rfl H3.out (by unfold maxLen; omega) _ _ _ rfl rfl HKK.out _ [] HVV.out ?_; intro w2 hout2 hg2; go_frame; have hG2 := MapG.put H3.out H4.out hout2; have lk2 := hG2.look HKI.out; rw [if_pos rfl] at lk2; have HG2 := Lib.hid hG2; have HGR := Lib.hid hg2; have HS2 := Lib.hid hg2.size; clear hout2 hg2 hG2 lk)
            | go_in)
          go_roundw
          case rel => exact ⟨_, cnt1, m + 1, _, HRG1.out.kept HGR.out (by intro e; injection e with e; omega) (by intro e; injection e with e; omega), HG2.out, by have := HLT.out; omega, hgk1.out, hno1.out, HB1q.out.grown HGR.out (by omega) (fun q hq => by injection hq with hq; omega), by have := HS2.out; omega⟩
          case measure => rw [(HRG1.out.kept HGR.out (by intro e; injection e with e; omega) (by intro e; injection e with e; omega)).left_eq, hrg.out.left_eq]; exact HLT.out
  · have HB1 := Lib.hid hb1
    have HR := Lib.hid hr
    clear hb1 hr
    go_wp2
    go_ret2
    exact ⟨HB1.out, .inl ⟨HR.out, rfl⟩⟩
end Go.Proofs.YtajcleobmgjhoaaGreatDoor
