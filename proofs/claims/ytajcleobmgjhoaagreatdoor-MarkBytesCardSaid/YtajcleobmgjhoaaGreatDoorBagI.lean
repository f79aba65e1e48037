/- Contracts of package bag: Most. -/
import Derived.Test.YtajcleobmgjhoaaGreatDoorBagG
namespace Go.Proofs.YtajcleobmgjhoaaGreatDoor
open Go.RowKit
def mostG (a b : Row) : Int → Int := fun k => max (getM a k) (getM b k)
def MostP (a b : Row) (w : World) (e : Ending) (w' : World) : Prop :=
  Below w.heap.size w w' ∧ (((rightB a && rightB b) = false ∧ e = .returned (.slice none 0 0)) ∨
    ((rightB a && rightB b) = true ∧ ∃ v, e = .returned v ∧ NewBag (mostG a b) (a.length + b.length) w v w'))
set_option maxRecDepth 100000 in
set_option maxHeartbeats 2000000 in
theorem bag_Most (A : Option Addr) (n c : Nat) (l : Row) (A2 : Option Addr) (n2 c2 : Nat) (l2 : Row) (w : World) (hA : Hid (Sl w (.slice A n c) n 2 (pairCells l))) (hi : Hid (I64s l)) (hmax : n < 100000000000)
    (hA2 : Hid (Sl w (.slice A2 n2 c2) n2 2 (pairCells l2))) (hi2 : Hid (I64s l2)) (hmax2 : n2 < 100000000000) :
    Calls Tryz.prog 53 #[.slice A n c, .slice A2 n2 c2] w (MostP l l2 w) := by
  have cB := Lib.hid (bag_both A n c l A2 n2 c2 l2 w hA hi (by omega) hA2 hi2 (by omega))
  have hl := Lib.hid (show l.length = n by have := hA.out.len; rw [pairCells_len] at this; omega)
  have hl2 := Lib.hid (show l2.length = n2 by have := hA2.out.len; rw [pairCells_len] at this; omega)
  go_enter Tryz.func53, Tryz.ntmps53
  go_wp2_with fail
  refine cB.out.mono ?_
  rintro e w1 ⟨hb1, ⟨hr1, hr2, x, y, rfl, hx, hxy, hM1, hM2⟩ | ⟨hr, x, y, rfl⟩⟩
  · have HB1 := Lib.hid hb1
    have HR := Lib.hid (show (rightB l && rightB l2) = true by rw [hr1, hr2]; rfl)
    have hok1 := (rightB_iff l).1 hr1
    have hok2 := (rightB_iff l2).1 hr2
    have HK1 := Lib.hid hok1
    have HK2 := Lib.hid hok2
    have HM1 := Lib.hid (hM1.get hok1.1)
    obtain ⟨D, h1, h2⟩ := hM2
    have HO := Lib.hid h1
    have HD := Lib.hid h2
    have hby := h1.lt
    have hbx := hM1.lt
    have hsz := hb1.size
    clear hb1 hr1 hr2 hM1 h1 h2 hok1 hok2
    go_wp2_with (first
      | (at_range; refine wpList_range_own _ rfl _ 76 rfl 3 3 keyI Tryz.underlying76 _ y _ D rfl HO.out ?_; intro w0 hrg0 hg0 hs0)
      | go_in)
    go_frame
    have HG0 := Lib.hid hg0
    have hsl : Maps.size D ≤ l2.length := HO.out.size_le
    go_loopw [8] (fun _ wr => ∃ (left : Lit → Bool) (cnt m : Nat) (g : Int → Int), Hid (wr.ranges Tryz.prog 3 (plainElem Tryz.prog 3) y w1.heap.size l2.length D left cnt) ∧ Hid (MapG wr x m g) ∧ m + cnt ≤ l.length + l2.length ∧
      Hid (∀ k, g k = if left (.int .i64 k) then getM l k else mostG l l2 k) ∧ Hid (Below w.heap.size w wr) ∧ w1.heap.size < wr.heap.size) (fun _ wr => wr.rangeLeft y w1.heap.size)
    case atStart =>
      refine ⟨_, _, l.length, getM l, hrg0, HM1.out.kept hg0 (by simp), by omega, fun k => ?_, HB1.out.grown hg0 hsz (fun q hq => by cases hq), by omega⟩
      unfold mostG
      split
      · rfl
      · rename_i hh
        rw [getM_not (M := l2)]
        · have := HK1.out.nonneg k; omega
        · intro p hp e
          exact hh (by rw [← e]; exact Maps.has_true_of_atKey (HD.out.2 p hp))
    case round =>
      obtain ⟨left, cnt, m, g, hrg, hG, hmc, hgk, hB, hsr⟩ := hrel
      clear hg0 hs0 hrg0
      go_wp2_with (first
        | (at_next; refine wpList_next_ranges_ii _ rfl _ rfl 3 3 .i64 .i64 keyI Tryz.underlying3 Tryz.underlying3 y w1.heap.size l2.length _ _ _ rfl hrg.out ?_ ?_)
        | go_in)
      · intro hc0 hl0
        obtain ⟨D9, h3, h4⟩ := hG.out
        have hc := Lib.hid (bag_bag x m D9 g wr h3 h4 (by have := hl.out; have := hl2.out; omega))
        have HL0 := Lib.hid hl0
        clear hl0 hc0 h3 h4
        go_wp2_with fail
        refine hc.out.mono ?_
        rintro e w5 ⟨A5, c5, M5, rfl, m1, m2, m3, m4, m5⟩
        go_wp2
        go_ret
        refine ⟨below_then hB.out m5, .inr ⟨HR.out, _, rfl, A5, c5, M5, rfl, ?_, m2, by omega, own_base m4 hB.out.size⟩⟩
        · have e1 : g = mostG l l2 := funext fun k => by rw [hgk.out, HL0.out]; rfl
          rw [← e1]; exact m1
      · intro k v wq cnt1 hwy hwv hly hat hrg1 hlt hg1 hs1 hen
        have hp := Lib.hid (HD.out.came hat)
        have hB1 := hB.out.grown hg1 hB.out.size (fun q hq => by injection hq with hq; omega)
        have hG1 := hG.out.kept hg1 (by intro e; injection e with e; omega)
        have hki := hi2.out _ hp.out
        simp only at hki
        have lk := hG1.look hki.1
        obtain ⟨u, hu⟩ : ∃ u, u = g k := ⟨_, rfl⟩
        have hu2 : u = getM l k := by rw [hu, hgk.out, hly]; rfl
        rw [← hu] at lk
        have hb2 := HK1.out.nonneg k
        rw [← hu2] at hb2
        have hb3 := HK2.out.2 _ hp.out
        simp only at hb3
        obtain ⟨b1, b2⟩ := hb2
        obtain ⟨b3, b4, b5⟩ := hb3
        obtain ⟨D9, h3, h4⟩ := hG1
        have H3 := Lib.hid h3
        have H4 := Lib.hid h4
        have HRG1 := Lib.hid hrg1
        have HB1q := Lib.hid hB1
        have HLT := Lib.hid hlt
        have HU := Lib.hid hu2
        have hln := hl.out
        have hln2 := hl2.out
        have hwrap : IntKind.i64.wrap (max u v) = max u v := by rw [IntKind.wrap_i64]; omega
        have HKK := Lib.hid (keyOfI hki.1)
        have HVV := Lib.hid (plainElem_int (H := Unit) Tryz.underlying3 (wf64 (x := max u v) (by omega)))
        have HKI := Lib.hid hki.1
        have hgk1 := Lib.hid (show ∀ j, (if j = k then max u v else g j) = if (left (.int .i64 j) && !(Lit.int .i64 j).sameKey (.int .i64 k)) then getM l j else mostG l l2 j by
          intro j
          by_cases e : j = k
          · subst e
            have : getM l2 j = v := getM_mem HK2.out.1 hp.out
            simp [Lit.sameKey, mostG, this, hu2]
          · rw [if_neg e, hgk.out]
            simp [Lit.sameKey, e])
        have hsq : wq.heap.size = wr.heap.size := hs1
        clear hat hly hwy hwv hrg1 hg1 hlt hu hu2 hB1 h3 h4 hki hs1
        go_wp2_with (first
          | (at_mapUpdate; refine wpList_mapUpdate_own _ rfl _ _ _ 76 rfl 3 3 keyI Tryz.underlying76 _ x _ _ rfl H3.out (by unfold maxLen; omega) _ _ _ rfl rfl HKK.out _ [] HVV.out ?_; intro w2 hout2 hg2; go_frame; have hG2 := MapG.put H3.out H4.out hout2; have HG2 := Lib.hid hG2; have HGR := Lib.hid hg2; have HS2 := Lib.hid hg2.size; clear hout2 hg2 hG2 lk)
          | go_in)
        go_roundw
        case rel => exact ⟨_, cnt1, m + 1, _, HRG1.out.kept HGR.out (by intro e; injection e with e; omega) (by intro e; injection e with e; omega), HG2.out, by have := HLT.out; omega, hgk1.out, HB1q.out.grown HGR.out (by omega) (fun q hq => by injection hq with hq; omega), by have := HS2.out; omega⟩
        case measure => rw [(HRG1.out.kept HGR.out (by intro e; injection e with e; omega) (by intro e; injection e with e; omega)).left_eq, hrg.out.left_eq]; exact HLT.out
  · have HB1 := Lib.hid hb1
    have HR := Lib.hid hr
    clear hb1 hr
    go_wp2
    go_ret
    exact ⟨HB1.out, .inl ⟨HR.out, rfl⟩⟩
end Go.Proofs.YtajcleobmgjhoaaGreatDoor
