/- Contracts of package bag: Of. -/
import Derived.Test.YtajcleobmgjhoaaGreatDoorBagK
namespace Go.Proofs.YtajcleobmgjhoaaGreatDoor
open Go.RowKit
/-- How often a member stands among some, as a bag counts. -/
def ofG (l : List Int) (k : Int) : Int := if 0 ≤ k then min (l.count k : Int) 1048576 else 0
theorem ofG_snoc (l : List Int) (x k : Int) : ofG (l ++ [x]) k = if k = x ∧ 0 ≤ x then min (ofG l x + 1) 1048576 else ofG l k := by
  unfold ofG
  rw [List.count_append, List.count_singleton]
  by_cases h : k = x
  · subst h
    by_cases h0 : 0 ≤ k
    · simp [h0]; omega
    · simp [h0]
  · have h2 : ¬ (x == k) = true := by simp; exact fun e => h e.symm
    simp [h, h2]
theorem ofG_bound (l : List Int) (k : Int) : 0 ≤ ofG l k ∧ ofG l k ≤ 1048576 := by
  unfold ofG
  split <;> omega
theorem takeI_snoc {M : List Int} {k : Nat} (h : k < M.length) : M.take (k + 1) = M.take k ++ [M.getD k 0] := take_snocI h
def OfBagP (l : List Int) (w : World) (e : Ending) (w' : World) : Prop :=
  ∃ v, e = .returned v ∧ NewBag (ofG l) l.length w v w' ∧ Below w.heap.size w w'
set_option maxRecDepth 100000 in
set_option maxHeartbeats 1000000 in
theorem bag_Of (A : Option Addr) (n c : Nat) (l : List Int) (w : World) (hA : Hid (Sl w (.slice A n c) n 1 (intCells l))) (hi : Hid (∀ x ∈ l, I64 x)) (hmax : n < 100000000000) :
    Calls Tryz.prog 42 #[.slice A n c] w (OfBagP l w) := by
  have hn := hA.out.bound
  have hl := Lib.hid (show l.length = n by have := hA.out.len; rw [intCells_len] at this; omega)
  have hmm := @run_makeMap Tryz.prog
  go_enter Tryz.func42, Tryz.ntmps42
  go_wp2_with fail
  go_loopw [5, 9] (fun _ v wr => ∃ (k : Nat) (g : Int → Int), k ≤ n ∧ v = .int .i64 (k : Int) ∧ Hid (MapG wr w.heap.size k g) ∧ Hid (∀ j, g j = ofG (l.take k) j) ∧ Hid (Below w.heap.size w wr)) (fun _ v _ => n - (RowKit.intOf v).toNat)
  case atStart =>
    refine ⟨0, fun _ => 0, by omega, rfl, ⟨.map [], World.ownsMap_made _ _ _ _, fun k => rfl⟩, fun j => ?_, (Below.refl _ w).alloc (Nat.le_refl _) _⟩
    unfold ofG; simp; intro _; omega
  case round =>
    obtain ⟨k, g, hk, rfl, hG, hg, hB⟩ := hrel
    by_cases hlt : k < n
    · obtain ⟨b1, o1, rfl, c1⟩ := hA.out.int_at hlt
      replace c1 := cell_kept hB.out c1
      obtain ⟨x, hx⟩ : ∃ x, x = l.getD k 0 := ⟨_, rfl⟩
      rw [← hx] at c1
      have hts := takeI_snoc (M := l) (k := k) (by rw [hl.out]; exact hlt)
      rw [← hx] at hts
      have hxi : I64 x := hi.out x (by rw [hx, List.getD, List.getElem?_eq_getElem (by rw [hl.out]; exact hlt)]; exact List.getElem_mem _)
      have hsn := fun j => ofG_snoc (l.take k) x j
      rw [← hts] at hsn
      have HSN := Lib.hid hsn
      have HXI := Lib.hid hxi
      have lk := hG.out.look hxi
      obtain ⟨u, hu⟩ : ∃ u, u = g x := ⟨_, rfl⟩
      rw [← hu] at lk
      have hub := ofG_bound (l.take k) x
      rw [← hg.out x, ← hu] at hub
      obtain ⟨u0, u1⟩ := hub
      have hlt2 : (k : Int) < (n : Int) := by omega
      have hk0 : (0 : Int) ≤ (k : Int) := by omega
      by_cases h0 : 0 ≤ x
      · obtain ⟨D9, h3, h4⟩ := hG.out
        have H3 := Lib.hid h3
        have H4 := Lib.hid h4
        have hgk1 := Lib.hid (show ∀ j, (if j = x then min (u + 1) 1048576 else g j) = ofG (l.take (k + 1)) j by
          intro j
          rw [hsn j, ← hg.out j, ← hg.out x, ← hu]
          by_cases e : j = x
          · rw [if_pos e, if_pos ⟨e, h0⟩]
          · rw [if_neg e, if_neg (fun h => e h.1)])
        have hmin : Hid (∃ z, z = min (u + 1) 1048576) := ⟨_, rfl⟩
        have hVV := Lib.hid (fun z (h : z = min (u + 1) 1048576) => plainElem_int (H := Unit) Tryz.underlying3 (wf64 (x := z) (by omega)))
        have HKK := Lib.hid (keyOfI hxi)
        have hszr := hB.out.size
        clear hx hts hxi hsn hu h3 h4
        go_wp2_with (first
          | (at_mapUpdate; refine wpList_mapUpdate_own _ rfl _ _ _ 76 rfl 3 3 keyI Tryz.underlying76 _ w.heap.size _ _ rfl H3.out (by unfold maxLen; omega) _ _ _ rfl rfl HKK.out (.lit (.int .i64 (min (u + 1) 1048576))) [] (hVV.out _ rfl) ?_; intro w2 hout2 hg2; go_frame; have hG2 := MapG.put H3.out H4.out hout2; have HG2 := Lib.hid hG2; have HGR := Lib.hid hg2; clear hout2 hg2 hG2 lk)
          | go_in)
        go_roundw
        case rel => exact ⟨k + 1, _, by omega, by go_num, HG2.out, hgk1.out, hB.out.grown HGR.out hszr (fun q hq => by injection hq with hq; omega)⟩
        case measure => simp [RowKit.intOf]; omega
      · have hgk1 := Lib.hid (show ∀ j, g j = ofG (l.take (k + 1)) j by
          intro j
          rw [hsn j, if_neg (fun h => h0 h.2), hg.out j])
        have HGG := Lib.hid (show MapG wr w.heap.size (k + 1) g by
          obtain ⟨D, h1, h2⟩ := hG.out
          exact ⟨D, World.ownsMap.mono h1 (by omega), h2⟩)
        clear hx hts hxi hsn hu
        go_wp2
        go_roundw
        case rel => exact ⟨k + 1, g, by omega, by go_num, HGG.out, hgk1.out, hB.out⟩
        case measure => simp [RowKit.intOf]; omega
    · obtain ⟨D9, h3, h4⟩ := hG.out
      have hc := Lib.hid (bag_bag w.heap.size k D9 g wr h3 h4 (by omega))
      clear h3 h4
      go_wp2_with fail
      refine hc.out.mono ?_
      rintro e w5 ⟨A5, c5, M5, rfl, m1, m2, m3, m4, m5⟩
      go_wp2
      go_ret
      refine ⟨_, rfl, ⟨A5, c5, M5, rfl, ?_, m2, by rw [hl.out]; omega, own_base m4 hB.out.size⟩, below_then hB.out m5⟩
      have e1 : l.take k = l := List.take_of_length_le (by rw [hl.out]; omega)
      have e2 : g = ofG l := funext fun j => by rw [hg.out, e1]
      rw [← e2]; exact m1
end Go.Proofs.YtajcleobmgjhoaaGreatDoor
