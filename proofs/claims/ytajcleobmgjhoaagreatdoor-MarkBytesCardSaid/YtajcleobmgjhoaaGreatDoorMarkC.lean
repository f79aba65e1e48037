/- Contracts of package mark: Total, Ended, Final. -/
import Derived.Test.YtajcleobmgjhoaaGreatDoorMarkB
namespace Go.Proofs.YtajcleobmgjhoaaGreatDoor
open Go.RowKit
def totL (rs : List Row) : Int := (rs.map totR).sum
theorem totR_bound {l : Row} : 0 ≤ totR l ∧ totR l ≤ l.length * 1048576 := by
  unfold totR
  split
  · rename_i h
    have ho := (rightB_iff l).1 h
    have : ∀ (l : Row), (∀ p ∈ l, 0 ≤ p.2 ∧ p.2 ≤ 1048576) → 0 ≤ totM l ∧ totM l ≤ l.length * 1048576 := by
      intro l
      induction l with
      | nil => intro _; simp [totM]
      | cons p r ih =>
        intro h
        have h1 := ih fun q hq => h q (by simp [hq])
        have h2 := h p (by simp)
        unfold totM
        simp only [List.length_cons]
        omega
    exact this l fun p hp => by have := ho.2 p hp; omega
  · omega
theorem totL_app (a : List Row) (r : Row) : totL (a ++ [r]) = totL a + totR r := by simp [totL]
theorem totL_bound {K : Int} : ∀ {rs : List Row}, (∀ r ∈ rs, totR r ≤ K) → 0 ≤ totL rs ∧ totL rs ≤ (rs.length : Int) * K
  | [], _ => by simp [totL]
  | r :: s, h => by
    have h1 := totL_bound (K := K) (rs := s) fun q hq => h q (List.mem_cons_of_mem _ hq)
    have h2 := @totR_bound r
    have h3 := h r (by simp)
    have e : totL (r :: s) = totR r + totL s := by simp [totL]
    have e2 : ((r :: s).length : Int) * K = (s.length : Int) * K + K := by
      rw [show ((r :: s).length : Int) = (s.length : Int) + 1 by simp, Int.add_mul, Int.one_mul]
    rw [e, e2]
    omega
abbrev netV (C : Option Addr) (cn cc : Nat) (P : Option Addr) (pn pc : Nat) (T : Option Addr) (tn tc : Nat) (fr ti : Int) : Value :=
  .agg #[.slice C cn cc, .slice P pn pc, .slice T tn tc, .int .i64 fr, .int .i64 ti]
def endedB (ti : Int) (rs : List Row) : Bool := if 0 ≤ ti ∧ ti < (rs.length : Int) then decide (0 < totR (rs.getD ti.toNat [])) else false
def finB (ti : Int) : Nat → List Row → Bool
  | _, [] => true
  | k, r :: s => if totR r ≠ (if (k : Int) = ti then 1 else 0) then false else finB ti (k + 1) s
def finalB (pn : Nat) (ti : Int) (rs : List Row) : Bool := (decide (rs.length = pn) && endedB ti rs) && finB ti 0 rs
set_option maxRecDepth 100000 in
set_option maxHeartbeats 2000000 in
theorem mark_Total (A : Option Addr) (n c : Nat) (xs : List Bg) (w : World) (hA : Hid (Mk w A n c xs)) (zA : Hid (∀ b ∈ xs, b.n < 100000)) (hn : n < 100000) :
    Calls Tryz.prog 24 #[.slice A n c] w fun e w' => e = .returned (.int .i64 (totL (rowsB xs))) ∧ Below w.heap.size w w' := by
  have lA := Lib.hid hA.out.len
  have hbd := Lib.hid (show ∀ k, 0 ≤ totL (rowsB (xs.take k)) ∧ totL (rowsB (xs.take k)) ≤ 100000 * 104857600000 from fun k => by
    have h1 := totL_bound (K := 104857600000) (rs := rowsB (xs.take k)) (fun r hr => by
      obtain ⟨b, hb, rfl⟩ := List.mem_map.1 hr
      have hb2 := List.mem_of_mem_take hb
      have h1 := zA.out b hb2
      have h2 := (hA.out.bag b hb2).len
      have h3 := @totR_bound b.l
      omega)
    have h2 : (rowsB (xs.take k)).length ≤ 100000 := by unfold rowsB; rw [List.length_map, List.length_take]; have := lA.out; omega
    omega)
  go_enter Tryz.func24, Tryz.ntmps24
  go_wp2
  go_loopw [3, 5, 8] (fun a _ v wr => ∃ (k : Nat) (z : Int), k ≤ n ∧ a = .int .i64 z ∧ v = .int .i64 (k : Int) ∧ Hid (z = totL (rowsB (xs.take k))) ∧ Hid (Below w.heap.size w wr)) (fun _ _ v _ => n - (RowKit.intOf v).toNat)
  case atStart => exact ⟨0, 0, by omega, rfl, rfl, by show 0 = _; simp [rowsB, totL], Below.refl _ _⟩
  case round =>
    obtain ⟨k, z, hk, rfl, rfl, hz, hB2⟩ := hrel
    by_cases hlt : k < n
    · obtain ⟨b1, o1, g, rfl, e1, _, e3, _, e4⟩ := hA.out.at_ hlt
      replace e1 := cell_kept hB2.out e1
      have CS := Lib.hid (bag_Total g.A g.n g.c g.l wr (Lib.hid ((hA.out.bag g e3).below hB2.out).sl) (Lib.hid (hA.out.bag g e3).wf) (by have := zA.out g e3; omega))
      have hst : totL (rowsB (xs.take (k + 1))) = z + totR g.l := by rw [e4, hz.out]; unfold rowsB; rw [List.map_append]; exact totL_app _ _
      obtain ⟨y, hy⟩ : ∃ y, y = totR g.l := ⟨_, rfl⟩
      have h1 := hbd.out (k + 1)
      have h2 := @totR_bound g.l
      have h3 := hbd.out k
      have h4 := hz.out
      rw [← hy] at CS hst h2
      have hwr : z + y ≤ 9000000000000000000 ∧ 0 ≤ z + y := by omega
      have HST := Lib.hid hst
      obtain ⟨gA, gn, gc, gl⟩ := g
      simp only at e1 CS
      have hlt2 : (k : Int) < (n : Int) := by omega
      have hk0 : (0 : Int) ≤ (k : Int) := by omega
      clear e3 e4 hst hy h1 h2 h3 h4
      go_wp2_with fail
      refine CS.out.mono ?_
      rintro e w2 ⟨rfl, hb⟩
      have HB2 := Lib.hid (below_then hB2.out hb)
      clear hb
      go_wp2
      go_roundw
      case rel => exact ⟨k + 1, z + y, by omega, by go_num, by go_num, HST.out.symm, HB2.out⟩
      case measure => simp [RowKit.intOf]; omega
    · go_wp2
      go_ret
      have e1 : xs.take k = xs := List.take_of_length_le (by rw [lA.out]; omega)
      have := hz.out
      rw [e1] at this
      exact ⟨ret_i this, hB2.out⟩
set_option maxRecDepth 100000 in
set_option maxHeartbeats 2000000 in
theorem mark_Ended (C : Option Addr) (cn cc : Nat) (P : Option Addr) (pn pc : Nat) (T : Option Addr) (tn tc : Nat) (fr ti : Int) (A : Option Addr) (n c : Nat) (xs : List Bg) (w : World) (hA : Hid (Mk w A n c xs)) (zA : Hid (∀ b ∈ xs, b.n < 100000)) :
    Calls Tryz.prog 23 #[netV C cn cc P pn pc T tn tc fr ti, .slice A n c] w fun e w' => e = .returned (.bool (endedB ti (rowsB xs))) ∧ Below w.heap.size w w' := by
  have hn := hA.out.sl.bound
  have lA := Lib.hid (show (rowsB xs).length = n by unfold rowsB; rw [List.length_map]; exact hA.out.len)
  have HB0 := Lib.hid ((Below.refl w.heap.size w).alloc (Nat.le_refl _) (.cells #[.slice C cn cc, .slice P pn pc, .slice T tn tc, .int .i64 fr, .int .i64 ti] 42))
  by_cases h0 : 0 ≤ ti
  · by_cases h1 : ti < (n : Int)
    · obtain ⟨k, rfl⟩ : ∃ k : Nat, ti = (k : Int) := ⟨ti.toNat, by omega⟩
      have hkn : k < n := by omega
      obtain ⟨b1, o1, g, rfl, e1, _, e3, e5, _⟩ := hA.out.at_ hkn
      replace e1 := cell_kept HB0.out e1
      have CS := Lib.hid (bag_Total g.A g.n g.c g.l _ (Lib.hid ((hA.out.bag g e3).below HB0.out).sl) (Lib.hid (hA.out.bag g e3).wf) (by have := zA.out g e3; omega))
      have hrow : (rowsB xs).getD k [] = g.l := by unfold rowsB; rw [List.getD, List.getElem?_map, e5]; rfl
      have hres : endedB (k : Int) (rowsB xs) = decide (0 < totR g.l) := by
        unfold endedB
        rw [if_pos ⟨h0, by rw [lA.out]; exact h1⟩, Int.toNat_natCast, hrow]
      rw [hres]
      obtain ⟨y, hy⟩ : ∃ y, y = totR g.l := ⟨_, rfl⟩
      rw [← hy] at CS ⊢
      obtain ⟨gA, gn, gc, gl⟩ := g
      simp only at e1 CS
      clear e3 e5 hrow hres hy
      go_enter Tryz.func23, Tryz.ntmps23
      go_wp2_with fail
      refine CS.out.mono ?_
      rintro e w2 ⟨rfl, hb⟩
      have HB2 := Lib.hid (below_then HB0.out hb)
      clear hb
      go_wp2
      go_ret
      exact ⟨ret_b (by simp), HB2.out⟩
    · have hres : endedB ti (rowsB xs) = false := by unfold endedB; rw [if_neg (by rw [lA.out]; omega)]
      rw [hres]
      go_enter Tryz.func23, Tryz.ntmps23
      go_wp2
      go_ret
      exact ⟨rfl, HB0.out⟩
  · have hres : endedB ti (rowsB xs) = false := by unfold endedB; rw [if_neg (by omega)]
    rw [hres]
    go_enter Tryz.func23, Tryz.ntmps23
    go_wp2
    go_ret
    exact ⟨rfl, HB0.out⟩
theorem cell_new (w : World) (cs : Array Value) (t : TypeId) (j : Nat) (u : Value) (h : cs[j]? = some u) : (w.alloc (.cells cs t)).cell? ⟨w.heap.size, j, none⟩ = some u := by
  rw [cell_of_row _ w.heap.size j cs t (0, 0) (heap_alloc_new w _)]; exact h
set_option maxRecDepth 100000 in
set_option maxHeartbeats 2000000 in
theorem mark_Final (C : Option Addr) (cn cc : Nat) (P : Option Addr) (pn pc : Nat) (T : Option Addr) (tn tc : Nat) (fr ti : Int) (A : Option Addr) (n c : Nat) (xs : List Bg) (w : World) (hA : Hid (Mk w A n c xs)) (zA : Hid (∀ b ∈ xs, b.n < 100000)) :
    Calls Tryz.prog 22 #[netV C cn cc P pn pc T tn tc fr ti, .slice A n c] w fun e w' => e = .returned (.bool (finalB pn ti (rowsB xs))) ∧ Below w.heap.size w w' := by
  have hn := hA.out.sl.bound
  have lA := Lib.hid (show (rowsB xs).length = n by unfold rowsB; rw [List.length_map]; exact hA.out.len)
  have HB0 := Lib.hid ((Below.refl w.heap.size w).alloc (Nat.le_refl _) (.cells #[.slice C cn cc, .slice P pn pc, .slice T tn tc, .int .i64 fr, .int .i64 ti] 42))
  by_cases hnp : n = pn
  · subst hnp
    obtain ⟨E, hE⟩ : ∃ E, E = endedB ti (rowsB xs) := ⟨_, rfl⟩
    have CE := mark_Ended C cn cc P n pc T tn tc fr ti A n c xs _ (Lib.hid (hA.out.below HB0.out)) zA
    rw [← hE] at CE
    have HE := Lib.hid CE
    have hres : finalB n ti (rowsB xs) = (E && finB ti 0 (rowsB xs)) := by unfold finalB; rw [lA.out, ← hE]; simp
    rw [hres]
    clear CE hE hres
    cases E with
    | false =>
      go_enter Tryz.func22, Tryz.ntmps22
      go_wp2_with fail
      refine HE.out.mono ?_
      rintro e w2 ⟨rfl, hb⟩
      have HB2 := Lib.hid (below_then HB0.out hb)
      clear hb
      go_wp2
      go_ret
      exact ⟨ret_b rfl, HB2.out⟩
    | true =>
      obtain ⟨R, hR⟩ : ∃ R, R = finB ti 0 (rowsB xs) := ⟨_, rfl⟩
      rw [← hR, Bool.true_and]
      have HR := Lib.hid hR
      clear hR
      have hto := Lib.hid (cell_new w #[.slice C cn cc, .slice P n pc, .slice T tn tc, .int .i64 fr, .int .i64 ti] 42 4 (.int .i64 ti) rfl)
      go_enter Tryz.func22, Tryz.ntmps22
      go_wp2_with fail
      refine HE.out.mono ?_
      rintro e w2 ⟨rfl, hb⟩
      have HB2 := Lib.hid (below_then HB0.out hb)
      have HT := Lib.hid (cell_kept hb hto.out)
      clear hb hto
      have M2 := Lib.hid (hA.out.below HB2.out)
      go_wp2
      go_loopw [5, 6, 7, 22] (fun _ _ _ v wr => ∃ (k : Nat), k ≤ n ∧ v = .int .i64 (k : Int) ∧ Hid (finB ti k (rowsB (xs.drop k)) = R) ∧ Hid (Below w2.heap.size w2 wr)) (fun _ _ _ v _ => n - (RowKit.intOf v).toNat)
      case atStart => exact ⟨0, by omega, rfl, HR.out.symm, Below.refl _ _⟩
      case round =>
        obtain ⟨k, hk, rfl, hr, hB3⟩ := hrel
        have ht := cell_kept hB3.out HT.out
        by_cases hlt : k < n
        · obtain ⟨b1, o1, g, rfl, e1, e2, e3, _, _⟩ := M2.out.at_ hlt
          replace e1 := cell_kept hB3.out e1
          have CS := Lib.hid (bag_Total g.A g.n g.c g.l wr (Lib.hid ((M2.out.bag g e3).below hB3.out).sl) (Lib.hid (M2.out.bag g e3).wf) (by have := zA.out g e3; omega))
          obtain ⟨y, hy⟩ : ∃ y, y = totR g.l := ⟨_, rfl⟩
          have hst := Lib.hid (show R = if y ≠ (if (k : Int) = ti then 1 else 0) then false else finB ti (k + 1) (rowsB (xs.drop (k + 1))) by
            rw [← hr.out, e2, hy]; rfl)
          rw [← hy] at CS
          obtain ⟨gA, gn, gc, gl⟩ := g
          simp only at e1 CS
          have hlt2 : (k : Int) < (n : Int) := by omega
          have hk0 : (0 : Int) ≤ (k : Int) := by omega
          clear e2 e3 hy
          by_cases hkt : (k : Int) = ti
          · subst hkt
            by_cases hy1 : y = 1
            · go_wp2_with fail
              refine CS.out.mono ?_
              rintro e w3 ⟨rfl, hb⟩
              have HB3 := Lib.hid (below_then hB3.out hb)
              clear hb
              go_wp2
              go_roundw
              case rel => exact ⟨k + 1, by omega, by go_num, by show _ = R; rw [hst.out, if_pos trivial, if_neg (by omega)], HB3.out⟩
              case measure => simp [RowKit.intOf]; omega
            · go_wp2_with fail
              refine CS.out.mono ?_
              rintro e w3 ⟨rfl, hb⟩
              have HB3 := Lib.hid (below_then hB3.out hb)
              clear hb
              go_wp2
              go_ret
              exact ⟨ret_b (by rw [hst.out, if_pos trivial, if_pos hy1]), below_then HB2.out HB3.out⟩
          · by_cases hy1 : y = 0
            · go_wp2_with fail
              refine CS.out.mono ?_
              rintro e w3 ⟨rfl, hb⟩
              have HB3 := Lib.hid (below_then hB3.out hb)
              clear hb
              go_wp2
              go_roundw
              case rel => exact ⟨k + 1, by omega, by go_num, by show _ = R; rw [hst.out, if_neg hkt, if_neg (by omega)], HB3.out⟩
              case measure => simp [RowKit.intOf]; omega
            · go_wp2_with fail
              refine CS.out.mono ?_
              rintro e w3 ⟨rfl, hb⟩
              have HB3 := Lib.hid (below_then hB3.out hb)
              clear hb
              go_wp2
              go_ret
              exact ⟨ret_b (by rw [hst.out, if_neg hkt, if_pos hy1]), below_then HB2.out HB3.out⟩
        · go_wp2
          go_ret
          have e1 : xs.drop k = [] := List.drop_eq_nil_of_le (by have := hA.out.len; omega)
          have := hr.out
          rw [e1] at this
          exact ⟨ret_b this, below_then HB2.out hB3.out⟩
  · have hres : finalB pn ti (rowsB xs) = false := by unfold finalB; rw [lA.out, decide_eq_false hnp]; rfl
    rw [hres]
    go_enter Tryz.func22, Tryz.ntmps22
    go_wp2
    go_ret
    exact ⟨rfl, HB0.out⟩
end Go.Proofs.YtajcleobmgjhoaaGreatDoor
