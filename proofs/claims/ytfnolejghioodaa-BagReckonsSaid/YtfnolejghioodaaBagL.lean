/- Contracts of package bag: List, Of. -/
import Derived.Test.YtfnolejghioodaaBagK
namespace Go.Proofs.Ytfnolejghioodaa
open Go.RowKit
theorem ints_ty : SlTy Try.prog 24 3 1 8 := SlTy.mk (z := .int .i64 0) (by kernel_rfl) (by kernel_rfl) rfl (by decide)
/-- The members, one by one. -/
def flatM (l : Row) : List Int := l.flatMap fun p => List.replicate p.2.toNat p.1
def listM (l : Row) (most : Int) : List Int := if rightB l then (flatM l).take most.toNat else []
theorem flatM_snoc (l : Row) (p : Int × Int) : flatM (l ++ [p]) = flatM l ++ List.replicate p.2.toNat p.1 := by simp [flatM]
theorem I64_flat {l : Row} (h : I64s l) : ∀ x ∈ flatM l, I64 x := by
  intro x hx
  obtain ⟨p, hp, hx⟩ := List.mem_flatMap.1 hx
  rw [(List.mem_replicate.1 hx).2]
  exact (h p hp).1
theorem intCells_app (l m : List Int) : intCells (l ++ m) = intCells l ++ intCells m := by simp [intCells]
def ListP (l : Row) (most : Int) (w : World) (e : Ending) (w' : World) : Prop :=
  ∃ A c, e = .returned (.slice A (listM l most).length c) ∧ w'.ownsRow w.heap.size 3 1 (.slice A (listM l most).length c) (listM l most).length (intCells (listM l most)) ∧ Below w.heap.size w w'
theorem take_step {L : List Int} {x : Int} {k j : Nat} (h : ((L ++ List.replicate k x).take j).length < j) :
    (L ++ List.replicate (k + 1) x).take j = (L ++ List.replicate k x).take j ++ [x] := by
  have hj : (L ++ List.replicate k x).length < j := by rw [List.length_take] at h; omega
  have h1 : (L ++ List.replicate k x).take j = L ++ List.replicate k x := List.take_of_length_le (by omega)
  rw [h1, List.replicate_succ', ← List.append_assoc]
  exact List.take_of_length_le (by rw [List.length_append]; simp at hj ⊢; omega)
theorem take_full {L : List Int} {x : Int} {k k' j : Nat} (hj : j ≤ ((L ++ List.replicate k x).take j).length) (hk : k ≤ k') : (L ++ List.replicate k' x).take j = (L ++ List.replicate k x).take j := by
  have e : k' = k + (k' - k) := by omega
  rw [List.length_take] at hj
  rw [e, ← List.replicate_append_replicate, ← List.append_assoc, List.take_append_of_le_length (by omega)]
set_option maxHeartbeats 2000000 in
theorem bag_List (A : Option Addr) (n c : Nat) (l : Row) (most : Int) (w : World) (hA : Hid (Sl w (.slice A n c) n 2 (pairCells l))) (hmost : most ≤ 1000000000000) :
    Calls Try.prog 20 #[.slice A n c, .int .i64 most] w (ListP l most w) := by
  have hn := hA.out.bound
  have hl := Lib.hid (show l.length = n by have := hA.out.len; rw [pairCells_len] at this; omega)
  have cR := Lib.hid (bag_Right A n c l w hA)
  obtain ⟨R, hR⟩ : ∃ R, R = rightB l := ⟨_, rfl⟩
  rw [← hR] at cR
  have HR := Lib.hid hR
  clear hR
  cases R with
  | false =>
    go_enter Try.func20, Try.ntmps20
    go_wp2_with fail
    refine cR.out.mono ?_
    rintro e w1 ⟨rfl, hb1⟩
    have HB1 := Lib.hid hb1
    clear hb1
    go_wp2
    go_ret
    have e1 : listM l most = [] := by unfold listM; rw [← HR.out]; rfl
    unfold ListP
    rw [e1]
    exact ⟨none, 0, rfl, World.ownsRow_nil _ _ _ _, HB1.out⟩
  | true =>
    have hok := Lib.hid ((rightB_iff l).1 HR.out.symm)
    have htn : most.toNat ≤ 1000000000000 := by omega
    obtain ⟨t, ht⟩ : ∃ t, t = most.toNat := ⟨_, rfl⟩
    rw [← ht] at htn
    have HT := Lib.hid ht
    clear ht
    go_enter Try.func20, Try.ntmps20
    go_wp2_with fail
    refine cR.out.mono ?_
    rintro e w1 ⟨rfl, hb1⟩
    have HB1 := Lib.hid hb1
    clear hb1
    go_wp2_with fail
    go_loopw [5, 14] (fun o v wr => ∃ (k j : Nat) (A' : Option Addr) (c' : Nat), k ≤ n ∧ v = .int .i64 (k : Int) ∧ o = .slice A' j c' ∧ Hid (j = ((flatM (l.take k)).take t).length) ∧ Hid (wr.ownsRow w1.heap.size 3 1 (.slice A' j c') j (intCells ((flatM (l.take k)).take t))) ∧ Hid (Below w1.heap.size w1 wr)) (fun _ v _ => n - (RowKit.intOf v).toNat)
    case atStart => exact ⟨0, 0, none, 0, by omega, rfl, rfl, (by show 0 = _; simp [flatM]), (by simp only [List.take_zero, flatM, List.flatMap_nil, List.take_nil]; exact World.ownsRow_nil _ _ _ _), Below.refl _ _⟩
    case round =>
      obtain ⟨k, j, A', c', hk, rfl, rfl, hj, hO, hB⟩ := hrel
      by_cases hlt : k < n
      · obtain ⟨b1, o1, rfl, c1, c2⟩ := hA.out.pair_at hlt
        replace c1 := cell_kept hB.out (cell_kept HB1.out c1)
        replace c2 := cell_kept hB.out (cell_kept HB1.out c2)
        obtain ⟨p, hp⟩ : ∃ p, p = l.getD k (0, 0) := ⟨_, rfl⟩
        rw [← hp] at c1 c2
        have hts := take_snoc (M := l) (k := k) (by rw [hl.out]; exact hlt)
        rw [← hp] at hts
        have hpk := hok.out.2 p (by rw [hp, List.getD, List.getElem?_eq_getElem (by rw [hl.out]; exact hlt)]; exact List.getElem_mem _)
        clear hp
        obtain ⟨x, y⟩ := p
        simp only at c1 c2 hts hpk
        have hfl := flatM_snoc (l.take k) (x, y)
        rw [← hts] at hfl
        have HFL := Lib.hid hfl
        obtain ⟨q1, q2, q3⟩ := hpk
        have hlt2 : (k : Int) < (n : Int) := by omega
        have hk0 : (0 : Int) ≤ (k : Int) := by omega
        obtain ⟨L, hL⟩ : ∃ L, L = flatM (l.take k) := ⟨_, rfl⟩
        rw [← hL] at hj hO HFL
        have hBx := Lib.hid (hB.out.alloc hB.out.size (.cells #[.int .i64 x, .int .i64 y] 39))
        have hOx := Lib.hid (show (wr.alloc (.cells #[.int .i64 x, .int .i64 y] 39)).ownsRow w1.heap.size 3 1 (.slice A' j c') j (intCells (L.take t)) from World.ownsRow.alloc hO.out _)
        have hbx0 : (wr.alloc (.cells #[.int .i64 x, .int .i64 y] 39)).heap[wr.heap.size]? = some (.cells #[.int .i64 x, .int .i64 y] 39 (0, 0)) := heap_alloc_new _ _
        have HBX0 := Lib.hid hbx0
        have hjt : j ≤ t := by rw [hj.out, List.length_take]; omega
        have hszr := hB.out.size
        clear hts hfl hL hbx0
        have hne0 := Lib.hid (show ∀ q, (Value.slice A' j c').ownBlock = some q → q ≠ wr.heap.size from fun q hq => by have := (hO.out.lt q hq).2; omega)
        have hone := Lib.hid (show ∀ u ∈ [Value.int .i64 x], u.oneCell' = true by
          intro u hu
          simp only [List.mem_cons, List.not_mem_nil, or_false] at hu
          subst hu
          rfl)
        obtain ⟨bx, hbx⟩ : ∃ bx, bx = wr.heap.size := ⟨_, rfl⟩
        rw [← hbx] at hne0 HBX0
        have HBX := Lib.hid hbx
        go_wp2
        rw [← hbx]
        clear hbx c1 c2
        go_loopw [5, 8] (fun o v w3 => ∃ (i j2 : Nat) (A3 : Option Addr) (c3 : Nat), (i : Int) ≤ y ∧ v = .int .i64 (i : Int) ∧ o = .slice A3 j2 c3 ∧ Hid (j2 = ((L ++ List.replicate i x).take t).length) ∧
          Hid (w3.ownsRow w1.heap.size 3 1 (.slice A3 j2 c3) j2 (intCells ((L ++ List.replicate i x).take t))) ∧ Hid (Below w1.heap.size w1 w3) ∧ Hid (∀ q, (Value.slice A3 j2 c3).ownBlock = some q → q ≠ bx) ∧ Hid (w3.heap[bx]? = some (.cells #[.int .i64 x, .int .i64 y] 39 (0, 0)))) (fun _ v _ => y.toNat - (RowKit.intOf v).toNat)
        case atStart => exact ⟨0, j, A', c', by omega, rfl, rfl, (by show j = _; rw [List.replicate_zero, List.append_nil]; exact hj.out), (by rw [List.replicate_zero, List.append_nil]; exact hOx.out), hBx.out, hne0.out, HBX0.out⟩
        case round =>
          obtain ⟨i, j2, A3, c3, hiy, rfl, rfl, hj2, hO3, hB3, hne3, hbx3⟩ := hrel
          have d1 : wr.cell? ⟨bx, 0, none⟩ = some (.int .i64 x) := by rw [cell_of_row _ _ _ _ _ _ hbx3.out]; rfl
          have d2 : wr.cell? ⟨bx, 1, none⟩ = some (.int .i64 y) := by rw [cell_of_row _ _ _ _ _ _ hbx3.out]; rfl
          have hj2t : j2 ≤ t := by rw [hj2.out, List.length_take]; omega
          have hjc : j2 ≤ c3 ∧ c3 ≤ 9223372036854775807 := by
            obtain ⟨_, _, e9, hjc, hc9⟩ := own_form hO3.out
            injection e9 with _ _ e9
            subst e9
            exact ⟨hjc, hc9⟩
          obtain ⟨hjc, hc9⟩ := hjc
          have hs3 := hB3.out.size
          by_cases h1 : (i : Int) < y
          · by_cases h2 : (j2 : Int) < most
            · have hst := Lib.hid (take_step (L := L) (x := x) (k := i) (j := t) (by rw [← hj2.out]; have := HT.out; omega))
              have hlq := Lib.hid (show j2 + 1 = ((L ++ List.replicate (i + 1) x).take t).length by rw [hst.out, List.length_append, ← hj2.out]; rfl)
              have HNE := Lib.hid (show bx < wr.heap.size from (Array.getElem?_eq_some_iff.1 hbx3.out).1)
              go_wp2_with (at_builtin; refine wpList_append_sl ints_ty rfl (.tmp 30) (.tmp 33) rfl w1.heap.size rfl (by exact (World.ownsRow.alloc hO3.out _)) rfl (by exact Sl.new _ _ [Value.int .i64 x] 1 1 rfl (by omega)) hone.out (by omega) (by omega) (by simp; omega) ?_; intro v4 w4 hown4 hg4 hat4; obtain ⟨A4, c4, rfl, _, _⟩ := own_form hown4; have HO4 := Lib.hid hown4; have HG4 := Lib.hid hg4; have HA4 := Lib.hid hat4; clear hown4 hg4 hat4 d1 d2)
              go_roundw
              case rel =>
                refine ⟨i + 1, j2 + 1, A4, c4, by omega, by go_num, rfl, hlq.out, ?_, (hB3.out.alloc hs3 (.cells #[.int .i64 x] 3)).grown HG4.out (by simp; omega) (fun q hq => (hO3.out.lt q hq).1), fun q hq => ?_, ?_⟩
                · rw [hst.out, intCells_app]; exact HO4.out
                · rcases HA4.out with h | h
                  · exact hne3.out q (h ▸ hq)
                  · rw [hq] at h
                    injection h with h
                    have := HNE.out
                    rw [h]; simp; omega
                · rw [HG4.out.block bx (by simp; have := HNE.out; omega) (fun e => hne3.out bx e.symm rfl)]
                  exact (Below.heap_alloc _ _ _ HNE.out).trans hbx3.out
              case measure => simp [RowKit.intOf]; omega
            · have hfu := Lib.hid (take_full (L := L) (x := x) (k := i) (k' := y.toNat) (j := t) (by rw [← hj2.out]; have := HT.out; omega) (by omega))
              rw [← HFL.out] at hfu
              go_wp2
              go_roundw
              case rel =>
                refine ⟨k + 1, j2, A3, c3, by omega, by go_num, rfl, ?_, ?_, hB3.out⟩
                · rw [hfu.out]; exact hj2.out
                · rw [hfu.out]; exact hO3.out
              case measure => simp [RowKit.intOf]; omega
          · have hiy2 : i = y.toNat := by omega
            have hfu := Lib.hid (show (flatM (l.take (k + 1))).take t = (L ++ List.replicate i x).take t by rw [HFL.out, hiy2])
            clear hiy2
            go_wp2
            go_roundw
            case rel =>
              refine ⟨k + 1, j2, A3, c3, by omega, by go_num, rfl, ?_, ?_, hB3.out⟩
              · rw [hfu.out]; exact hj2.out
              · rw [hfu.out]; exact hO3.out
            case measure => simp [RowKit.intOf]; omega
      · go_wp2
        go_ret
        have e1 : l.take k = l := List.take_of_length_le (by rw [hl.out]; omega)
        have h8 := hj.out
        have h9 := hO.out
        rw [e1] at h8 h9
        have e2 : listM l most = (flatM l).take t := by unfold listM; rw [← HR.out, HT.out]; rfl
        unfold ListP
        rw [e2, ← h8]
        exact ⟨A', c', rfl, own_base h9 HB1.out.size, below_then HB1.out hB.out⟩
end Go.Proofs.Ytfnolejghioodaa
