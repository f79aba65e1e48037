/- Contracts: Pairs; rows of two compared. -/
import Derived.Test.YtkcggnfbmbfciaaTimT
import Derived.Laws.StructEq
import Derived.ChangeKeysEq
namespace Go.Proofs.Ytkcggnfbmbfciaa
open Go.RowKit
theorem eq_pair (a b c d : Int) (w : World) (D : Nat) : (Op.equalIn (D + 2) 28 (.agg #[.int .i64 a, .int .i64 b]) (.agg #[.int .i64 c, .int .i64 d])).run Try.prog w = .ok (a == c && b == d) w := by
  obtain ⟨i, hi, _⟩ := info_parts (P := Try.prog) (e := 3) (z := .int .i64 0) (size := 1) (bytes := 8) (by kernel_rfl)
  rw [run_equalIn_array w (D + 1) #[.int .i64 a, .int .i64 b] #[.int .i64 c, .int .i64 d] Try.underlying28 hi]
  have hc : Try.prog.cellsOf 3 = 1 := by kernel_rfl
  have p0 : ∀ (x y : Int) (w : World), (part 3 #[.int .i64 x, .int .i64 y] 0).run Try.prog w = .ok (.int .i64 x) w := fun _ _ _ => by kernel_rfl
  have p1 : ∀ (x y : Int) (w : World), (part 3 #[.int .i64 x, .int .i64 y] 1).run Try.prog w = .ok (.int .i64 y) w := fun _ _ _ => by kernel_rfl
  have e1 : List.range 2 = [0, 1] := rfl
  have q := fun (x y : Int) (w : World) => run_equalIn_int (P := Try.prog) w D 3 .i64 .i64 x y Try.underlying3
  rw [hc, e1]
  simp only [Op.eqItems, Sem.run_bind, Nat.zero_mul, Nat.one_mul, p0, q, Result.andThen_ok]
  rcases h : (a == c) with _ | _
  · simp
  · simp only [Bool.not_true, Bool.false_eq_true, if_false, Sem.run_bind, p1, q, Result.andThen_ok, Bool.true_and]
    rcases (b == d) with _ | _ <;> simp
theorem neq_pair (a b c d : Int) (w : World) : (binOp .neq 28 (.agg #[.int .i64 a, .int .i64 b]) (.agg #[.int .i64 c, .int .i64 d])).run Try.prog w = .ok (.bool (!(a == c && b == d))) w := by
  rw [run_neq_struct, eq_pair a b c d w 9998]; rfl
theorem pairs_eq_of {l m : List (Int × Int)} (hl : l.length = m.length) (h : ∀ j, j < l.length → l.getD j (0, 0) = m.getD j (0, 0)) : l = m := by
  refine List.ext_getElem hl fun j h1 h2 => ?_
  have := h j h1
  simpa [List.getD, h1, h2] using this
set_option maxHeartbeats 1000000 in
theorem ref_Pairs (A B : Option Addr) (n m c d : Nat) (la lb : List (Int × Int)) (w : World) (hA : Hid (Sl w (.slice A n c) n 2 (pairCells la))) (hB : Hid (Sl w (.slice B m d) m 2 (pairCells lb))) (hn : n ≤ 9223372036854775807) (hm : m ≤ 9223372036854775807) :
    Calls Try.prog 17 #[.slice A n c, .slice B m d] w fun e w' => e = .returned (.bool (decide (la = lb))) ∧ ∃ k, w' = w.drewN k := by
  have hla := Lib.hid (show la.length = n by have := hA.out.len; rw [pairCells_len] at this; omega)
  have hlb := Lib.hid (show lb.length = m by have := hB.out.len; rw [pairCells_len] at this; omega)
  by_cases hnm : n = m
  · subst hnm
    go_enter Try.func17, Try.ntmps17
    go_wp2
    go_loopw [5] (fun v wr => ∃ (k q : Nat), k ≤ n ∧ v = .int .i64 (k : Int) ∧ wr = w.drewN q ∧ Hid (∀ j, j < k → la.getD j (0, 0) = lb.getD j (0, 0))) (fun v _ => n - (intOf v).toNat)
    case atStart => exact ⟨0, 0, by omega, rfl, rfl, fun j hj => by omega⟩
    case round =>
      obtain ⟨k, q, hk, rfl, rfl, hj⟩ := hrel
      by_cases hlt : k < n
      · obtain ⟨b1, o1, rfl, c1, c2⟩ := hA.out.pair_at hlt
        obtain ⟨b2, o2, rfl, c3, c4⟩ := hB.out.pair_at hlt
        obtain ⟨x, hx⟩ : ∃ x, x = la.getD k (0, 0) := ⟨_, rfl⟩
        obtain ⟨y, hy⟩ : ∃ y, y = lb.getD k (0, 0) := ⟨_, rfl⟩
        rw [← hx] at c1 c2
        rw [← hy] at c3 c4
        have HX := Lib.hid hx
        have HY := Lib.hid hy
        have hlt2 : (k : Int) < (n : Int) := by omega
        have hk0 : (0 : Int) ≤ (k : Int) := by omega
        clear hx hy
        obtain ⟨x1, x2⟩ := x
        obtain ⟨y1, y2⟩ := y
        simp only at c1 c2 c3 c4
        have nq := neq_pair
        rcases h1 : (x1 == y1) with _ | _
        · have H1 := Lib.hid h1
          go_wp2
          go_quiet (fail)
          go_wp2
          go_ret
          refine ⟨ret_b ?_, _, drew2 _ _ _⟩
          symm
          rw [decide_eq_false_iff_not]
          intro e
          have h3 := H1.out
          have h4 : (x1, x2) = (y1, y2) := by rw [HX.out, HY.out, e]
          injection h4 with h4 _
          rw [h4] at h3
          simp at h3
        · rcases h2 : (x2 == y2) with _ | _
          · have H1 := Lib.hid h2
            go_wp2
            go_quiet (fail)
            go_wp2
            go_ret
            refine ⟨ret_b ?_, _, drew2 _ _ _⟩
            symm
            rw [decide_eq_false_iff_not]
            intro e
            have h3 := H1.out
            have h4 : (x1, x2) = (y1, y2) := by rw [HX.out, HY.out, e]
            injection h4 with _ h4
            rw [h4] at h3
            simp at h3
          · have H1 := Lib.hid h1
            have H2 := Lib.hid h2
            go_wp2
            go_quiet (fail)
            go_wp2
            go_roundw
            case rel =>
              refine ⟨k + 1, _, by omega, by go_num, rfl, fun j hj2 => ?_⟩
              by_cases e : j = k
              · rw [e, ← HX.out, ← HY.out]
                have h3 : x1 = y1 := by simpa using H1.out
                have h4 : x2 = y2 := by simpa using H2.out
                rw [h3, h4]
              · exact hj.out j (by omega)
            case measure => simp [intOf]; omega
      · go_wp2
        go_ret
        refine ⟨ret_b ?_, _, rfl⟩
        symm
        rw [decide_eq_true_eq]
        exact pairs_eq_of (by rw [hla.out, hlb.out]) fun j h => hj.out j (by rw [hla.out] at h; omega)
  · have d1 : ((n : Int) != (m : Int)) = true := by simp; omega
    have e1 : decide (la = lb) = false := by
      rw [decide_eq_false_iff_not]
      intro e
      have h1 := hla.out
      have h2 := hlb.out
      rw [e] at h1
      omega
    rw [e1]
    go_enter Try.func17, Try.ntmps17
    go_wp2
    go_ret
    exact ⟨rfl, 0, rfl⟩
end Go.Proofs.Ytkcggnfbmbfciaa
