/- The document's queue of layer 14: Add. -/
import Derived.Test.YtkcggnfbmbfciaaTimRc
import Derived.Deep.DeepCutAuto
import Derived.Deep.CutBlock
namespace Go.Proofs.Ytkcggnfbmbfciaa
open Go.RowKit
theorem pair_ins {T1 T2 : List (Int × Int)} {id at_ : Int} : pairCells T1 ++ [Value.int .i64 id, .int .i64 at_] ++ pairCells T2 = pairCells (T1 ++ (id, at_) :: T2) := by
  unfold pairCells
  rw [List.flatMap_append, List.flatMap_cons, List.append_assoc]
theorem two_a (w : World) (o c : Obj) : ((w.alloc o).alloc c).drew.heap[w.heap.size + 1]? = some c := by
  have := heap_alloc_new (w.alloc o) c
  have e : (w.alloc o).heap.size = w.heap.size + 1 := by simp
  rw [e] at this
  exact this
theorem two_b (w : World) (o c : Obj) : ((w.alloc c).alloc o).drew.heap[w.heap.size]? = some c := by
  have h : ((w.alloc c).alloc o).heap[w.heap.size]? = some c := by
    rw [Below.heap_alloc _ _ _ (by simp)]
    exact heap_alloc_new w c
  exact h
theorem Sl.one_kept {W w1 : World} {g : Nat} {row : Option Nat} {x y : Int} {t : TypeId} (hc : W.heap[g]? = some (.cells #[.int .i64 x, .int .i64 y] t (0, 0))) (hg : W.grownBy w1 row) (hne : row ≠ some g) :
    Sl w1 (.slice (some ⟨g, 0, none⟩) 1 1) 1 2 [.int .i64 x, .int .i64 y] := by
  have hlt := (Array.getElem?_eq_some_iff.1 hc).1
  have hb := (hg.block g hlt (fun e => hne e.symm)).trans hc
  refine ⟨_, 1, rfl, Nat.le_refl _, by decide, rfl, fun _ => ⟨g, 0, rfl, fun j u hu => ?_⟩⟩
  rw [cell_of_row _ _ _ _ _ _ hb]
  simpa using hu
set_option maxHeartbeats 1000000 in
theorem ref_Add_yes (y base c : Nat) (A : Option Addr) (S : List (Int × Int)) (id at_ : Int) (w : World) (H : Hid (RQ w y base A c S)) (hn : S.length < 4096) (hh : Hid (hasP id S = true)) :
    Calls Try.prog 20 #[.pointer (some ⟨y, 0, none⟩), .int .i64 id, .int .i64 at_] w fun e w' => e = .returned (.int .i64 5) ∧ w = w' := by
  have q0 := H.out.cell
  have hS := Sl.of_own H.out.row
  obtain ⟨n, hnn⟩ : ∃ n, n = S.length := ⟨_, rfl⟩
  rw [← hnn] at q0 hS hn
  have cF := Lib.hid (ref_find y n c A S id w (Lib.hid q0) (Lib.hid hS) (by omega))
  clear hnn hS
  go_enter Try.func20, Try.ntmps20
  go_wp2_with fail
  refine cF.out.mono ?_
  rintro e w1 ⟨r, rfl, hF, rfl⟩
  have hr : (0 : Int) ≤ r := by
    have := fnd_has hF.out
    rw [hh.out] at this
    simpa using this
  go_wp2
  go_ret
  exact ⟨rfl, rfl⟩
set_option maxRecDepth 100000 in
set_option maxHeartbeats 20000000 in
theorem ref_Add_no (y base c : Nat) (A : Option Addr) (S : List (Int × Int)) (id at_ : Int) (w : World) (H : Hid (RQ w y base A c S)) (hn : S.length < 4096) (hbase : base ≤ w.heap.size) (hh : Hid (hasP id S = false)) :
    Calls Try.prog 20 #[.pointer (some ⟨y, 0, none⟩), .int .i64 id, .int .i64 at_] w (RTurned w y base (insP (id, at_) S) 0) := by
  have q0 := H.out.cell
  have f0 := H.out.fro
  have hS := Sl.of_own H.out.row
  have hy := H.out.lt
  obtain ⟨n, hnn⟩ : ∃ n, n = S.length := ⟨_, rfl⟩
  have HN := Lib.hid hnn
  rw [← hnn] at q0 hS hn
  have cF := Lib.hid (ref_find y n c A S id w (Lib.hid q0) (Lib.hid hS) (by omega))
  have HS := Lib.hid hS
  have hnc : n ≤ c ∧ c ≤ 9223372036854775807 := by
    obtain ⟨_, _, e, h1, h2, _⟩ := hS
    injection e with _ _ e
    omega
  obtain ⟨hnc, hc9⟩ := hnc
  clear hnn hS
  go_enter Try.func20, Try.ntmps20
  go_wp2_with fail
  refine cF.out.mono ?_
  rintro e w1 ⟨r, rfl, hF, rfl⟩
  obtain rfl : r = -1 := by
    rcases hF.out with ⟨k, hk, h2, h3⟩ | ⟨h, _⟩
    · have := has_iff.2 ⟨_, getD_memP hk, h3⟩
      rw [hh.out] at this; cases this
    · exact h
  have hn4 : (n : Int) < 4096 := by omega
  clear hF
  go_upto_block 0 with fail
  go_cut [7] (fun v wx => ∃ k : Nat, k ≤ n ∧ v = .int .i64 (k : Int) ∧ wx = w ∧ Hid (insP (id, at_) S = S.take k ++ (id, at_) :: S.drop k))
  case first =>
    go_wp2_with fail
    go_loopw [7] (fun v wr => ∃ (k : Nat), k ≤ n ∧ v = .int .i64 (k : Int) ∧ wr = w ∧ Hid (∀ j, j < k → ltP (S.getD j (0, 0)) (id, at_))) (fun v _ => n - (intOf v).toNat)
    case atStart => exact ⟨0, by omega, rfl, rfl, fun j hj => by omega⟩
    case round =>
      obtain ⟨k, hk, rfl, hwr, hj⟩ := hrel
      subst hwr
      by_cases hlt : k < n
      · obtain ⟨b, off, rfl, c0, c1⟩ := HS.out.pair_at hlt
        obtain ⟨x, hx⟩ : ∃ x, x = S.getD k (0, 0) := ⟨_, rfl⟩
        rw [← hx] at c0 c1
        have HX := Lib.hid hx
        have hlt2 : (k : Int) < (n : Int) := by omega
        have hk0 : (0 : Int) ≤ (k : Int) := by omega
        clear hx
        obtain ⟨x1, x2⟩ := x
        simp only at c0 c1
        have hgo : Hid (ltP (x1, x2) (id, at_) → ∀ j, j < k + 1 → ltP (S.getD j (0, 0)) (id, at_)) := by
          intro h j hj2
          by_cases e : j = k
          · rw [e, ← HX.out]; exact h
          · exact hj.out j (by omega)
        have hno : Hid (¬ ltP (x1, x2) (id, at_) → insP (id, at_) S = S.take k ++ (id, at_) :: S.drop k) := by
          intro h
          exact ins_split (by rw [← HN.out]; exact hk) hj.out (fun _ => by rw [← HX.out]; exact h)
        by_cases h1 : x2 < at_
        · have HP : Hid (ltP (x1, x2) (id, at_)) := .inl h1
          go_wp2
          go_roundw
          case rel => exact ⟨k + 1, by omega, by go_num, by trivial, hgo.out HP.out⟩
          case measure => simp [intOf]; omega
        · by_cases h2 : x2 = at_
          · subst h2
            have e1 : (x2 == x2) = true := by simp
            by_cases h3 : x1 < id
            · have HP : Hid (ltP (x1, x2) (id, x2)) := .inr ⟨rfl, h3⟩
              go_wp2
              go_roundw
              case rel => exact ⟨k + 1, by omega, by go_num, by trivial, hgo.out HP.out⟩
              case measure => simp [intOf]; omega
            · have HP : Hid (¬ ltP (x1, x2) (id, x2)) := by
                show ¬ (x2 < x2 ∨ x2 = x2 ∧ x1 < id)
                omega
              have h4 : id ≤ x1 := by omega
              go_wp2
              go_meet
              exact ⟨k, by omega, rfl, rfl, hno.out HP.out⟩
          · have HP : Hid (¬ ltP (x1, x2) (id, at_)) := by
              show ¬ (x2 < at_ ∨ x2 = at_ ∧ x1 < id)
              omega
            have h4 : at_ < x2 := by omega
            have e1 : (x2 == at_) = false := by simpa using h2
            clear h2 h1
            go_wp2
            go_meet
            exact ⟨k, by omega, rfl, rfl, hno.out HP.out⟩
      · go_wp2
        go_meet
        exact ⟨k, by omega, rfl, rfl, ins_split (by rw [← HN.out]; exact hk) hj.out (fun h => absurd h (by rw [← HN.out]; omega))⟩
  case rest =>
    obtain ⟨k, hk, rfl, hwc, HD0⟩ := hcut
    have hwc2 := hwc.symm
    clear hwc
    subst hwc2
    have hkc : k ≤ c := by omega
    have hk0 : 0 ≤ (k : Int) := by omega
    have hkn : (k : Int) ≤ (n : Int) := by omega
    have T1 := Lib.hid (HS.out.take_ (k := k) hk)
    have T2 := Lib.hid (HS.out.drop_ (k := k) hk)
    have ONE := Lib.hid (pone id at_)
    have E4 := Lib.hid (show pairCells (S.take k) ++ [Value.int .i64 id, .int .i64 at_] ++ pairCells (S.drop k) = pairCells (insP (id, at_) S) by rw [HD0.out, pair_ins])
    have HM := Lib.hid (show k + 1 + (n - k) = (insP (id, at_) S).length by rw [HD0.out, List.length_append, List.length_cons, List.length_take, List.length_drop, ← HN.out]; omega)
    obtain ⟨D, hD1, hD2⟩ : ∃ D, (if c = k then A else A.map (fun x => x.add (k * 2))) = D ∧ dropA A c k = D := ⟨_, rfl, rfl⟩
    rw [hD2] at T2
    clear hD2
    go_wp2
    go_region_law (first
      | (refine step_append_sl rpairs_ty rfl (.tmp 64) (.tmp 70) rfl w.heap.size rfl (by first | exact own_drew (own_fresh _ _ _ _ rfl (Nat.le_refl _)) | exact own_drew ((own_fresh _ _ _ _ rfl (Nat.le_refl _)).alloc _) | exact own_drew (own_fresh _ _ _ _ (by simp) (by simp))) rfl (by first | exact T1.out.below ((Below.refl _ w).alloc (Nat.le_refl _) _).drew | exact T1.out.below (((Below.refl _ w).alloc (Nat.le_refl _) _).alloc (by simp) _).drew) (pair_one _) (by omega) (by omega) (by first | (simp; omega) | simp) ?_; intro v1 w1 hown1 hg0 hat1; have hg1 : World.grownBy _ w1 (some _) := hg0; have hb1 : Below w.heap.size w w1 := (by first | exact (((Below.refl _ w).alloc (Nat.le_refl _) _).drew).grown hg1 (by first | (simp; omega) | simp) (fun q hq => by cases hq; first | exact Nat.le_refl _ | (simp; omega) | simp) | exact ((((Below.refl _ w).alloc (Nat.le_refl _) _).alloc (by simp) _).drew).grown hg1 (by first | (simp; omega) | simp) (fun q hq => by cases hq; first | exact Nat.le_refl _ | (simp; omega) | simp)); have HB1 := Lib.hid hb1; have hy1 : y < w1.heap.size := Nat.lt_of_lt_of_le hy hb1.size; have q1 := cell_kept hb1 q0; have HO1 := Lib.hid hown1; have HG1 := Lib.hid hg1; clear hown1 hg1 hg0 hat1 hb1)
      | (refine step_append_sl rpairs_ty rfl (.tmp 71) (.tmp 75) rfl w.heap.size rfl (by first | exact HO1.out | exact HO1.out.alloc _) rfl (by first | exact Sl.new _ _ [Value.int .i64 id, .int .i64 at_] 1 2 rfl (by omega) | exact Sl.one_kept (two_a _ _ _) HG1.out (by simp) | exact Sl.one_kept (two_b _ _ _) HG1.out (by simp)) ONE.out (by omega) (by omega) (by first | exact HB1.out.size | (have := HB1.out.size; simp; omega)) ?_; intro v2 w2 hown2 hg2 hat2; have hb2 : Below w.heap.size w w2 := (by first | exact HB1.out.grown hg2 HB1.out.size (fun q hq => (HO1.out.lt q hq).1) | exact (HB1.out.alloc HB1.out.size _).grown hg2 (by have := HB1.out.size; simp; omega) (fun q hq => (HO1.out.lt q hq).1)); have HB2 := Lib.hid hb2; have hy2 : y < w2.heap.size := Nat.lt_of_lt_of_le hy hb2.size; have q2 := cell_kept hb2 q0; have HO2 := Lib.hid hown2; clear hown2 hg2 hat2 hb2)
      | (refine step_append_sl rpairs_ty rfl (.tmp 76) (.tmp 82) rfl w.heap.size rfl (by exact HO2.out) rfl (by exact T2.out.below HB2.out) (pair_one _) (by omega) (by omega) HB2.out.size ?_; intro v3 w3 hown3 hg3 hat3; have hb3 : Below w.heap.size w w3 := HB2.out.grown hg3 HB2.out.size (fun q hq => (HO2.out.lt q hq).1); obtain ⟨A3, c3, rfl, _, _⟩ := own_form hown3; have HB3 := Lib.hid hb3; have q3 := cell_kept hb3 q0; have f3 : w3.frozen? ⟨y, 0, none⟩ = false := (hb3.frozen hy).trans f0; have HO3 := Lib.hid hown3; clear hown3 hg3 hat3 hb3))
    all_goals
      go_wp2
      go_ret
      have ho := HO3.out
      rw [List.nil_append, Nat.zero_add] at ho
      have ho2 := ho
      rw [E4.out] at ho2
      exact ⟨rfl, rq_store H.out HB3.out hbase HM.out ho2⟩
theorem ref_Add (y base c : Nat) (A : Option Addr) (S : List (Int × Int)) (id at_ : Int) (w : World) (H : Hid (RQ w y base A c S)) (hn : S.length < 4096) (hbase : base ≤ w.heap.size) :
    Calls Try.prog 20 #[.pointer (some ⟨y, 0, none⟩), .int .i64 id, .int .i64 at_] w fun e w' => e = .returned (.int .i64 (addE id S)) ∧ ∃ A' c', RQ w' y base A' c' (addP id at_ S) ∧ Only (fun k => k = y) w w' ∧ ∀ k, (Value.slice A' (addP id at_ S).length c').ownBlock = some k → (Value.slice A S.length c).ownBlock = some k ∨ w.heap.size ≤ k := by
  unfold addE addP
  rcases hh : hasP id S with _ | _
  · refine (ref_Add_no y base c A S id at_ w H hn hbase (Lib.hid hh)).mono ?_
    rintro e w' ⟨rfl, A', c', h1, h2, h3⟩
    exact ⟨rfl, A', c', h1, h2, fun k hk => .inr (h3 k hk)⟩
  · refine (ref_Add_yes y base c A S id at_ w H hn (Lib.hid hh)).mono ?_
    rintro e w' ⟨rfl, rfl⟩
    exact ⟨rfl, A, c, H.out, Only.refl _ _, fun k hk => .inl hk⟩
end Go.Proofs.Ytkcggnfbmbfciaa
