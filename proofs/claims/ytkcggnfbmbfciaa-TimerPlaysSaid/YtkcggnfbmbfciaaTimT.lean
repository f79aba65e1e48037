/- Contracts of package timer: All. -/
import Derived.Test.YtkcggnfbmbfciaaTimS
import Derived.Test.YtkcggnfbmbfciaaTimL
import Derived.Test.YtkcggnfbmbfciaaOpenR
import Derived.Deep.RegionLaw
namespace Go.Proofs.Ytkcggnfbmbfciaa
open Go.RowKit
theorem pairs_ty : SlTy Try.prog 22 28 2 16 := SlTy.mk (z := .agg #[.int .i64 0, .int .i64 0]) (by kernel_rfl) (by kernel_rfl) rfl (by decide)
theorem ltP_of_le {a b : Ent} (h : leE a b) (hne : pr a ≠ pr b) : ltP (pr a) (pr b) := by
  have h2 : ¬ ltP (pr b) (pr a) := h
  exact (ltP_total hne).resolve_right h2
theorem sorted_row {hs l : List Ent} {S : List (Int × Int)} (h : Srt hs S) (hp : l.Perm hs) (hs2 : l.Pairwise leE) : l.map pr = S := by
  have h1 := (h.perm hp).1
  have hn : (l.map pr).Nodup := by
    have h3 : ((l.map pr).map (·.1)).Nodup := ((h1.map (·.1)).nodup_iff).2 h.2.2
    rw [List.Nodup, List.pairwise_map] at h3
    exact h3.imp fun h e => h (by rw [e])
  refine sorted_unique h1 ?_ h.2.1
  rw [List.pairwise_map, List.pairwise_iff_getElem]
  intro i j hi hj hij
  refine ltP_of_le (List.pairwise_iff_getElem.1 hs2 i j hi hj hij) fun e => ?_
  have h4 := List.pairwise_iff_getElem.1 hn i j (by simpa using hi) (by simpa using hj) hij
  rw [List.getElem_map, List.getElem_map] at h4
  exact h4 e
theorem own_base {w : World} {base base' : Nat} {e : TypeId} {size n : Nat} {v : Value} {xs : List Value} (h : w.ownsRow base e size v n xs) (hb : base' ≤ base) : w.ownsRow base' e size v n xs := by
  refine ⟨h.1, ?_⟩
  rcases h.2 with h1 | ⟨b, cap, cur, rfl, hb2, rest⟩
  · exact .inl h1
  · exact .inr ⟨b, cap, cur, rfl, by omega, rest⟩
/-- What All leaves. -/
def AllP (S : List (Int × Int)) (w : World) (e : Ending) (w' : World) : Prop :=
  ∃ A c, e = .returned (.slice A S.length c) ∧ w'.ownsRow w.heap.size 28 2 (.slice A S.length c) S.length (pairCells S) ∧ Below w.heap.size w w'
theorem take_pair {S : List (Int × Int)} {k : Nat} (h : k < S.length) : pairCells (S.take (k + 1)) = pairCells (S.take k) ++ [.int .i64 (S.getD k (0, 0)).1, .int .i64 (S.getD k (0, 0)).2] := by
  rw [List.take_succ_eq_append_getElem h, pairCells_app, List.getD, List.getElem?_eq_getElem h]
  rfl
set_option maxRecDepth 100000 in
set_option maxHeartbeats 2000000 in
theorem tim_All (g : Nat) (own : Nat → Prop) (S : List (Int × Int)) (w : World) (H : Hid (QAt w g own S)) (hn : S.length < 8192) :
    Calls Try.prog 15 #[.pointer (some ⟨g, 0, none⟩)] w (AllP S w) := by
  obtain ⟨m, A, c, hs, D, h1, hl, _, h3, _⟩ := H.out.open_
  have q0 := h1.c0
  rw [← hl] at h1
  have hsrc := Lib.hid (Sl.of_own h1.row)
  have hone := Lib.hid (show ∀ u ∈ hs.map ptrV, u.oneCell' = true by
    intro u hu
    obtain ⟨e, _, rfl⟩ := List.mem_map.1 hu
    rfl)
  have hent : ∀ e ∈ hs, w.cell? ⟨e.blk, 0, none⟩ = some (.int .i64 e.id) ∧ w.cell? ⟨e.blk, 1, none⟩ = some (.int .i64 e.at_) := by
    intro e he
    obtain ⟨j, hj, rfl⟩ := List.getElem_of_mem he
    have e2 : gE hs j = hs[j] := by unfold gE; rw [List.getD, List.getElem?_eq_getElem hj]; rfl
    have h4 := h1.ent j hj
    rw [e2] at h4
    exact ⟨by rw [cell_of_row _ _ _ _ _ _ h4]; rfl, by rw [cell_of_row _ _ _ _ _ _ h4]; rfl⟩
  have cC := Lib.hid (tim_Clone A hs.length c _ w hsrc hone (by omega))
  rw [hl] at cC
  obtain ⟨n, hnn⟩ : ∃ n, n = S.length := ⟨_, rfl⟩
  rw [← hnn] at cC q0 hn hl
  have HN := Lib.hid hnn
  have HL := Lib.hid hl
  have HE := Lib.hid hent
  have H3 := Lib.hid h3
  clear hnn hl hent h3 h1
  go_enter Try.func15, Try.ntmps15
  go_wp2_with fail
  refine cC.out.mono ?_
  rintro e w1 ⟨B, d, rfl, hB, hb1⟩
  by_cases h0 : n = 0
  · subst h0
    have HB1 := Lib.hid hb1
    clear hB hb1
    go_wp2_with fail
    refine (tim_Sort0 B d w1).mono ?_
    rintro e w2 ⟨rfl, rfl⟩
    go_wp2_with fail
    refine wp_loop_rounds 1 ?_
    rw [rounds_succ]
    go_wp2
    go_ret
    have hS : S = [] := List.eq_nil_of_length_eq_zero HN.out.symm
    subst hS
    exact ⟨none, 0, rfl, World.ownsRow_nil _ _ _ _, HB1.out⟩
  · obtain ⟨hlen2, hB2⟩ := hB
    rcases hB2 with ⟨_, hx⟩ | ⟨b, cap, cur, e1, hbb, hgb, hnc, hcm, hcs, htk⟩
    · exact absurd hx h0
    · injection e1 with e1 _ e3
      subst e1; subst e3
      have hok : ∀ e ∈ hs, EntOk w1 b e := by
        intro e he
        obtain ⟨p0, p1⟩ := HE.out e he
        have hlt := World.block_lt_of_cell? w _ p0
        exact ⟨by have : e.blk < w.heap.size := hlt; omega, cell_kept hb1 p0, cell_kept hb1 p1⟩
      have HB1 := Lib.hid hb1
      have HOK := Lib.hid hok
      have HBB := Lib.hid hbb
      have HROW : Hid (∃ cur, w1.heap[b]? = some (.cells cur 55 (0, 0)) ∧ cur.toList.take n = hs.map ptrV) := ⟨cur, hgb, by rw [Nat.mul_one] at htk; exact htk⟩
      have hbw : b < w1.heap.size := (Array.getElem?_eq_some_iff.1 hgb).1
      have hd9 : n ≤ d ∧ d ≤ 9223372036854775807 := ⟨hnc, hcm⟩
      obtain ⟨hd8, hd9⟩ := hd9
      clear hb1 hok hgb hcs htk hlen2 hnc hcm hbb
      go_wp2_with fail
      refine (tim_Sort b d n hs w1 HROW HL (by omega) hn HOK).mono ?_
      rintro e w2 ⟨rfl, l', hp, hso, hc, ho⟩
      have hlen : l'.length = n := hp.length_eq.trans HL.out
      have hS : l'.map pr = S := sorted_row H3.out hp hso
      have hbel2 : Below w.heap.size w w2 := HB1.out.trans ((ho.below (B := w.heap.size) (fun k hk e => by have := HBB.out; omega) HB1.out.size))
      have hen2 : ∀ j, j < n → w2.cell? ⟨(gE l' j).blk, 0, none⟩ = some (.int .i64 (S.getD j (0, 0)).1) ∧ w2.cell? ⟨(gE l' j).blk, 1, none⟩ = some (.int .i64 (S.getD j (0, 0)).2) := by
        intro j hj
        have hm : gE l' j ∈ hs := hp.mem_iff.1 (List.mem_iff_getElem?.2 ⟨j, gE_some (by omega)⟩)
        obtain ⟨n1, p0, p1⟩ := HOK.out _ hm
        have e5 : S.getD j (0, 0) = pr (gE l' j) := by rw [← hS, List.getD, List.getElem?_map, gE_some (by omega)]; rfl
        rw [e5]
        exact ⟨ho.cell p0 n1, ho.cell p1 n1⟩
      have hbw2 : b < w2.heap.size := Nat.lt_of_lt_of_le hbw ho.size
      have HC := Lib.hid hc
      have HN2 := Lib.hid hen2
      have HLN := Lib.hid hlen
      have HB2 := Lib.hid hbel2
      have hS1 : S.length < 8192 := by rw [← HN.out]; exact hn
      clear hp hso hc ho hlen hS hbel2 hen2
      go_wp2_with fail
      go_loopw [4, 6, 16] (fun v _ i wr => ∃ (k : Nat) (A' : Option Addr) (c' : Nat), k ≤ n ∧ i = .int .i64 (k : Int) ∧ v = .slice A' k c' ∧ Hid (wr.ownsRow w2.heap.size 28 2 (.slice A' k c') k (pairCells (S.take k))) ∧ Hid (Below w2.heap.size w2 wr)) (fun _ _ i _ => n - (intOf i).toNat)
      case atStart => exact ⟨0, none, 0, by omega, rfl, rfl, World.ownsRow_nil _ _ _ _, Below.refl _ _⟩
      case round =>
        obtain ⟨k, A', c', hk, rfl, rfl, hO, hBk⟩ := hrel
        by_cases hlt : k < n
        · obtain ⟨p0, p1⟩ := HN2.out k hlt
          have c0 := cell_kept hBk.out (HC.out k (by rw [HLN.out]; exact hlt))
          have p0' := cell_kept hBk.out p0
          have p1' := cell_kept hBk.out p1
          unfold ptrV at c0
          obtain ⟨x, hx⟩ : ∃ x, x = (gE l' k).blk := ⟨_, rfl⟩
          rw [← hx] at c0 p0' p1'
          obtain ⟨y, hy⟩ : ∃ y, y = S.getD k (0, 0) := ⟨_, rfl⟩
          rw [← hy] at p0' p1'
          have htp := Lib.hid (take_pair (S := S) (k := k) (by rw [← HN.out]; exact hlt))
          rw [← hy] at htp
          obtain ⟨y1, y2⟩ := y
          simp only at p0' p1' htp
          have hk2 : (k : Int) < (n : Int) := by omega
          have hk0 : (0 : Int) ≤ (k : Int) := by omega
          have hkc : k ≤ c' := by
            obtain ⟨_, _, e6, hx6, _⟩ := own_form hO.out
            injection e6 with _ _ e6
            omega
          have hon2 := Lib.hid (show ∀ u ∈ [Value.int .i64 y1, .int .i64 y2], u.oneCell' = true by
            intro u hu
            simp only [List.mem_cons, List.not_mem_nil, or_false] at hu
            rcases hu with rfl | rfl <;> rfl)
          have hsz := hBk.out.size
          clear p0 p1 hx hy
          go_wp2
          go_region_law (first | (refine step_append_sl pairs_ty rfl (.tmp 20) (.tmp 30) rfl w2.heap.size rfl (by exact own_drew (hO.out.alloc _)) rfl (by exact Sl.new _ _ [Value.int .i64 y1, .int .i64 y2] 1 2 rfl (by omega)) hon2.out (by omega) (by omega) (by simp; omega) ?_; intro v4 w4 hown4 hg4 hat4))
          all_goals
            obtain ⟨A4, c4, rfl, _, _⟩ := own_form hown4
            rw [← htp.out] at hown4
            have hb4 : Below w2.heap.size w2 w4 := ((hBk.out.alloc hsz (.cells #[.int .i64 y1, .int .i64 y2] 28)).drew).grown hg4 (by simp; omega) (fun q hq => (hO.out.lt q hq).1)
            have HO4 := Lib.hid hown4
            have HB4 := Lib.hid hb4
            clear hown4 hg4 hat4 hb4 c0 p0' p1'
            go_wp2
            go_roundw
            case rel => exact ⟨k + 1, A4, c4, by omega, by go_num, rfl, HO4, HB4⟩
            case measure => simp [intOf]; omega
        · go_wp2
          go_ret
          have e1 : k = n := by omega
          have e2 : S.take k = S := by rw [e1, HN.out, List.take_length]
          have h9 := hO.out
          rw [e2] at h9
          have e3 : k = S.length := by rw [e1, HN.out]
          rw [e3] at h9 ⊢
          exact ⟨A', c', rfl, own_base h9 (by have := HB2.out.size; omega), HB2.out.trans (hBk.out.mono HB2.out.size)⟩
end Go.Proofs.Ytkcggnfbmbfciaa
