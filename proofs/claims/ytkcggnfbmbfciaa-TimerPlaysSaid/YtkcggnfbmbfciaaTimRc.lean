/- The document's queue of layer 14: Cancel. -/
import Derived.Test.YtkcggnfbmbfciaaTimRb
import Derived.Deep.RegionLaw
namespace Go.Proofs.Ytkcggnfbmbfciaa
open Go.RowKit
theorem rpairs_ty : SlTy Try.prog 22 28 2 16 := SlTy.mk (z := .agg #[.int .i64 0, .int .i64 0]) (by kernel_rfl) (by kernel_rfl) rfl (by decide)
theorem own_fresh (w : World) (base g : Nat) (t : TypeId) (hg : g = w.heap.size) (hb : base ≤ g) : (w.alloc (.cells #[] t)).ownsRow base t 2 (.slice (some ⟨g, 0, none⟩) 0 0) 0 [] := by
  subst hg
  exact ⟨rfl, .inr ⟨w.heap.size, 0, #[], rfl, hb, heap_alloc_new w (.cells #[] t), Nat.le_refl _, by decide, rfl, rfl⟩⟩
theorem pair_take {S : List (Int × Int)} {k : Nat} : pairCells (S.take k) = (pairCells S).take (k * 2) := by
  induction S generalizing k with
  | nil => simp [pairCells]
  | cons p S ih =>
    cases k with
    | zero => simp [pairCells]
    | succ k =>
      have e : (k + 1) * 2 = k * 2 + 1 + 1 := by omega
      have h := @ih k
      unfold pairCells at h ⊢
      rw [e, List.take_succ_cons, List.flatMap_cons, List.flatMap_cons, h]; rfl
theorem pair_drop {S : List (Int × Int)} {k : Nat} : pairCells (S.drop k) = (pairCells S).drop (k * 2) := by
  induction S generalizing k with
  | nil => simp [pairCells]
  | cons p S ih =>
    cases k with
    | zero => simp [pairCells]
    | succ k =>
      have e : (k + 1) * 2 = k * 2 + 1 + 1 := by omega
      have h := @ih k
      unfold pairCells at h ⊢
      rw [e, List.drop_succ_cons, List.flatMap_cons, h]; rfl
theorem Sl.take_ {w : World} {A : Option Addr} {n c k : Nat} {S : List (Int × Int)} (h : Sl w (.slice A n c) n 2 (pairCells S)) (hk : k ≤ n) : Sl w (.slice A k c) k 2 (pairCells (S.take k)) := by
  have hl := h.len
  obtain ⟨A', c', e, h1, h2, h3, h4⟩ := h
  injection e with e1 _ e3
  subst e1; subst e3
  refine ⟨A, c, rfl, by omega, h2, ?_, fun hn => ?_⟩
  · rw [pair_take, List.length_take]; omega
  · obtain ⟨b, off, e, hc⟩ := h4 (by omega)
    refine ⟨b, off, e, fun j u hu => hc j u ?_⟩
    rw [pair_take, List.getElem?_take] at hu
    split at hu
    · exact hu
    · cases hu
/-- Where the rest of a slice begins. -/
def dropA (A : Option Addr) (c k : Nat) : Option Addr := if c = k then A else A.map (·.add (k * 2))
theorem Sl.drop_ {w : World} {A : Option Addr} {n c k : Nat} {S : List (Int × Int)} (h : Sl w (.slice A n c) n 2 (pairCells S)) (hk : k ≤ n) : Sl w (.slice (dropA A c k) (n - k) (c - k)) (n - k) 2 (pairCells (S.drop k)) := by
  have hl := h.len
  obtain ⟨A', c', e, h1, h2, h3, h4⟩ := h
  injection e with e1 _ e3
  subst e1; subst e3
  refine ⟨_, c - k, rfl, by omega, by omega, ?_, fun hn => ?_⟩
  · rw [pair_drop, List.length_drop]; omega
  · obtain ⟨b, off, rfl, hc⟩ := h4 (by omega)
    refine ⟨b, off + k * 2, ?_, fun j u hu => ?_⟩
    · unfold dropA; rw [if_neg (by omega)]; simp [Go.WideShapes.add_plain]
    · rw [pair_drop, List.getElem?_drop] at hu
      have := hc _ u hu
      rwa [← Nat.add_assoc] at this
theorem pone (x y : Int) : ∀ u ∈ [Value.int .i64 x, .int .i64 y], u.oneCell' = true := by
  intro u hu
  simp only [List.mem_cons, List.not_mem_nil, or_false] at hu
  rcases hu with rfl | rfl <;> rfl
/-- What a call that turns the document's queue leaves. -/
def RTurned (w : World) (y base : Nat) (S : List (Int × Int)) (r : Int) (e : Ending) (w' : World) : Prop :=
  e = .returned (.int .i64 r) ∧ ∃ A c, RQ w' y base A c S ∧ Only (fun k => k = y) w w' ∧ ∀ k, (Value.slice A S.length c).ownBlock = some k → w.heap.size ≤ k
/-- The new row stored. -/
theorem rq_store {w w2 : World} {y base c : Nat} {A : Option Addr} {S T : List (Int × Int)} {m : Nat} {A2 : Option Addr} {c2 : Nat} (h : RQ w y base A c S) (hb : Below w.heap.size w w2) (hbase : base ≤ w.heap.size)
    (hm : m = T.length) (ho : w2.ownsRow w.heap.size 28 2 (.slice A2 m c2) m (pairCells T)) :
    ∃ A' c', RQ (w2.setCell ⟨y, 0, none⟩ (.slice A2 m c2)) y base A' c' T ∧ Only (fun k => k = y) w (w2.setCell ⟨y, 0, none⟩ (.slice A2 m c2)) ∧ ∀ k, (Value.slice A' T.length c').ownBlock = some k → w.heap.size ≤ k := by
  subst hm
  have hy := h.lt
  have hq : w2.heap[y]? = some (.cells #[.slice A S.length c] 48 (0, 0)) := (hb.block y hy).trans h.q
  have hne : ∀ k, (Value.slice A2 T.length c2).ownBlock = some k → k ≠ y := fun k hk e => by have := (ho.lt k hk).1; omega
  refine ⟨A2, c2, ⟨?_, ?_, hne⟩, ?_, fun k hk => (ho.lt k hk).1⟩
  · show (w2.setCell _ _).heap[y]? = _
    rw [set_same hq]; rfl
  · have h1 : w2.ownsRow base 28 2 (.slice A2 T.length c2) T.length (pairCells T) := by
      refine ⟨ho.1, ?_⟩
      rcases ho.2 with h2 | ⟨g, cap, cur, h2, h3, h4⟩
      · exact .inl h2
      · exact .inr ⟨g, cap, cur, h2, by omega, h4⟩
    exact h1.kept (w' := w2.setCell ⟨y, 0, none⟩ (.slice A2 T.length c2)) (row := some y) ⟨rfl, rfl, rfl, Nat.le_of_eq (by simp [World.setCell]), fun k _ hk => set_other (fun h1 => hk (congrArg some h1))⟩ (.inr fun e => hne y e rfl)
  · have h0 : Only (fun k => k = y) w w2 := ⟨hb.os, hb.tape, hb.output, hb.size, fun k hk _ => hb.block k hk⟩
    exact h0.set y 0 _ rfl
set_option maxRecDepth 100000 in
set_option maxHeartbeats 2000000 in
theorem ref_Cancel_yes (y base c : Nat) (A : Option Addr) (S : List (Int × Int)) (id : Int) (w : World) (H : Hid (RQ w y base A c S)) (hs : Hid (SrtP S)) (hn : S.length < 8192) (hbase : base ≤ w.heap.size) (hh : Hid (hasP id S = true)) :
    Calls Try.prog 21 #[.pointer (some ⟨y, 0, none⟩), .int .i64 id] w (RTurned w y base (delP id S) 0) := by
  have q0 := H.out.cell
  have f0 := H.out.fro
  have hS := Sl.of_own H.out.row
  have hy := H.out.lt
  obtain ⟨n, hnn⟩ : ∃ n, n = S.length := ⟨_, rfl⟩
  have HN := Lib.hid hnn
  rw [← hnn] at q0 hS hn
  have cF := Lib.hid (ref_find y n c A S id w (Lib.hid q0) (Lib.hid hS) (by omega))
  have HS := Lib.hid hS
  have hnc : n ≤ c ∧ c ≤ 9223372036854775807 := by
    obtain ⟨_, _, e, h1, h2, _⟩ := hS
    injection e with _ _ e
    omega
  obtain ⟨hnc, hc9⟩ := hnc
  clear hnn hS
  go_enter Try.func21, Try.ntmps21
  go_wp2_with fail
  refine cF.out.mono ?_
  rintro e w1 ⟨r, rfl, hF, rfl⟩
  obtain ⟨k, hk, rfl, he⟩ : ∃ k : Nat, k < n ∧ r = (k : Int) ∧ (S.getD k (0, 0)).1 = id := by
    rcases hF.out with ⟨k, hk, h2, h3⟩ | ⟨_, h⟩
    · exact ⟨k, by rw [HN.out]; exact hk, h2, h3⟩
    · rw [hh.out] at h; cases h
  obtain ⟨b, off, rfl, _, _⟩ := HS.out.pair_at hk
  have hD0 : delP id S = S.take k ++ S.drop (k + 1) := del_split hs.out.2 (by rw [← HN.out]; exact hk) he
  have HD0 := Lib.hid hD0
  have T1 := Lib.hid (HS.out.take_ (k := k) (by omega))
  have T2 := Lib.hid (HS.out.drop_ (k := k + 1) (by omega))
  obtain ⟨D, hD⟩ : ∃ D, (if c = k + 1 then some ⟨b, off, none⟩ else some ⟨b, off + (k + 1) * 2, none⟩) = D ∧ dropA (some ⟨b, off, none⟩) c (k + 1) = D := ⟨_, rfl, by unfold dropA; simp [Go.WideShapes.add_plain]⟩
  obtain ⟨hD1, hD2⟩ := hD
  rw [hD2] at T2
  have hk2 : (k : Int) < (n : Int) := by omega
  have hk0 : (0 : Int) ≤ (k : Int) := by omega
  have d1 : IntKind.i64.wrap ((k : Int) + 1) = ((k + 1 : Nat) : Int) := by rw [show (k : Int) + 1 = ((k + 1 : Nat) : Int) by omega]; exact IntWalk.i64_in _ (by omega)
  clear hF he hD0 hD2
  have hkc : k ≤ c := by omega
  have hkn : k + 1 ≤ n := by omega
  have hk1 : 0 ≤ (k : Int) + 1 := by omega
  have hk3 : (k : Int) + 1 ≤ (n : Int) := by omega
  go_wp2
  go_region_law (first
    | (refine step_append_sl rpairs_ty rfl (.tmp 12) (.tmp 18) rfl w.heap.size rfl (by exact own_drew (own_fresh _ _ _ _ rfl (Nat.le_refl _))) rfl (by exact T1.out.below ((Below.refl _ w).alloc (Nat.le_refl _) _).drew) (pair_one _) (by omega) (by omega) (by simp) ?_; intro v1 w1 hown1 hg1 hat1; have hb1 : Below w.heap.size w w1 := (((Below.refl _ w).alloc (Nat.le_refl _) _).drew).grown hg1 (by simp) (fun q hq => by cases hq; exact Nat.le_refl _); have HB1 := Lib.hid hb1; have q1 := cell_kept hb1 q0; have HO1 := Lib.hid hown1; clear hown1 hg1 hat1 hb1)
    | (refine step_append_sl rpairs_ty rfl (.tmp 19) (.tmp 26) rfl w.heap.size rfl (by exact HO1.out) rfl (by exact T2.out.below HB1.out) (pair_one _) (by omega) (by omega) HB1.out.size ?_; intro v2 w2 hown2 hg2 hat2; have hb2 : Below w.heap.size w w2 := HB1.out.grown hg2 HB1.out.size (fun q hq => (HO1.out.lt q hq).1); obtain ⟨A2, c2, rfl, _, _⟩ := own_form hown2; have HB2 := Lib.hid hb2; have q2 := cell_kept hb2 q0; have f2 : w2.frozen? ⟨y, 0, none⟩ = false := (hb2.frozen hy).trans f0; have HO2 := Lib.hid hown2; clear hown2 hg2 hat2 hb2))
  all_goals
    go_wp2
    go_ret
    have ho := HO2.out
    rw [List.nil_append, ← pairCells_app, ← HD0.out, Nat.zero_add] at ho
    have hm : k + (n - (k + 1)) = (delP id S).length := by rw [HD0.out, List.length_append, List.length_take, List.length_drop, ← HN.out]; omega
    exact ⟨rfl, rq_store H.out HB2.out hbase hm ho⟩
set_option maxHeartbeats 1000000 in
theorem ref_Cancel_no (y base c : Nat) (A : Option Addr) (S : List (Int × Int)) (id : Int) (w : World) (H : Hid (RQ w y base A c S)) (hn : S.length < 8192) (hh : Hid (hasP id S = false)) :
    Calls Try.prog 21 #[.pointer (some ⟨y, 0, none⟩), .int .i64 id] w fun e w' => e = .returned (.int .i64 3) ∧ w = w' := by
  have q0 := H.out.cell
  have hS := Sl.of_own H.out.row
  obtain ⟨n, hnn⟩ : ∃ n, n = S.length := ⟨_, rfl⟩
  rw [← hnn] at q0 hS hn
  have cF := Lib.hid (ref_find y n c A S id w (Lib.hid q0) (Lib.hid hS) (by omega))
  clear hnn hS
  go_enter Try.func21, Try.ntmps21
  go_wp2_with fail
  refine cF.out.mono ?_
  rintro e w1 ⟨r, rfl, hF, rfl⟩
  obtain rfl : r = -1 := by
    rcases hF.out with ⟨k, hk, h2, h3⟩ | ⟨h, _⟩
    · have := has_iff.2 ⟨_, getD_memP hk, h3⟩
      rw [hh.out] at this; cases this
    · exact h
  go_wp2
  go_ret
  exact ⟨rfl, rfl⟩
theorem ref_Cancel (y base c : Nat) (A : Option Addr) (S : List (Int × Int)) (id : Int) (w : World) (H : Hid (RQ w y base A c S)) (hs : Hid (SrtP S)) (hn : S.length < 8192) (hbase : base ≤ w.heap.size) :
    Calls Try.prog 21 #[.pointer (some ⟨y, 0, none⟩), .int .i64 id] w fun e w' => e = .returned (.int .i64 (canE id S)) ∧ ∃ A' c', RQ w' y base A' c' (delP id S) ∧ Only (fun k => k = y) w w' ∧ ∀ k, (Value.slice A' (delP id S).length c').ownBlock = some k → (Value.slice A S.length c).ownBlock = some k ∨ w.heap.size ≤ k := by
  unfold canE
  rcases hh : hasP id S with _ | _
  · rw [delP_none hh]
    refine (ref_Cancel_no y base c A S id w H hn (Lib.hid hh)).mono ?_
    rintro e w' ⟨rfl, rfl⟩
    exact ⟨rfl, A, c, H.out, Only.refl _ _, fun k hk => .inl hk⟩
  · refine (ref_Cancel_yes y base c A S id w H hs hn hbase (Lib.hid hh)).mono ?_
    rintro e w' ⟨rfl, A', c', h1, h2, h3⟩
    exact ⟨rfl, A', c', h1, h2, fun k hk => .inr (h3 k hk)⟩
end Go.Proofs.Ytkcggnfbmbfciaa
