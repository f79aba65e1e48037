/- Slices of rows of ints: what came in, opened. -/
import Derived.Test.YtaeeblceedklnaaGreatDoorSl
import Derived.ProofKit
import Derived.OpenShut
import Derived.Deep.SlicePairs
namespace Go.Proofs.YtaeeblceedklnaaGreatDoor
open _root_.Go.ChangeShapes _root_.Go.WideShapes _root_.Go.ChangeAt _root_.Go.RowKit _root_.Go.Deep
theorem wf_i64 {x : Int} (h : (Lit.int .i64 x).wf = true) : -9223372036854775808 ≤ x ∧ x ≤ 9223372036854775807 := by
  have hmin : IntKind.i64.min = -9223372036854775808 := rfl
  have hmax : IntKind.i64.max = 9223372036854775807 := rfl
  simp only [Lit.wf, Bool.and_eq_true, decide_eq_true_eq, hmin, hmax] at h
  exact h
/-- Rows of ints as cells. -/
def rowCells (l : List (List Int)) : List Value := l.flatMap intCells
theorem flat_get {α β : Type} (f : α → List β) {m : Nat} (hm : 0 < m) : ∀ (l : List α), (∀ r ∈ l, (f r).length = m) → ∀ j, (l.flatMap f)[j]? = (l[j / m]?).bind fun r => (f r)[j % m]?
  | [], _, j => by simp
  | r :: l, h, j => by
    have hr : (f r).length = m := h r (by simp)
    rw [List.flatMap_cons, List.getElem?_append, hr]
    by_cases hj : j < m
    · rw [if_pos hj, Nat.div_eq_of_lt hj, Nat.mod_eq_of_lt hj]; rfl
    · rw [if_neg hj, flat_get f hm l (fun r hr => h r (by simp [hr])) (j - m)]
      have e1 : j / m = (j - m) / m + 1 := by rw [← Nat.add_div_right _ hm]; congr 1; omega
      have e2 : j % m = (j - m) % m := by rw [Nat.mod_eq_sub_mod (by omega)]
      rw [e1, e2]; rfl
theorem flat_len {α β : Type} (f : α → List β) {m : Nat} : ∀ (l : List α), (∀ r ∈ l, (f r).length = m) → (l.flatMap f).length = l.length * m
  | [], _ => by simp
  | r :: l, h => by
    rw [List.flatMap_cons, List.length_append, h r (by simp), flat_len f l (fun r hr => h r (by simp [hr])), List.length_cons, Nat.add_mul]
    omega
section
variable {H : Type} {enc : TypeId × Value → H} {P : Program} {W : World} {base b0 : Nat} {spare : Nat → Bool} {held : Bool} {r : Reach}
/-- A slice of ints that came in. -/
theorem open_ints_sl {t e : TypeId} {v : Value} {d : DataW H} {p : List MemPlace} (ht : P.underlying t = some (.slice e)) (he : P.underlying e = some (.int .i64)) (hc : P.cellsOf e = 1)
    (hv : Value.okWide P W r b0 t v) (h : DataW.Trod enc P W base spare held t v d p) :
    ∃ A n c l, v = .slice A n c ∧ Sl W (.slice A n c) n 1 (intCells l) ∧ (∀ x ∈ l, -9223372036854775808 ≤ x ∧ x ≤ 9223372036854775807) := by
  obtain ⟨A, n, c, rfl⟩ := okWide_slice ht hv
  obtain ⟨fuel, hf⟩ := h
  rcases open_ints ht he hc hf with ⟨hcs, _⟩ | ⟨a, len, cap, zs, hcs, _, hl, hm, hz, _, hcell, hwz⟩
  · simp [Value.cells] at hcs
    obtain ⟨rfl, rfl, rfl⟩ := hcs
    exact ⟨none, 0, 0, [], rfl, Sl.none_ W 1, by simp⟩
  · simp [Value.cells] at hcs
    obtain ⟨rfl, rfl, rfl⟩ := hcs
    have hzl : n ≤ zs.length := by rw [hz]; split <;> omega
    refine ⟨_, _, _, zs.take n, rfl, ⟨_, _, rfl, hl, by unfold maxLen at hm; exact hm, by simp [intCells]; omega, fun hn => ?_⟩, fun x hx => wf_i64 (hwz x (List.mem_of_mem_take hx))⟩
    obtain ⟨b, off, rfl, hc⟩ := ints_at hcell (by omega)
    refine ⟨b, off, rfl, fun j u hu => ?_⟩
    simp only [intCells, List.getElem?_map, List.getElem?_take] at hu
    split at hu
    · rename_i hjn
      rw [hc j (by omega)]
      rw [List.getElem?_eq_getElem (by omega)] at hu
      simp only [Option.map_some, Option.some.injEq] at hu
      rw [← hu]
      simp [List.getD, List.getElem?_eq_getElem (show j < zs.length by omega)]
    · simp at hu
/-- A slice of arrays of m ints that came in. -/
theorem open_rows_sl {t e ei : TypeId} {m : Nat} {v : Value} {d : DataW H} {p : List MemPlace} (ht : P.underlying t = some (.slice e)) (he : P.underlying e = some (.array m ei)) (hi : P.underlying ei = some (.int .i64)) (hce : P.cellsOf e = m) (hc : P.cellsOf ei = 1) (hm0 : 0 < m)
    (h : DataW.Trod enc P W base spare held t v d p) (hv : Value.okWide P W r b0 t v) :
    ∃ A n c l, v = .slice A n c ∧ Sl W (.slice A n c) n m (rowCells l) ∧ l.length = n ∧ ∀ x ∈ l, x.length = m ∧ ∀ y ∈ x, -9223372036854775808 ≤ y ∧ y ≤ 9223372036854775807 := by
  obtain ⟨A, n, c, rfl⟩ := okWide_slice ht hv
  obtain ⟨fuel, hf⟩ := h
  rcases open_slice ht hf with ⟨hcs, _⟩ | ⟨a, len, cap, k, fu, D, Pl, hcs, _, hl, hmx, hk, _, hx⟩
  · simp [Value.cells] at hcs
    obtain ⟨rfl, rfl, rfl⟩ := hcs
    exact ⟨none, 0, 0, [], rfl, Sl.none_ W m, rfl, by simp⟩
  · simp [Value.cells] at hcs
    obtain ⟨rfl, rfl, rfl⟩ := hcs
    have hlk : n ≤ k := by rw [hk]; split <;> omega
    have each : ∀ i, i < n → ∃ x : List Int, x.length = m ∧ (∀ y ∈ x, -9223372036854775808 ≤ y ∧ y ≤ 9223372036854775807) ∧ ∀ j, j < m → W.cell? ((a.add (i * m)).add j) = some (.int .i64 (x.getD j 0)) := by
      intro i hin
      obtain ⟨cs', h1, h2⟩ := hx i (by omega)
      rw [hce] at h1
      obtain ⟨_, hlen, hcell⟩ := World.cells?_some h1
      obtain ⟨xs, m', _, _, hl1, hl2, hel⟩ := DataW.trod_array he h2
      have each2 : ∀ j, j < m → ∃ y : Int, cs'[j]? = some (.int .i64 y) ∧ (Lit.int .i64 y).wf = true := by
        intro j hj
        have h3 := hel j hj
        rw [hc, Nat.mul_one, List.getElem?_eq_getElem (by omega)] at h3
        obtain ⟨y, hy, _, hw⟩ := DataW.trod_int hi h3
        have hj2 : j < cs'.length := by omega
        rw [List.drop_eq_getElem_cons hj2, List.take_succ_cons, List.take_zero] at hy
        injection hy with hy _
        exact ⟨y, by rw [List.getElem?_eq_getElem hj2, hy], hw⟩
      obtain ⟨F, hF⟩ := choose_lt (α := Int) (p := fun j y => cs'[j]? = some (.int .i64 y) ∧ (Lit.int .i64 y).wf = true) each2
      refine ⟨(List.range m).map F, by simp, fun y hy => ?_, fun j hj => ?_⟩
      · obtain ⟨j, hj, rfl⟩ := List.mem_map.1 hy
        exact wf_i64 (hF j (by simpa using hj)).2
      · rw [hcell j (by omega), (hF j hj).1]
        simp [List.getD, hj]
    obtain ⟨R, hR⟩ := choose_lt (α := List Int) (p := fun i x => x.length = m ∧ (∀ y ∈ x, -9223372036854775808 ≤ y ∧ y ≤ 9223372036854775807) ∧ ∀ j, j < m → W.cell? ((a.add (i * m)).add j) = some (.int .i64 (x.getD j 0))) each
    have hrl : ∀ x ∈ (List.range n).map R, (intCells x).length = m := by
      intro x hx
      obtain ⟨i, hi, rfl⟩ := List.mem_map.1 hx
      rw [intCells_len]; exact (hR i (by simpa using hi)).1
    refine ⟨_, _, _, (List.range n).map R, rfl, ⟨_, _, rfl, hl, by unfold maxLen at hmx; exact hmx, ?_, fun hn => ?_⟩, by simp, fun x hx => ?_⟩
    · unfold rowCells
      rw [flat_len intCells _ hrl]; simp
    · have hplain : a.spot = none := by
        have := (hR 0 hn).2.2 0 hm0
        rcases hs : a.spot with _ | s
        · rfl
        · simp [World.cell?, Addr.add, hs] at this
          split at this <;> simp_all
      obtain ⟨b, off, sp⟩ := a
      simp only at hplain
      subst hplain
      refine ⟨b, off, rfl, fun j u hu => ?_⟩
      unfold rowCells at hu
      rw [flat_get intCells hm0 _ hrl] at hu
      rcases hji : ((List.range n).map R)[j / m]? with _ | x
      · rw [hji] at hu; cases hu
      · rw [hji] at hu
        have hlt : j / m < n := by
          have := (List.getElem?_eq_some_iff.1 hji).1
          simpa using this
        have hxe : R (j / m) = x := by
          rw [List.getElem?_map, List.getElem?_range hlt] at hji
          simpa using hji
        have hjm : j % m < m := Nat.mod_lt _ hm0
        have hcell := (hR (j / m) hlt).2.2 (j % m) hjm
        rw [hxe] at hcell
        have hxl : x.length = m := hxe ▸ (hR (j / m) hlt).1
        have hu2 : (intCells x)[j % m]? = some u := hu
        rw [intCells_at (by omega)] at hu2
        rw [← hu2, ← hcell]
        rw [Go.WideShapes.add_plain, Go.WideShapes.add_plain]
        have h5 := Nat.div_add_mod j m
        rw [Nat.mul_comm] at h5
        rw [show off + j / m * m + j % m = off + j by omega]
    · obtain ⟨i, hi, rfl⟩ := List.mem_map.1 hx
      have := hR i (by simpa using hi)
      exact ⟨this.1, this.2.1⟩
end
/-- Pairs as cells. -/
def pairCells (l : List (Int × Int)) : List Value := l.flatMap fun p => [.int .i64 p.1, .int .i64 p.2]
theorem pairCells_len (l : List (Int × Int)) : (pairCells l).length = l.length * 2 := flat_len _ l (fun _ _ => rfl)
theorem pair_one (l : List (Int × Int)) : ∀ u ∈ pairCells l, u.oneCell' = true := by
  intro u hu
  obtain ⟨p, _, hp⟩ := List.mem_flatMap.1 hu
  simp only [List.mem_cons, List.not_mem_nil, or_false] at hp
  rcases hp with rfl | rfl <;> rfl
theorem pairCells_app (l m : List (Int × Int)) : pairCells (l ++ m) = pairCells l ++ pairCells m := by simp [pairCells]
theorem pairCells_at {l : List (Int × Int)} {k : Nat} (h : k < l.length) : (pairCells l)[k * 2]? = some (.int .i64 (l.getD k (0, 0)).1) ∧ (pairCells l)[k * 2 + 1]? = some (.int .i64 (l.getD k (0, 0)).2) := by
  have e1 : k * 2 / 2 = k := by omega
  have e2 : (k * 2 + 1) / 2 = k := by omega
  have e3 : (k * 2) % 2 = 0 := by omega
  have e4 : (k * 2 + 1) % 2 = 1 := by omega
  unfold pairCells
  rw [flat_get _ (by omega : 0 < 2) l (fun _ _ => rfl), flat_get _ (by omega : 0 < 2) l (fun _ _ => rfl), e1, e2, e3, e4, List.getElem?_eq_getElem h]
  simp [List.getD, h]
/-- Rows of two are pairs. -/
theorem rows_pairs {l : List (List Int)} (h : ∀ x ∈ l, x.length = 2 ∧ ∀ y ∈ x, -9223372036854775808 ≤ y ∧ y ≤ 9223372036854775807) :
    ∃ m : List (Int × Int), rowCells l = pairCells m ∧ m.length = l.length ∧ ∀ p ∈ m, (-9223372036854775808 ≤ p.1 ∧ p.1 ≤ 9223372036854775807) ∧ (-9223372036854775808 ≤ p.2 ∧ p.2 ≤ 9223372036854775807) := by
  induction l with
  | nil => exact ⟨[], rfl, rfl, by simp⟩
  | cons x l ih =>
    obtain ⟨m, h1, h2, h3⟩ := ih fun y hy => h y (by simp [hy])
    obtain ⟨hx, hy⟩ := h x (by simp)
    obtain ⟨a, b, rfl⟩ : ∃ a b, x = [a, b] := by
      match x, hx with
      | [a, b], _ => exact ⟨a, b, rfl⟩
    refine ⟨(a, b) :: m, ?_, by simp [h2], fun p hp => ?_⟩
    · unfold rowCells pairCells at *
      rw [List.flatMap_cons, List.flatMap_cons, h1]; rfl
    · rcases List.mem_cons.1 hp with rfl | hp
      · exact ⟨hy a (by simp), hy b (by simp)⟩
      · exact h3 p hp
theorem Sl.pair_at {w : World} {A : Option Addr} {n c : Nat} {l : List (Int × Int)} (h : Sl w (.slice A n c) n 2 (pairCells l)) {k : Nat} (hk : k < n) :
    ∃ b off, A = some ⟨b, off, none⟩ ∧ w.cell? ⟨b, off + k * 2, none⟩ = some (.int .i64 (l.getD k (0, 0)).1) ∧ w.cell? ⟨b, off + k * 2 + 1, none⟩ = some (.int .i64 (l.getD k (0, 0)).2) := by
  have hl := h.len
  rw [pairCells_len] at hl
  obtain ⟨b, off, e, hc⟩ := h.at_ (by omega)
  have hp := pairCells_at (l := l) (k := k) (by omega)
  refine ⟨b, off, e, hc _ _ hp.1, ?_⟩
  have := hc _ _ hp.2
  rwa [← Nat.add_assoc] at this
theorem Sl.bound {w : World} {A : Option Addr} {n c size : Nat} {xs : List Value} (h : Sl w (.slice A n c) n size xs) : n ≤ 9223372036854775807 := by
  obtain ⟨A', c', h1, h2, h3, _⟩ := h
  omega
end Go.Proofs.YtaeeblceedklnaaGreatDoor
