/- Joined: Plain words for bags: rows of pairs, counts as functions. No program. Slices of rows of ints: what came in, opened. Contracts of package bag: Right. Law 04: few, Few. parts, Right: the program's. -/
import Derived.WalkKit
import Derived.Test.YtkpjhjoopdbkaaaGreatDoorG01
import Derived.ProofKit
import Derived.OpenShut
import Derived.Deep.SlicePairs
import Derived.Test.YtkpjhjoopdbkaaaGreatDoorChecked
import Derived.BigQuiet
import Derived.Deep.QuietTactic
import Derived.Deep.RegionWith
import Derived.BigRegion
import Derived.Deep.DeepCutAuto
import Derived.Test.YtkpjhjoopdbkaaaGreatDoorG02
namespace Go.Proofs.YtkpjhjoopdbkaaaGreatDoor
abbrev Row := List (Int × Int)
/-- Is a row a bag, from a last member on? -/
def riseB : Int → Row → Bool
  | _, [] => true
  | last, p :: r => if p.1 ≤ last ∨ p.2 < 1 ∨ 1048576 < p.2 then false else riseB p.1 r
def rightB (l : Row) : Bool := riseB (-1) l
def Srt (M : Row) : Prop := M.Pairwise (fun p q => p.1 < q.1)
def Ok (M : Row) : Prop := Srt M ∧ ∀ p ∈ M, 0 ≤ p.1 ∧ 1 ≤ p.2 ∧ p.2 ≤ 1048576
theorem riseB_iff : ∀ (l : Row) (a : Int), riseB a l = true ↔ (Srt l ∧ ∀ p ∈ l, a < p.1 ∧ 1 ≤ p.2 ∧ p.2 ≤ 1048576)
  | [], a => by simp [riseB, Srt]
  | p :: r, a => by
    unfold riseB
    split
    · rename_i h
      simp only [Bool.false_eq_true, false_iff]
      intro ⟨_, h2⟩
      have := h2 p (by simp)
      omega
    · rename_i h
      rw [riseB_iff r p.1]
      unfold Srt
      rw [List.pairwise_cons]
      constructor
      · rintro ⟨h1, h2⟩
        refine ⟨⟨fun q hq => (h2 q hq).1, h1⟩, fun q hq => ?_⟩
        rcases List.mem_cons.1 hq with rfl | hq
        · omega
        · have := h2 q hq
          omega
      · rintro ⟨⟨h1, h2⟩, h3⟩
        exact ⟨h2, fun q hq => ⟨h1 q hq, (h3 q (by simp [hq])).2⟩⟩
theorem rightB_iff (l : Row) : rightB l = true ↔ Ok l := by
  unfold rightB Ok
  rw [riseB_iff]
  constructor
  · rintro ⟨h1, h2⟩; exact ⟨h1, fun p hp => by have := h2 p hp; omega⟩
  · rintro ⟨h1, h2⟩; exact ⟨h1, fun p hp => by have := h2 p hp; omega⟩
/-- How often a member stands in a row. -/
def getM : Row → Int → Int
  | [], _ => 0
  | p :: r, k => if p.1 = k then p.2 else getM r k
theorem getM_not {M : Row} {k : Int} (h : ∀ p ∈ M, p.1 ≠ k) : getM M k = 0 := by
  induction M with
  | nil => rfl
  | cons p r ih => unfold getM; rw [if_neg (h p (by simp)), ih fun q hq => h q (by simp [hq])]
theorem getM_mem {M : Row} (h : Srt M) {p : Int × Int} (hp : p ∈ M) : getM M p.1 = p.2 := by
  induction M with
  | nil => cases hp
  | cons q r ih =>
    obtain ⟨h1, h2⟩ := List.pairwise_cons.1 h
    unfold getM
    rcases List.mem_cons.1 hp with rfl | hp
    · rw [if_pos rfl]
    · rw [if_neg (by have := h1 p hp; omega), ih h2 hp]
theorem mem_getM {M : Row} {k : Int} (h : getM M k ≠ 0) : (k, getM M k) ∈ M := by
  induction M with
  | nil => exact absurd rfl h
  | cons q r ih =>
    unfold getM at h ⊢
    split at h
    · rename_i e
      rw [if_pos e, ← e]; exact List.mem_cons_self
    · rename_i e
      rw [if_neg e]; exact List.mem_cons_of_mem _ (ih h)
theorem getM_app {M : Row} {p : Int × Int} {k : Int} (h : ∀ q ∈ M, q.1 ≠ p.1) : getM (M ++ [p]) k = if k = p.1 then p.2 else getM M k := by
  induction M with
  | nil => simp [getM, eq_comm]
  | cons q r ih =>
    rw [List.cons_append]
    unfold getM
    rw [ih fun x hx => h x (by simp [hx])]
    by_cases e : q.1 = k
    · rw [if_pos e, if_pos e, if_neg (by rw [← e]; exact h q (by simp))]
    · rw [if_neg e, if_neg e]
/-- The row of counts. -/
def RowG (M : Row) (g : Int → Int) : Prop := Srt M ∧ (∀ p ∈ M, 0 < p.2 ∧ p.2 = g p.1) ∧ ∀ k, 0 < g k → (k, g k) ∈ M
theorem srt_ext : ∀ {a b : Row}, Srt a → Srt b → (∀ p, p ∈ a ↔ p ∈ b) → a = b
  | [], [], _, _, _ => rfl
  | [], b :: s, _, _, h => by have := (h b).2 (by simp); simp at this
  | a :: r, [], _, _, h => by have := (h a).1 (by simp); simp at this
  | a :: r, b :: s, h1, h2, h => by
    obtain ⟨a1, a2⟩ := List.pairwise_cons.1 h1
    obtain ⟨b1, b2⟩ := List.pairwise_cons.1 h2
    have hab : a = b := by
      rcases List.mem_cons.1 ((h a).1 (by simp)) with e | ha
      · exact e
      · rcases List.mem_cons.1 ((h b).2 (by simp)) with e | hb
        · exact e.symm
        · have := a1 b hb; have := b1 a ha; omega
    subst hab
    rw [srt_ext a2 b2 fun p => ⟨fun hp => by
      rcases List.mem_cons.1 ((h p).1 (by simp [hp])) with e | hp'
      · have := a1 p hp; rw [e] at this; omega
      · exact hp', fun hp => by
      rcases List.mem_cons.1 ((h p).2 (by simp [hp])) with e | hp'
      · have := b1 p hp; rw [e] at this; omega
      · exact hp'⟩]
theorem RowG.uniq {M N : Row} {g : Int → Int} (h : RowG M g) (h2 : RowG N g) : M = N := by
  refine srt_ext h.1 h2.1 fun p => ⟨fun hp => ?_, fun hp => ?_⟩
  · obtain ⟨a, b⟩ := h.2.1 p hp
    have := h2.2.2 p.1 (by omega)
    rwa [← b] at this
  · obtain ⟨a, b⟩ := h2.2.1 p hp
    have := h.2.2 p.1 (by omega)
    rwa [← b] at this
theorem Ok.row {M : Row} (h : Ok M) : RowG M (getM M) :=
  ⟨h.1, fun p hp => ⟨by have := h.2 p hp; omega, (getM_mem h.1 hp).symm⟩, fun k hk => mem_getM (by omega)⟩
/-- What a row of counts counts. -/
theorem RowG.get {M : Row} {g : Int → Int} (h : RowG M g) (hg : ∀ k, 0 ≤ g k) (k : Int) : getM M k = g k := by
  rcases Int.lt_or_eq_of_le (hg k) with h1 | h1
  · exact getM_mem h.1 (h.2.2 k h1)
  · rw [← h1]
    by_cases h2 : getM M k = 0
    · exact h2
    · have h3 := h.2.1 _ (mem_getM h2)
      simp only at h3
      omega
theorem RowG.ok {M : Row} {g : Int → Int} (h : RowG M g) (hk : ∀ k, 0 < g k → 0 ≤ k) (hg : ∀ k, g k ≤ 1048576) : Ok M :=
  ⟨h.1, fun p hp => by
    obtain ⟨a, b⟩ := h.2.1 p hp
    have := hk p.1 (by omega)
    have := hg p.1
    omega⟩
theorem Ok.nonneg {M : Row} (h : Ok M) (k : Int) : 0 ≤ getM M k ∧ getM M k ≤ 1048576 := by
  by_cases h2 : getM M k = 0
  · omega
  · have := h.2 _ (mem_getM h2)
    simp only at this
    omega
theorem Ok.key {M : Row} (h : Ok M) {k : Int} (hk : getM M k ≠ 0) : 0 ≤ k := by
  have := h.2 _ (mem_getM hk)
  simp only at this
  omega
theorem Ok.eq_of {a b : Row} (ha : Ok a) (hb : Ok b) (h : ∀ k, getM a k = getM b k) : a = b :=
  RowG.uniq ha.row (by rw [funext h]; exact hb.row)
theorem Srt.take {M : Row} (h : Srt M) (k : Nat) : Srt (M.take k) := h.sublist (List.take_sublist _ _)
theorem Srt.new {M : Row} (h : Srt M) {k : Nat} (hk : k < M.length) : ∀ p ∈ M.take k, p.1 < (M.getD k (0, 0)).1 := by
  intro p hp
  obtain ⟨i, hi, rfl⟩ := List.getElem_of_mem hp
  rw [List.length_take] at hi
  rw [List.getElem_take, List.getD, List.getElem?_eq_getElem hk]
  exact List.pairwise_iff_getElem.1 h i k (by omega) hk (by omega)
theorem take_snoc {M : Row} {k : Nat} (h : k < M.length) : M.take (k + 1) = M.take k ++ [M.getD k (0, 0)] := by
  rw [List.take_succ_eq_append_getElem h, List.getD, List.getElem?_eq_getElem h]; rfl
/-- The sum of a row's counts. -/
def totM : Row → Int
  | [] => 0
  | p :: r => p.2 + totM r
/-- Is there no more of any member than the other counts? -/
def inM (M : Row) (g : Int → Int) : Bool := M.all fun p => decide (p.2 ≤ g p.1)
theorem inM_iff {M : Row} {g : Int → Int} : inM M g = true ↔ ∀ p ∈ M, p.2 ≤ g p.1 := by
  unfold inM; simp [List.all_eq_true]
end Go.Proofs.YtkpjhjoopdbkaaaGreatDoor
namespace Go.Proofs.YtkpjhjoopdbkaaaGreatDoor
open _root_.Go.ChangeShapes _root_.Go.WideShapes _root_.Go.ChangeAt _root_.Go.RowKit _root_.Go.Deep
theorem wf_i64 {x : Int} (h : (Lit.int .i64 x).wf = true) : -9223372036854775808 ≤ x ∧ x ≤ 9223372036854775807 := by
  have hmin : IntKind.i64.min = -9223372036854775808 := rfl
  have hmax : IntKind.i64.max = 9223372036854775807 := rfl
  simp only [Lit.wf, Bool.and_eq_true, decide_eq_true_eq, hmin, hmax] at h
  exact h
/-- Rows of ints as cells. -/
def rowCells (l : List (List Int)) : List Value := l.flatMap intCells
theorem flat_get {α β : Type} (f : α → List β) {m : Nat} (hm : 0 < m) : ∀ (l : List α), (∀ r ∈ l, (f r).length = m) → ∀ j, (l.flatMap f)[j]? = (l[j / m]?).bind fun r => (f r)[j % m]?
  | [], _, j => by simp
  | r :: l, h, j => by
    have hr : (f r).length = m := h r (by simp)
    rw [List.flatMap_cons, List.getElem?_append, hr]
    by_cases hj : j < m
    · rw [if_pos hj, Nat.div_eq_of_lt hj, Nat.mod_eq_of_lt hj]; rfl
    · rw [if_neg hj, flat_get f hm l (fun r hr => h r (by simp [hr])) (j - m)]
      have e1 : j / m = (j - m) / m + 1 := by rw [← Nat.add_div_right _ hm]; congr 1; omega
      have e2 : j % m = (j - m) % m := by rw [Nat.mod_eq_sub_mod (by omega)]
      rw [e1, e2]; rfl
theorem flat_len {α β : Type} (f : α → List β) {m : Nat} : ∀ (l : List α), (∀ r ∈ l, (f r).length = m) → (l.flatMap f).length = l.length * m
  | [], _ => by simp
  | r :: l, h => by
    rw [List.flatMap_cons, List.length_append, h r (by simp), flat_len f l (fun r hr => h r (by simp [hr])), List.length_cons, Nat.add_mul]
    omega
section
variable {H : Type} {enc : TypeId × Value → H} {P : Program} {W : World} {base b0 : Nat} {spare : Nat → Bool} {held : Bool} {r : Reach}
/-- A slice of ints that came in. -/
theorem open_ints_sl {t e : TypeId} {v : Value} {d : DataW H} {p : List MemPlace} (ht : P.underlying t = some (.slice e)) (he : P.underlying e = some (.int .i64)) (hc : P.cellsOf e = 1)
    (hv : Value.okWide P W r b0 t v) (h : DataW.Trod enc P W base spare held t v d p) :
    ∃ A n c l, v = .slice A n c ∧ Sl W (.slice A n c) n 1 (intCells l) ∧ (∀ x ∈ l, -9223372036854775808 ≤ x ∧ x ≤ 9223372036854775807) := by
  obtain ⟨A, n, c, rfl⟩ := okWide_slice ht hv
  obtain ⟨fuel, hf⟩ := h
  rcases open_ints ht he hc hf with ⟨hcs, _⟩ | ⟨a, len, cap, zs, hcs, _, hl, hm, hz, _, hcell, hwz⟩
  · simp [Value.cells] at hcs
    obtain ⟨rfl, rfl, rfl⟩ := hcs
    exact ⟨none, 0, 0, [], rfl, Sl.none_ W 1, by simp⟩
  · simp [Value.cells] at hcs
    obtain ⟨rfl, rfl, rfl⟩ := hcs
    have hzl : n ≤ zs.length := by rw [hz]; split <;> omega
    refine ⟨_, _, _, zs.take n, rfl, ⟨_, _, rfl, hl, by unfold maxLen at hm; exact hm, by simp [intCells]; omega, fun hn => ?_⟩, fun x hx => wf_i64 (hwz x (List.mem_of_mem_take hx))⟩
    obtain ⟨b, off, rfl, hc⟩ := ints_at hcell (by omega)
    refine ⟨b, off, rfl, fun j u hu => ?_⟩
    simp only [intCells, List.getElem?_map, List.getElem?_take] at hu
    split at hu
    · rename_i hjn
      rw [hc j (by omega)]
      rw [List.getElem?_eq_getElem (by omega)] at hu
      simp only [Option.map_some, Option.some.injEq] at hu
      rw [← hu]
      simp [List.getD, List.getElem?_eq_getElem (show j < zs.length by omega)]
    · simp at hu
/-- A slice of arrays of m ints that came in. -/
theorem open_rows_sl {t e ei : TypeId} {m : Nat} {v : Value} {d : DataW H} {p : List MemPlace} (ht : P.underlying t = some (.slice e)) (he : P.underlying e = some (.array m ei)) (hi : P.underlying ei = some (.int .i64)) (hce : P.cellsOf e = m) (hc : P.cellsOf ei = 1) (hm0 : 0 < m)
    (h : DataW.Trod enc P W base spare held t v d p) (hv : Value.okWide P W r b0 t v) :
    ∃ A n c l, v = .slice A n c ∧ Sl W (.slice A n c) n m (rowCells l) ∧ l.length = n ∧ ∀ x ∈ l, x.length = m ∧ ∀ y ∈ x, -9223372036854775808 ≤ y ∧ y ≤ 9223372036854775807 := by
  obtain ⟨A, n, c, rfl⟩ := okWide_slice ht hv
  obtain ⟨fuel, hf⟩ := h
  rcases open_slice ht hf with ⟨hcs, _⟩ | ⟨a, len, cap, k, fu, D, Pl, hcs, _, hl, hmx, hk, _, hx⟩
  · simp [Value.cells] at hcs
    obtain ⟨rfl, rfl, rfl⟩ := hcs
    exact ⟨none, 0, 0, [], rfl, Sl.none_ W m, rfl, by simp⟩
  · simp [Value.cells] at hcs
    obtain ⟨rfl, rfl, rfl⟩ := hcs
    have hlk : n ≤ k := by rw [hk]; split <;> omega
    have each : ∀ i, i < n → ∃ x : List Int, x.length = m ∧ (∀ y ∈ x, -9223372036854775808 ≤ y ∧ y ≤ 9223372036854775807) ∧ ∀ j, j < m → W.cell? ((a.add (i * m)).add j) = some (.int .i64 (x.getD j 0)) := by
      intro i hin
      obtain ⟨cs', h1, h2⟩ := hx i (by omega)
      rw [hce] at h1
      obtain ⟨_, hlen, hcell⟩ := World.cells?_some h1
      obtain ⟨xs, m', _, _, hl1, hl2, hel⟩ := DataW.trod_array he h2
      have each2 : ∀ j, j < m → ∃ y : Int, cs'[j]? = some (.int .i64 y) ∧ (Lit.int .i64 y).wf = true := by
        intro j hj
        have h3 := hel j hj
        rw [hc, Nat.mul_one, List.getElem?_eq_getElem (by omega)] at h3
        obtain ⟨y, hy, _, hw⟩ := DataW.trod_int hi h3
        have hj2 : j < cs'.length := by omega
        rw [List.drop_eq_getElem_cons hj2, List.take_succ_cons, List.take_zero] at hy
        injection hy with hy _
        exact ⟨y, by rw [List.getElem?_eq_getElem hj2, hy], hw⟩
      obtain ⟨F, hF⟩ := choose_lt (α := Int) (p := fun j y => cs'[j]? = some (.int .i64 y) ∧ (Lit.int .i64 y).wf = true) each2
      refine ⟨(List.range m).map F, by simp, fun y hy => ?_, fun j hj => ?_⟩
      · obtain ⟨j, hj, rfl⟩ := List.mem_map.1 hy
        exact wf_i64 (hF j (by simpa using hj)).2
      · rw [hcell j (by omega), (hF j hj).1]
        simp [List.getD, hj]
    obtain ⟨R, hR⟩ := choose_lt (α := List Int) (p := fun i x => x.length = m ∧ (∀ y ∈ x, -9223372036854775808 ≤ y ∧ y ≤ 9223372036854775807) ∧ ∀ j, j < m → W.cell? ((a.add (i * m)).add j) = some (.int .i64 (x.getD j 0))) each
    have hrl : ∀ x ∈ (List.range n).map R, (intCells x).length = m := by
      intro x hx
      obtain ⟨i, hi, rfl⟩ := List.mem_map.1 hx
      rw [intCells_len]; exact (hR i (by simpa using hi)).1
    refine ⟨_, _, _, (List.range n).map R, rfl, ⟨_, _, rfl, hl, by unfold maxLen at hmx; exact hmx, ?_, fun hn => ?_⟩, by simp, fun x hx => ?_⟩
    · unfold rowCells
      rw [flat_len intCells _ hrl]; simp
    · have hplain : a.spot = none := by
        have := (hR 0 hn).2.2 0 hm0
        rcases hs : a.spot with _ | s
        · rfl
        · simp [World.cell?, Addr.add, hs] at this
          split at this <;> simp_all
      obtain ⟨b, off, sp⟩ := a
      simp only at hplain
      subst hplain
      refine ⟨b, off, rfl, fun j u hu => ?_⟩
      unfold rowCells at hu
      rw [flat_get intCells hm0 _ hrl] at hu
      rcases hji : ((List.range n).map R)[j / m]? with _ | x
      · rw [hji] at hu; cases hu
      · rw [hji] at hu
        have hlt : j / m < n := by
          have := (List.getElem?_eq_some_iff.1 hji).1
          simpa using this
        have hxe : R (j / m) = x := by
          rw [List.getElem?_map, List.getElem?_range hlt] at hji
          simpa using hji
        have hjm : j % m < m := Nat.mod_lt _ hm0
        have hcell := (hR (j / m) hlt).2.2 (j % m) hjm
        rw [hxe] at hcell
        have hxl : x.length = m := hxe ▸ (hR (j / m) hlt).1
        have hu2 : (intCells x)[j % m]? = some u := hu
        rw [intCells_at (by omega)] at hu2
        rw [← hu2, ← hcell]
        rw [Go.WideShapes.add_plain, Go.WideShapes.add_plain]
        have h5 := Nat.div_add_mod j m
        rw [Nat.mul_comm] at h5
        rw [show off + j / m * m + j % m = off + j by omega]
    · obtain ⟨i, hi, rfl⟩ := List.mem_map.1 hx
      have := hR i (by simpa using hi)
      exact ⟨this.1, this.2.1⟩
end
/-- Pairs as cells. -/
def pairCells (l : List (Int × Int)) : List Value := l.flatMap fun p => [.int .i64 p.1, .int .i64 p.2]
theorem pairCells_len (l : List (Int × Int)) : (pairCells l).length = l.length * 2 := flat_len _ l (fun _ _ => rfl)
theorem pair_one (l : List (Int × Int)) : ∀ u ∈ pairCells l, u.oneCell' = true := by
  intro u hu
  obtain ⟨p, _, hp⟩ := List.mem_flatMap.1 hu
  simp only [List.mem_cons, List.not_mem_nil, or_false] at hp
  rcases hp with rfl | rfl <;> rfl
theorem pairCells_app (l m : List (Int × Int)) : pairCells (l ++ m) = pairCells l ++ pairCells m := by simp [pairCells]
theorem pairCells_at {l : List (Int × Int)} {k : Nat} (h : k < l.length) : (pairCells l)[k * 2]? = some (.int .i64 (l.getD k (0, 0)).1) ∧ (pairCells l)[k * 2 + 1]? = some (.int .i64 (l.getD k (0, 0)).2) := by
  have e1 : k * 2 / 2 = k := by omega
  have e2 : (k * 2 + 1) / 2 = k := by omega
  have e3 : (k * 2) % 2 = 0 := by omega
  have e4 : (k * 2 + 1) % 2 = 1 := by omega
  unfold pairCells
  rw [flat_get _ (by omega : 0 < 2) l (fun _ _ => rfl), flat_get _ (by omega : 0 < 2) l (fun _ _ => rfl), e1, e2, e3, e4, List.getElem?_eq_getElem h]
  simp [List.getD, h]
/-- Rows of two are pairs. -/
theorem rows_pairs {l : List (List Int)} (h : ∀ x ∈ l, x.length = 2 ∧ ∀ y ∈ x, -9223372036854775808 ≤ y ∧ y ≤ 9223372036854775807) :
    ∃ m : List (Int × Int), rowCells l = pairCells m ∧ m.length = l.length ∧ ∀ p ∈ m, (-9223372036854775808 ≤ p.1 ∧ p.1 ≤ 9223372036854775807) ∧ (-9223372036854775808 ≤ p.2 ∧ p.2 ≤ 9223372036854775807) := by
  induction l with
  | nil => exact ⟨[], rfl, rfl, by simp⟩
  | cons x l ih =>
    obtain ⟨m, h1, h2, h3⟩ := ih fun y hy => h y (by simp [hy])
    obtain ⟨hx, hy⟩ := h x (by simp)
    obtain ⟨a, b, rfl⟩ : ∃ a b, x = [a, b] := by
      match x, hx with
      | [a, b], _ => exact ⟨a, b, rfl⟩
    refine ⟨(a, b) :: m, ?_, by simp [h2], fun p hp => ?_⟩
    · unfold rowCells pairCells at *
      rw [List.flatMap_cons, List.flatMap_cons, h1]; rfl
    · rcases List.mem_cons.1 hp with rfl | hp
      · exact ⟨hy a (by simp), hy b (by simp)⟩
      · exact h3 p hp
theorem Sl.pair_at {w : World} {A : Option Addr} {n c : Nat} {l : List (Int × Int)} (h : Sl w (.slice A n c) n 2 (pairCells l)) {k : Nat} (hk : k < n) :
    ∃ b off, A = some ⟨b, off, none⟩ ∧ w.cell? ⟨b, off + k * 2, none⟩ = some (.int .i64 (l.getD k (0, 0)).1) ∧ w.cell? ⟨b, off + k * 2 + 1, none⟩ = some (.int .i64 (l.getD k (0, 0)).2) := by
  have hl := h.len
  rw [pairCells_len] at hl
  obtain ⟨b, off, e, hc⟩ := h.at_ (by omega)
  have hp := pairCells_at (l := l) (k := k) (by omega)
  refine ⟨b, off, e, hc _ _ hp.1, ?_⟩
  have := hc _ _ hp.2
  rwa [← Nat.add_assoc] at this
theorem Sl.bound {w : World} {A : Option Addr} {n c size : Nat} {xs : List Value} (h : Sl w (.slice A n c) n size xs) : n ≤ 9223372036854775807 := by
  obtain ⟨A', c', h1, h2, h3, _⟩ := h
  omega
end Go.Proofs.YtkpjhjoopdbkaaaGreatDoor
namespace Go.Proofs.YtkpjhjoopdbkaaaGreatDoor
open Go.RowKit
theorem ret_b {a b : Bool} (h : a = b) : Ending.returned (.bool a) = .returned (.bool b) := by rw [h]
end Go.Proofs.YtkpjhjoopdbkaaaGreatDoor
namespace Go.Proofs.YtkpjhjoopdbkaaaGreatDoor
open Go.RowKit
mutual
def fewT : Tr → Nat → Int
  | .mk _ _ l, d => if d = 0 ∨ 9 < l.length then 0 else fewL l (d - 1) 500
def fewL : List Tr → Nat → Int → Int
  | [], _, n => n - 1
  | t :: r, d, n => if fewT t d = 0 then 0 else if n - 500 + fewT t d ≤ 1 then 0 else fewL r d (n - 500 + fewT t d)
end
theorem fewT_eq (t : Tr) (d : Nat) : fewT t d = if d = 0 ∨ 9 < t.kids.length then 0 else fewL t.kids (d - 1) 500 := by
  obtain ⟨k, n, l⟩ := t
  rw [fewT]; rfl
mutual
theorem few_range : ∀ (t : Tr) (d : Nat), 0 ≤ fewT t d ∧ fewT t d ≤ 499
  | .mk _ _ l, d => by
    rw [fewT]
    split
    · omega
    · exact fewL_range l (d - 1) 500 (by omega) (by omega)
theorem fewL_range : ∀ (l : List Tr) (d : Nat) (n : Int), 1 ≤ n → n ≤ 500 → 0 ≤ fewL l d n ∧ fewL l d n ≤ 499
  | [], d, n, h1, h2 => by rw [fewL]; omega
  | t :: r, d, n, h1, h2 => by
    rw [fewL]
    have h3 := few_range t d
    split
    · omega
    · split
      · omega
      · exact fewL_range r d _ (by omega) (by omega)
end
mutual
theorem few_size : ∀ (t : Tr) (d : Nat), 0 < fewT t d → fewT t d = 500 - (sizeT t : Int) ∧ depthT t ≤ d
  | .mk k n l, d, h => by
    rw [fewT] at h ⊢
    split at h
    · omega
    · rename_i hd
      rw [if_neg hd]
      have := fewL_size l (d - 1) 500 h
      rw [sizeT, depthT]
      omega
theorem fewL_size : ∀ (l : List Tr) (d : Nat) (n : Int), 0 < fewL l d n → fewL l d n = n - 1 - (sizeL l : Int) ∧ depthL l ≤ d
  | [], d, n, h => by
    rw [fewL] at h ⊢
    rw [sizeL, depthL]
    omega
  | t :: r, d, n, h => by
    rw [fewL] at h ⊢
    split at h
    · omega
    · rename_i h1
      rw [if_neg h1]
      split at h
      · omega
      · rename_i h2
        rw [if_neg h2]
        have h3 := few_size t d (by have := few_range t d; omega)
        have h4 := fewL_size r d _ h
        rw [sizeL, depthL]
        omega
end
theorem fewL_cons (t : Tr) (r : List Tr) (d : Nat) (n : Int) : fewL (t :: r) d n = if fewT t d = 0 then 0 else if n - 500 + fewT t d ≤ 1 then 0 else fewL r d (n - 500 + fewT t d) := by rw [fewL]
theorem drop_tr {L : List Tr} {k : Nat} (h : k < L.length) : L.drop k = L.getD k default :: L.drop (k + 1) := by
  rw [List.drop_eq_getElem_cons h, List.getD, List.getElem?_eq_getElem h]; rfl
set_option maxRecDepth 100000 in
set_option maxHeartbeats 2000000 in
theorem law_few : ∀ (d : Nat), d ≤ 60 → ∀ (t : Tr) (A : Option Addr) (m c : Nat) (w : World), Hid (TrAt w A m c t) → Calls Tryz.prog 35 #[t.val A m c, .int .i64 (d : Int)] w (NumP w (fewT t d))
  | 0, _, t, A, m, c, w, h => by
    have HB1 := Lib.hid ((Below.refl w.heap.size w).alloc (Nat.le_refl _) (.cells #[.int .i64 t.kind, .int .i64 t.num, .slice A m c] 30))
    have e := Lib.hid (show fewT t 0 = 0 by rw [fewT_eq]; simp)
    go_enter Tryz.func35, Tryz.ntmps35
    go_wp2
    go_ret
    exact ⟨ret1 e.out.symm, HB1.out⟩
  | d + 1, hd, t, A, m, c, w, h => by
    have IH := Lib.hid (fun t' A' m' c' w' H' => law_few d (by omega) t' A' m' c' w' H')
    obtain ⟨hl, hc, hc9⟩ := h.out.len
    have HB1 := Lib.hid ((Below.refl w.heap.size w).alloc (Nat.le_refl _) (.cells #[.int .i64 t.kind, .int .i64 t.num, .slice A m c] 30))
    have hX1 := Lib.hid (cell_new w #[.int .i64 t.kind, .int .i64 t.num, .slice A m c] 30 2 _ rfl)
    have hf := fewT_eq t (d + 1)
    have d0 : (0 : Int) < (d : Int) + 1 := by omega
    have d1 : IntKind.i64.wrap ((d : Int) + 1 - 1) = (d : Int) := by rw [show (d : Int) + 1 - 1 = (d : Int) by omega]; exact IntWalk.i64_in _ (by omega)
    by_cases h9 : 9 < m
    · have e := Lib.hid (show fewT t (d + 1) = 0 by rw [hf, if_pos (.inr (by omega))])
      have h92 : (9 : Int) < (m : Int) := by omega
      clear hf
      go_enter Tryz.func35, Tryz.ntmps35
      go_wp2
      go_ret
      exact ⟨ret1 e.out.symm, HB1.out⟩
    · rw [if_neg (by omega), Nat.add_sub_cancel] at hf
      have HF := Lib.hid hf
      have h92 : (m : Int) ≤ 9 := by omega
      obtain ⟨R, hR⟩ : ∃ R, R = fewT t (d + 1) := ⟨_, rfl⟩
      rw [← hR] at HF ⊢
      clear hf hR h9
      go_enter Tryz.func35, Tryz.ntmps35
      go_wp2
      go_loopw [5, 6] (fun v5 v6 wr => ∃ (k : Nat) (n : Int), k ≤ m ∧ v6 = .int .i64 (k : Int) ∧ v5 = .int .i64 n ∧ 1 ≤ n ∧ n ≤ 500 ∧ Hid (fewL (t.kids.drop k) d n = R) ∧ Hid (Below w.heap.size w wr) ∧ Hid (wr.cell? ⟨w.heap.size, 2, none⟩ = some (.slice A m c))) (fun _ v6 _ => m - (intOf v6).toNat)
      case atStart => exact ⟨0, 500, by omega, rfl, rfl, by omega, by omega, HF.out.symm, HB1.out, hX1.out⟩
      case round =>
        obtain ⟨k, n, hk, rfl, rfl, n1, n2, hR, hB, hX⟩ := hrel
        have xc := hX.out
        by_cases hlt : k < m
        · obtain ⟨b, off, rfl, A', m', c', hK⟩ := (h.out.kept hB.out).kid hlt
          have hst := hR.out
          rw [drop_tr (by omega), fewL_cons] at hst
          obtain ⟨q, hq⟩ : ∃ q, q = t.kids.getD k default := ⟨_, rfl⟩
          rw [← hq] at hK hst
          have c0 := hK.c0
          have c1 := hK.c1
          have c2 := hK.c2
          have cQ := Lib.hid (IH.out q A' m' c' wr (Lib.hid hK.tr))
          have hrg := few_range q d
          obtain ⟨y, hy⟩ : ∃ y, y = fewT q d := ⟨_, rfl⟩
          rw [← hy] at hst hrg cQ
          have hlt2 : (k : Int) < (m : Int) := by omega
          have hk0 : (0 : Int) ≤ (k : Int) := by omega
          have a1 : IntKind.i64.wrap (n - 500) = n - 500 := IntWalk.i64_in _ (by omega)
          have a2 : IntKind.i64.wrap (n - 500 + y) = n - 500 + y := IntWalk.i64_in _ (by omega)
          clear hK hq hy
          by_cases y0 : y = 0
          · rw [if_pos y0] at hst
            subst y0
            have HST := Lib.hid hst
            clear hst
            go_wp2_with (go_at_call 35; refine cQ.out.mono ?_; rintro e w5 ⟨rfl, hb5⟩; have HB5 := Lib.hid (hB.out.trans (hb5.mono hB.out.size)); clear hb5)
            go_ret
            exact ⟨ret1 HST.out, HB5.out⟩
          · rw [if_neg y0] at hst
            have yb : (y == 0) = false := by simpa using y0
            clear y0
            by_cases n0 : n - 500 + y ≤ 1
            · rw [if_pos n0] at hst
              have HST := Lib.hid hst
              clear hst
              go_wp2_with (go_at_call 35; refine cQ.out.mono ?_; rintro e w5 ⟨rfl, hb5⟩; have HB5 := Lib.hid (hB.out.trans (hb5.mono hB.out.size)); clear hb5)
              go_ret
              exact ⟨ret1 HST.out, HB5.out⟩
            · rw [if_neg n0] at hst
              have n3 : 1 < n - 500 + y := by omega
              have HST := Lib.hid hst
              clear hst n0
              go_wp2_with (go_at_call 35; refine cQ.out.mono ?_; rintro e w5 ⟨rfl, hb5⟩; have HB5 := Lib.hid (hB.out.trans (hb5.mono hB.out.size)); have X5 := Lib.hid (cell_kept hb5 xc); clear hb5)
              go_roundw
              case rel => exact ⟨k + 1, n - 500 + y, by omega, by go_num, rfl, by omega, by omega, HST, HB5, X5⟩
              case measure => simp [intOf]; omega
        · have e1 : t.kids.drop k = [] := List.drop_eq_nil_of_le (by omega)
          have hst := hR.out
          rw [e1, fewL] at hst
          have HST := Lib.hid hst
          have a1 : IntKind.i64.wrap (n - 1) = n - 1 := IntWalk.i64_in _ (by omega)
          clear hst e1
          go_wp2
          go_ret
          exact ⟨ret1 HST.out, hB.out⟩
set_option maxRecDepth 100000 in
set_option maxHeartbeats 1000000 in
theorem law_Few (t : Tr) (A : Option Addr) (m c : Nat) (w : World) (h : Hid (TrAt w A m c t)) :
    Calls Tryz.prog 15 #[t.val A m c] w fun e w' => e = .returned (.bool (decide (0 < fewT t 60))) ∧ Below w.heap.size w w' := by
  have hb1 := (Below.refl w.heap.size w).alloc (Nat.le_refl _) (.cells #[.int .i64 t.kind, .int .i64 t.num, .slice A m c] 30)
  have HB1 := Lib.hid hb1
  have cF := Lib.hid (law_few 60 (by omega) t A m c _ (Lib.hid (h.out.kept hb1)))
  obtain ⟨x, hx⟩ : ∃ x, x = fewT t 60 := ⟨_, rfl⟩
  rw [← hx] at cF ⊢
  clear hx hb1
  go_enter Tryz.func15, Tryz.ntmps15
  go_wp2_with (go_at_call 35; refine cF.out.mono ?_; rintro e w5 ⟨rfl, hb5⟩; have HB5 := Lib.hid (below_then HB1.out hb5); clear hb5)
  go_ret
  exact ⟨rfl, HB5.out⟩
end Go.Proofs.YtkpjhjoopdbkaaaGreatDoor
namespace Go.Proofs.YtkpjhjoopdbkaaaGreatDoor
open Go.RowKit
def kidsN (k : Int) : Int := if k = 1 ∨ k = 2 then 0 else if k = 3 ∨ k = 4 then 1 else if k = 5 then 2 else if k = 6 then 3 else -1
/-- Is a part by itself right? -/
def okN (vars k n : Int) (m : Nat) : Bool := decide ((m : Int) = kidsN k) && !(decide (k = 2) && (decide (n < 0) || decide (vars ≤ n))) && !(decide (k = 5) && !knownB n)
mutual
def partsT (vars : Int) : Tr → Bool
  | .mk k n l => okN vars k n l.length && partsL vars l
def partsL (vars : Int) : List Tr → Bool
  | [] => true
  | t :: r => partsT vars t && partsL vars r
end
theorem partsT_eq (vars : Int) (t : Tr) : partsT vars t = (okN vars t.kind t.num t.kids.length && partsL vars t.kids) := by
  obtain ⟨k, n, l⟩ := t
  rw [partsT]; rfl
theorem partsL_cons (vars : Int) (t : Tr) (r : List Tr) : partsL vars (t :: r) = (partsT vars t && partsL vars r) := by rw [partsL]
set_option maxHeartbeats 1000000 in
theorem ex_kids (k : Int) (w : World) : Calls Tryz.prog 80 #[.int .i64 k] w fun e w' => e = .returned (.int .i64 (kidsN k)) ∧ w = w' := by
  go_enter Tryz.func80, Tryz.ntmps80
  go_wp2
  all_goals
    go_ret
    exact ⟨ret1 (by simp_all [kidsN]), rfl⟩
/-- The contract of parts, at trees of so many parts. -/
def PartsAt (vars : Int) (N : Nat) : Prop := ∀ (t : Tr), t.sz ≤ N → ∀ (A : Option Addr) (m c : Nat) (w : World), Hid (TrAt w A m c t) → Calls Tryz.prog 37 #[t.val A m c, .int .i64 vars] w fun e w' => e = .returned (.bool (partsT vars t)) ∧ Below w.heap.size w w'
set_option maxRecDepth 100000 in
set_option maxHeartbeats 1000000 in
theorem ex_parts1 (vars : Int) (N g : Nat) (IH : Hid (PartsAt vars N)) (t : Tr) (hN : t.sz ≤ N) (A : Option Addr) (m c : Nat) (w : World) (h : Hid (TrAt w A m c t)) (hg : Hid (w.cell? ⟨g, 0, none⟩ = some (.int .i64 vars))) :
    Calls Tryz.prog 83 #[t.val A m c, .pointer (some ⟨g, 0, none⟩)] w fun e w' => e = .returned (.bool (!partsT vars t)) ∧ Below w.heap.size w w' := by
  have hb1 := (Below.refl w.heap.size w).alloc (Nat.le_refl _) (.cells #[.int .i64 t.kind, .int .i64 t.num, .slice A m c] 30)
  have HB1 := Lib.hid hb1
  have g1 := cell_kept hb1 hg.out
  have cP := Lib.hid (IH.out t hN A m c _ (Lib.hid (h.out.kept hb1)))
  obtain ⟨x, hx⟩ : ∃ x, x = partsT vars t := ⟨_, rfl⟩
  rw [← hx] at cP ⊢
  clear hx hb1
  go_enter Tryz.func83, Tryz.ntmps83
  go_wp2_with (go_at_call 37; refine cP.out.mono ?_; rintro e w5 ⟨rfl, hb5⟩; have HB5 := Lib.hid (below_then HB1.out hb5); clear hb5)
  go_ret
  exact ⟨rfl, HB5.out⟩
set_option maxRecDepth 100000 in
set_option maxHeartbeats 2000000 in
theorem ex_IndexFunc (vars : Int) (N g : Nat) (IH : Hid (PartsAt vars N)) (t : Tr) (hN : t.sz ≤ N + 1) (A : Option Addr) (m c : Nat) (w : World) (h : Hid (TrAt w A m c t)) (hg : Hid (w.cell? ⟨g, 0, none⟩ = some (.int .i64 vars))) :
    Calls Tryz.prog 138 #[.slice A m c, .func (.func 83) #[] #[.pointer (some ⟨g, 0, none⟩)]] w fun e w' => (∃ x : Int, e = .returned (.int .i64 x) ∧ Hid (decide (0 ≤ x) = !partsL vars t.kids)) ∧ Below w.heap.size w w' := by
  obtain ⟨hl, hc, hc9⟩ := h.out.len
  obtain ⟨R, hR⟩ : ∃ R, R = partsL vars t.kids := ⟨_, rfl⟩
  have HR := Lib.hid hR
  rw [← hR]
  clear hR
  go_enter Tryz.func138, Tryz.ntmps138
  go_wp2
  go_loopw [8] (fun v8 wr => ∃ (k : Nat), k ≤ m ∧ v8 = .int .i64 (k : Int) ∧ Hid (partsL vars (t.kids.drop k) = R) ∧ Hid (Below w.heap.size w wr)) (fun v8 _ => m - (intOf v8).toNat)
  case atStart => exact ⟨0, by omega, rfl, HR.out.symm, Below.refl _ _⟩
  case round =>
    obtain ⟨k, hk, rfl, hP, hB⟩ := hrel
    by_cases hlt : k < m
    · obtain ⟨b, off, rfl, A', m', c', hK⟩ := (h.out.kept hB.out).kid hlt
      have hst := hP.out
      rw [drop_tr (by omega), partsL_cons] at hst
      have hkd := Tr.kid_lt (t := t) (j := k) (by omega)
      obtain ⟨q, hq⟩ : ∃ q, q = t.kids.getD k default := ⟨_, rfl⟩
      rw [← hq] at hK hst hkd
      have c0 := hK.c0
      have c1 := hK.c1
      have c2 := hK.c2
      have cQ := ex_parts1 vars N g IH q (by omega) A' m' c' wr (Lib.hid hK.tr) (Lib.hid (cell_kept hB.out hg.out))
      obtain ⟨y, hy⟩ : ∃ y, y = partsT vars q := ⟨_, rfl⟩
      rw [← hy] at hst cQ
      have CQ := Lib.hid cQ
      have hlt2 : (k : Int) < (m : Int) := by omega
      have hk0 : (0 : Int) ≤ (k : Int) := by omega
      have HST := Lib.hid hst
      clear hK hq hy hst cQ
      cases y with
      | false =>
        go_wp2_with (go_at_call 83; refine CQ.out.mono ?_; rintro e w5 ⟨rfl, hb5⟩; have HB5 := Lib.hid (hB.out.trans (hb5.mono hB.out.size)); clear hb5)
        go_ret
        refine ⟨⟨_, rfl, ?_⟩, HB5.out⟩
        show decide (0 ≤ (k : Int)) = !R
        rw [← HST.out]
        simp
      | true =>
        go_wp2_with (go_at_call 83; refine CQ.out.mono ?_; rintro e w5 ⟨rfl, hb5⟩; have HB5 := Lib.hid (hB.out.trans (hb5.mono hB.out.size)); clear hb5)
        go_roundw
        case rel => exact ⟨k + 1, by omega, by go_num, by have := HST.out; rw [Bool.true_and] at this; exact this, HB5⟩
        case measure => simp [intOf]; omega
    · have e1 : t.kids.drop k = [] := List.drop_eq_nil_of_le (by omega)
      have hst := hP.out
      rw [e1, partsL] at hst
      have HST := Lib.hid hst
      clear hst e1
      go_wp2
      go_ret
      refine ⟨⟨_, rfl, ?_⟩, hB.out⟩
      show decide ((0 : Int) ≤ -1) = !R
      rw [← HST.out]
      rfl
set_option maxRecDepth 100000 in
set_option maxHeartbeats 1000000 in
theorem ex_ContainsFunc (vars : Int) (N g : Nat) (IH : Hid (PartsAt vars N)) (t : Tr) (hN : t.sz ≤ N + 1) (A : Option Addr) (m c : Nat) (w : World) (h : Hid (TrAt w A m c t)) (hg : Hid (w.cell? ⟨g, 0, none⟩ = some (.int .i64 vars))) :
    Calls Tryz.prog 82 #[.slice A m c, .func (.func 83) #[] #[.pointer (some ⟨g, 0, none⟩)]] w fun e w' => e = .returned (.bool (!partsL vars t.kids)) ∧ Below w.heap.size w w' := by
  have cI := Lib.hid (ex_IndexFunc vars N g IH t hN A m c w h hg)
  go_enter Tryz.func82, Tryz.ntmps82
  go_wp2_with (go_at_call 138; refine cI.out.mono ?_; rintro e w5 ⟨⟨x, rfl, hx⟩, hb5⟩; have HB5 := Lib.hid hb5; clear hb5)
  go_ret
  exact ⟨ret1b hx.out, HB5.out⟩
end Go.Proofs.YtkpjhjoopdbkaaaGreatDoor
