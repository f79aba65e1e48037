/- Joined: Plain words for bags: rows of pairs, counts as functions. No program. Slices of rows of ints: what came in, opened. Contracts of package bag: Right. Law 04: few, Few. parts, Right: the program's. -/
import Derived.WalkKit
import Derived.Test.YtkpjhjoopdbkaaaGreatDoorG01
import Derived.ProofKit
import Derived.OpenShut
import Derived.Deep.SlicePairs
import Derived.Test.YtkpjhjoopdbkaaaGreatDoorChecked
import Derived.BigQuiet
import Derived.Deep.QuietTactic
import Derived.Deep.RegionWith
import Derived.BigRegion
import Derived.Deep.DeepCutAuto
import Derived.Test.YtkpjhjoopdbkaaaGreatDoorG02
namespace Go.Proofs.YtkpjhjoopdbkaaaGreatDoor
abbrev Row := List (Int × Int)
def Srt (M : Row) : Prop := M.Pairwise (fun p q => p.1 < q.1)
def Ok (M : Row) : Prop := Srt M ∧ ∀ p ∈ M, 0 ≤ p.1 ∧ 1 ≤ p.2 ∧ p.2 ≤ 1048576
/-- How often a member stands in a row. -/
def getM : Row → Int → Int
  | [], _ => 0
  | p :: r, k => if p.1 = k then p.2 else getM r k
theorem getM_not {M : Row} {k : Int} (h : ∀ p ∈ M, p.1 ≠ k) : getM M k = 0 := by
  induction M with
  | nil => rfl
  | cons p r ih => unfold getM; rw [if_neg (h p (by simp)), ih fun q hq => h q (by simp [hq])]
theorem getM_mem {M : Row} (h : Srt M) {p : Int × Int} (hp : p ∈ M) : getM M p.1 = p.2 := by
  induction M with
  | nil => cases hp
  | cons q r ih =>
    obtain ⟨h1, h2⟩ := List.pairwise_cons.1 h
    unfold getM
    rcases List.mem_cons.1 hp with rfl | hp
    · rw [if_pos rfl]
    · rw [if_neg (by have := h1 p hp; omega), ih h2 hp]
theorem mem_getM {M : Row} {k : Int} (h : getM M k ≠ 0) : (k, getM M k) ∈ M := by
  induction M with
  | nil => exact absurd rfl h
  | cons q r ih =>
    unfold getM at h ⊢
    split at h
    · rename_i e
      rw [if_pos e, ← e]; exact List.mem_cons_self
    · rename_i e
      rw [if_neg e]; exact List.mem_cons_of_mem _ (ih h)
/-- The row of counts. -/
def RowG (M : Row) (g : Int → Int) : Prop := Srt M ∧ (∀ p ∈ M, 0 < p.2 ∧ p.2 = g p.1) ∧ ∀ k, 0 < g k → (k, g k) ∈ M
theorem srt_ext : ∀ {a b : Row}, Srt a → Srt b → (∀ p, p ∈ a ↔ p ∈ b) → a = b
  | [], [], _, _, _ => rfl
  | [], b :: s, _, _, h => by have := (h b).2 (by simp); simp at this
  | a :: r, [], _, _, h => by have := (h a).1 (by simp); simp at this
  | a :: r, b :: s, h1, h2, h => by
    obtain ⟨a1, a2⟩ := List.pairwise_cons.1 h1
    obtain ⟨b1, b2⟩ := List.pairwise_cons.1 h2
    have hab : a = b := by
      rcases List.mem_cons.1 ((h a).1 (by simp)) with e | ha
      · exact e
      · rcases List.mem_cons.1 ((h b).2 (by simp)) with e | hb
        · exact e.symm
        · have := a1 b hb; have := b1 a ha; omega
    subst hab
    rw [srt_ext a2 b2 fun p => ⟨fun hp => by
      rcases List.mem_cons.1 ((h p).1 (by simp [hp])) with e | hp'
      · have := a1 p hp; rw [e] at this; omega
      · exact hp', fun hp => by
      rcases List.mem_cons.1 ((h p).2 (by simp [hp])) with e | hp'
      · have := b1 p hp; rw [e] at this; omega
      · exact hp'⟩]
theorem RowG.uniq {M N : Row} {g : Int → Int} (h : RowG M g) (h2 : RowG N g) : M = N := by
  refine srt_ext h.1 h2.1 fun p => ⟨fun hp => ?_, fun hp => ?_⟩
  · obtain ⟨a, b⟩ := h.2.1 p hp
    have := h2.2.2 p.1 (by omega)
    rwa [← b] at this
  · obtain ⟨a, b⟩ := h2.2.1 p hp
    have := h.2.2 p.1 (by omega)
    rwa [← b] at this
theorem Ok.row {M : Row} (h : Ok M) : RowG M (getM M) :=
  ⟨h.1, fun p hp => ⟨by have := h.2 p hp; omega, (getM_mem h.1 hp).symm⟩, fun k hk => mem_getM (by omega)⟩
/-- What a row of counts counts. -/
theorem RowG.get {M : Row} {g : Int → Int} (h : RowG M g) (hg : ∀ k, 0 ≤ g k) (k : Int) : getM M k = g k := by
  rcases Int.lt_or_eq_of_le (hg k) with h1 | h1
  · exact getM_mem h.1 (h.2.2 k h1)
  · rw [← h1]
    by_cases h2 : getM M k = 0
    · exact h2
    · have h3 := h.2.1 _ (mem_getM h2)
      simp only at h3
      omega
theorem RowG.ok {M : Row} {g : Int → Int} (h : RowG M g) (hk : ∀ k, 0 < g k → 0 ≤ k) (hg : ∀ k, g k ≤ 1048576) : Ok M :=
  ⟨h.1, fun p hp => by
    obtain ⟨a, b⟩ := h.2.1 p hp
    have := hk p.1 (by omega)
    have := hg p.1
    omega⟩
theorem Ok.key {M : Row} (h : Ok M) {k : Int} (hk : getM M k ≠ 0) : 0 ≤ k := by
  have := h.2 _ (mem_getM hk)
  simp only at this
  omega
theorem Srt.take {M : Row} (h : Srt M) (k : Nat) : Srt (M.take k) := h.sublist (List.take_sublist _ _)
theorem Srt.new {M : Row} (h : Srt M) {k : Nat} (hk : k < M.length) : ∀ p ∈ M.take k, p.1 < (M.getD k (0, 0)).1 := by
  intro p hp
  obtain ⟨i, hi, rfl⟩ := List.getElem_of_mem hp
  rw [List.length_take] at hi
  rw [List.getElem_take, List.getD, List.getElem?_eq_getElem hk]
  exact List.pairwise_iff_getElem.1 h i k (by omega) hk (by omega)
end Go.Proofs.YtkpjhjoopdbkaaaGreatDoor
namespace Go.Proofs.YtkpjhjoopdbkaaaGreatDoor
open _root_.Go.ChangeShapes _root_.Go.WideShapes _root_.Go.ChangeAt _root_.Go.RowKit _root_.Go.Deep
theorem wf_i64 {x : Int} (h : (Lit.int .i64 x).wf = true) : -9223372036854775808 ≤ x ∧ x ≤ 9223372036854775807 := by
  have hmin : IntKind.i64.min = -9223372036854775808 := rfl
  have hmax : IntKind.i64.max = 9223372036854775807 := rfl
  simp only [Lit.wf, Bool.and_eq_true, decide_eq_true_eq, hmin, hmax] at h
  exact h
theorem flat_get {α β : Type} (f : α → List β) {m : Nat} (hm : 0 < m) : ∀ (l : List α), (∀ r ∈ l, (f r).length = m) → ∀ j, (l.flatMap f)[j]? = (l[j / m]?).bind fun r => (f r)[j % m]?
  | [], _, j => by simp
  | r :: l, h, j => by
    have hr : (f r).length = m := h r (by simp)
    rw [List.flatMap_cons, List.getElem?_append, hr]
    by_cases hj : j < m
    · rw [if_pos hj, Nat.div_eq_of_lt hj, Nat.mod_eq_of_lt hj]; rfl
    · rw [if_neg hj, flat_get f hm l (fun r hr => h r (by simp [hr])) (j - m)]
      have e1 : j / m = (j - m) / m + 1 := by rw [← Nat.add_div_right _ hm]; congr 1; omega
      have e2 : j % m = (j - m) % m := by rw [Nat.mod_eq_sub_mod (by omega)]
      rw [e1, e2]; rfl
theorem flat_len {α β : Type} (f : α → List β) {m : Nat} : ∀ (l : List α), (∀ r ∈ l, (f r).length = m) → (l.flatMap f).length = l.length * m
  | [], _ => by simp
  | r :: l, h => by
    rw [List.flatMap_cons, List.length_append, h r (by simp), flat_len f l (fun r hr => h r (by simp [hr])), List.length_cons, Nat.add_mul]
    omega
section
variable {H : Type} {enc : TypeId × Value → H} {P : Program} {W : World} {base b0 : Nat} {spare : Nat → Bool} {held : Bool} {r : Reach}
end
/-- Pairs as cells. -/
def pairCells (l : List (Int × Int)) : List Value := l.flatMap fun p => [.int .i64 p.1, .int .i64 p.2]
theorem pairCells_len (l : List (Int × Int)) : (pairCells l).length = l.length * 2 := flat_len _ l (fun _ _ => rfl)
theorem pairCells_app (l m : List (Int × Int)) : pairCells (l ++ m) = pairCells l ++ pairCells m := by simp [pairCells]
theorem pairCells_at {l : List (Int × Int)} {k : Nat} (h : k < l.length) : (pairCells l)[k * 2]? = some (.int .i64 (l.getD k (0, 0)).1) ∧ (pairCells l)[k * 2 + 1]? = some (.int .i64 (l.getD k (0, 0)).2) := by
  have e1 : k * 2 / 2 = k := by omega
  have e2 : (k * 2 + 1) / 2 = k := by omega
  have e3 : (k * 2) % 2 = 0 := by omega
  have e4 : (k * 2 + 1) % 2 = 1 := by omega
  unfold pairCells
  rw [flat_get _ (by omega : 0 < 2) l (fun _ _ => rfl), flat_get _ (by omega : 0 < 2) l (fun _ _ => rfl), e1, e2, e3, e4, List.getElem?_eq_getElem h]
  simp [List.getD, h]
theorem Sl.pair_at {w : World} {A : Option Addr} {n c : Nat} {l : List (Int × Int)} (h : Sl w (.slice A n c) n 2 (pairCells l)) {k : Nat} (hk : k < n) :
    ∃ b off, A = some ⟨b, off, none⟩ ∧ w.cell? ⟨b, off + k * 2, none⟩ = some (.int .i64 (l.getD k (0, 0)).1) ∧ w.cell? ⟨b, off + k * 2 + 1, none⟩ = some (.int .i64 (l.getD k (0, 0)).2) := by
  have hl := h.len
  rw [pairCells_len] at hl
  obtain ⟨b, off, e, hc⟩ := h.at_ (by omega)
  have hp := pairCells_at (l := l) (k := k) (by omega)
  refine ⟨b, off, e, hc _ _ hp.1, ?_⟩
  have := hc _ _ hp.2
  rwa [← Nat.add_assoc] at this
theorem Sl.bound {w : World} {A : Option Addr} {n c size : Nat} {xs : List Value} (h : Sl w (.slice A n c) n size xs) : n ≤ 9223372036854775807 := by
  obtain ⟨A', c', h1, h2, h3, _⟩ := h
  omega
end Go.Proofs.YtkpjhjoopdbkaaaGreatDoor
namespace Go.Proofs.YtkpjhjoopdbkaaaGreatDoor
open Go.RowKit
theorem ret_b {a b : Bool} (h : a = b) : Ending.returned (.bool a) = .returned (.bool b) := by rw [h]
end Go.Proofs.YtkpjhjoopdbkaaaGreatDoor
namespace Go.Proofs.YtkpjhjoopdbkaaaGreatDoor
open Go.RowKit
theorem drop_tr {L : List Tr} {k : Nat} (h : k < L.length) : L.drop k = L.getD k default :: L.drop (k + 1) := by
  rw [List.drop_eq_getElem_cons h, List.getD, List.getElem?_eq_getElem h]; rfl
end Go.Proofs.YtkpjhjoopdbkaaaGreatDoor
namespace Go.Proofs.YtkpjhjoopdbkaaaGreatDoor
open Go.RowKit
def kidsN (k : Int) : Int := if k = 1 ∨ k = 2 then 0 else if k = 3 ∨ k = 4 then 1 else if k = 5 then 2 else if k = 6 then 3 else -1
/-- Is a part by itself right? -/
def okN (vars k n : Int) (m : Nat) : Bool := decide ((m : Int) = kidsN k) && !(decide (k = 2) && (decide (n < 0) || decide (vars ≤ n))) && !(decide (k = 5) && !knownB n)
mutual
def partsT (vars : Int) : Tr → Bool
  | .mk k n l => okN vars k n l.length && partsL vars l
def partsL (vars : Int) : List Tr → Bool
  | [] => true
  | t :: r => partsT vars t && partsL vars r
end
theorem partsT_eq (vars : Int) (t : Tr) : partsT vars t = (okN vars t.kind t.num t.kids.length && partsL vars t.kids) := by
  obtain ⟨k, n, l⟩ := t
  rw [partsT]; rfl
theorem partsL_cons (vars : Int) (t : Tr) (r : List Tr) : partsL vars (t :: r) = (partsT vars t && partsL vars r) := by rw [partsL]
end Go.Proofs.YtkpjhjoopdbkaaaGreatDoor
