/- Plain words for bags: rows of pairs, counts as functions. No program. -/
import Derived.WalkKit
import Derived.Test.YtaeeblceedklnaaGreatDoorCalcP
namespace Go.Proofs.YtaeeblceedklnaaGreatDoor
abbrev Row := List (Int × Int)
/-- Is a row a bag, from a last member on? -/
def riseB : Int → Row → Bool
  | _, [] => true
  | last, p :: r => if p.1 ≤ last ∨ p.2 < 1 ∨ 1048576 < p.2 then false else riseB p.1 r
def rightB (l : Row) : Bool := riseB (-1) l
def Srt (M : Row) : Prop := M.Pairwise (fun p q => p.1 < q.1)
def Ok (M : Row) : Prop := Srt M ∧ ∀ p ∈ M, 0 ≤ p.1 ∧ 1 ≤ p.2 ∧ p.2 ≤ 1048576
theorem riseB_iff : ∀ (l : Row) (a : Int), riseB a l = true ↔ (Srt l ∧ ∀ p ∈ l, a < p.1 ∧ 1 ≤ p.2 ∧ p.2 ≤ 1048576)
  | [], a => by simp [riseB, Srt]
  | p :: r, a => by
    unfold riseB
    split
    · rename_i h
      simp only [Bool.false_eq_true, false_iff]
      intro ⟨_, h2⟩
      have := h2 p (by simp)
      omega
    · rename_i h
      rw [riseB_iff r p.1]
      unfold Srt
      rw [List.pairwise_cons]
      constructor
      · rintro ⟨h1, h2⟩
        refine ⟨⟨fun q hq => (h2 q hq).1, h1⟩, fun q hq => ?_⟩
        rcases List.mem_cons.1 hq with rfl | hq
        · omega
        · have := h2 q hq
          omega
      · rintro ⟨⟨h1, h2⟩, h3⟩
        exact ⟨h2, fun q hq => ⟨h1 q hq, (h3 q (by simp [hq])).2⟩⟩
theorem rightB_iff (l : Row) : rightB l = true ↔ Ok l := by
  unfold rightB Ok
  rw [riseB_iff]
  constructor
  · rintro ⟨h1, h2⟩; exact ⟨h1, fun p hp => by have := h2 p hp; omega⟩
  · rintro ⟨h1, h2⟩; exact ⟨h1, fun p hp => by have := h2 p hp; omega⟩
/-- How often a member stands in a row. -/
def getM : Row → Int → Int
  | [], _ => 0
  | p :: r, k => if p.1 = k then p.2 else getM r k
theorem getM_not {M : Row} {k : Int} (h : ∀ p ∈ M, p.1 ≠ k) : getM M k = 0 := by
  induction M with
  | nil => rfl
  | cons p r ih => unfold getM; rw [if_neg (h p (by simp)), ih fun q hq => h q (by simp [hq])]
theorem getM_mem {M : Row} (h : Srt M) {p : Int × Int} (hp : p ∈ M) : getM M p.1 = p.2 := by
  induction M with
  | nil => cases hp
  | cons q r ih =>
    obtain ⟨h1, h2⟩ := List.pairwise_cons.1 h
    unfold getM
    rcases List.mem_cons.1 hp with rfl | hp
    · rw [if_pos rfl]
    · rw [if_neg (by have := h1 p hp; omega), ih h2 hp]
theorem mem_getM {M : Row} {k : Int} (h : getM M k ≠ 0) : (k, getM M k) ∈ M := by
  induction M with
  | nil => exact absurd rfl h
  | cons q r ih =>
    unfold getM at h ⊢
    split at h
    · rename_i e
      rw [if_pos e, ← e]; exact List.mem_cons_self
    · rename_i e
      rw [if_neg e]; exact List.mem_cons_of_mem _ (ih h)
theorem getM_app {M : Row} {p : Int × Int} {k : Int} (h : ∀ q ∈ M, q.1 ≠ p.1) : getM (M ++ [p]) k = if k = p.1 then p.2 else getM M k := by
  induction M with
  | nil => simp [getM, eq_comm]
  | cons q r ih =>
    rw [List.cons_append]
    unfold getM
    rw [ih fun x hx => h x (by simp [hx])]
    by_cases e : q.1 = k
    · rw [if_pos e, if_pos e, if_neg (by rw [← e]; exact h q (by simp))]
    · rw [if_neg e, if_neg e]
/-- The row of counts. -/
def RowG (M : Row) (g : Int → Int) : Prop := Srt M ∧ (∀ p ∈ M, 0 < p.2 ∧ p.2 = g p.1) ∧ ∀ k, 0 < g k → (k, g k) ∈ M
theorem srt_ext : ∀ {a b : Row}, Srt a → Srt b → (∀ p, p ∈ a ↔ p ∈ b) → a = b
  | [], [], _, _, _ => rfl
  | [], b :: s, _, _, h => by have := (h b).2 (by simp); simp at this
  | a :: r, [], _, _, h => by have := (h a).1 (by simp); simp at this
  | a :: r, b :: s, h1, h2, h => by
    obtain ⟨a1, a2⟩ := List.pairwise_cons.1 h1
    obtain ⟨b1, b2⟩ := List.pairwise_cons.1 h2
    have hab : a = b := by
      rcases List.mem_cons.1 ((h a).1 (by simp)) with e | ha
      · exact e
      · rcases List.mem_cons.1 ((h b).2 (by simp)) with e | hb
        · exact e.symm
        · have := a1 b hb; have := b1 a ha; omega
    subst hab
    rw [srt_ext a2 b2 fun p => ⟨fun hp => by
      rcases List.mem_cons.1 ((h p).1 (by simp [hp])) with e | hp'
      · have := a1 p hp; rw [e] at this; omega
      · exact hp', fun hp => by
      rcases List.mem_cons.1 ((h p).2 (by simp [hp])) with e | hp'
      · have := b1 p hp; rw [e] at this; omega
      · exact hp'⟩]
theorem RowG.uniq {M N : Row} {g : Int → Int} (h : RowG M g) (h2 : RowG N g) : M = N := by
  refine srt_ext h.1 h2.1 fun p => ⟨fun hp => ?_, fun hp => ?_⟩
  · obtain ⟨a, b⟩ := h.2.1 p hp
    have := h2.2.2 p.1 (by omega)
    rwa [← b] at this
  · obtain ⟨a, b⟩ := h2.2.1 p hp
    have := h.2.2 p.1 (by omega)
    rwa [← b] at this
theorem Ok.row {M : Row} (h : Ok M) : RowG M (getM M) :=
  ⟨h.1, fun p hp => ⟨by have := h.2 p hp; omega, (getM_mem h.1 hp).symm⟩, fun k hk => mem_getM (by omega)⟩
/-- What a row of counts counts. -/
theorem RowG.get {M : Row} {g : Int → Int} (h : RowG M g) (hg : ∀ k, 0 ≤ g k) (k : Int) : getM M k = g k := by
  rcases Int.lt_or_eq_of_le (hg k) with h1 | h1
  · exact getM_mem h.1 (h.2.2 k h1)
  · rw [← h1]
    by_cases h2 : getM M k = 0
    · exact h2
    · have h3 := h.2.1 _ (mem_getM h2)
      simp only at h3
      omega
theorem RowG.ok {M : Row} {g : Int → Int} (h : RowG M g) (hk : ∀ k, 0 < g k → 0 ≤ k) (hg : ∀ k, g k ≤ 1048576) : Ok M :=
  ⟨h.1, fun p hp => by
    obtain ⟨a, b⟩ := h.2.1 p hp
    have := hk p.1 (by omega)
    have := hg p.1
    omega⟩
theorem Ok.nonneg {M : Row} (h : Ok M) (k : Int) : 0 ≤ getM M k ∧ getM M k ≤ 1048576 := by
  by_cases h2 : getM M k = 0
  · omega
  · have := h.2 _ (mem_getM h2)
    simp only at this
    omega
theorem Ok.key {M : Row} (h : Ok M) {k : Int} (hk : getM M k ≠ 0) : 0 ≤ k := by
  have := h.2 _ (mem_getM hk)
  simp only at this
  omega
theorem Ok.eq_of {a b : Row} (ha : Ok a) (hb : Ok b) (h : ∀ k, getM a k = getM b k) : a = b :=
  RowG.uniq ha.row (by rw [funext h]; exact hb.row)
theorem Srt.take {M : Row} (h : Srt M) (k : Nat) : Srt (M.take k) := h.sublist (List.take_sublist _ _)
theorem Srt.new {M : Row} (h : Srt M) {k : Nat} (hk : k < M.length) : ∀ p ∈ M.take k, p.1 < (M.getD k (0, 0)).1 := by
  intro p hp
  obtain ⟨i, hi, rfl⟩ := List.getElem_of_mem hp
  rw [List.length_take] at hi
  rw [List.getElem_take, List.getD, List.getElem?_eq_getElem hk]
  exact List.pairwise_iff_getElem.1 h i k (by omega) hk (by omega)
theorem take_snoc {M : Row} {k : Nat} (h : k < M.length) : M.take (k + 1) = M.take k ++ [M.getD k (0, 0)] := by
  rw [List.take_succ_eq_append_getElem h, List.getD, List.getElem?_eq_getElem h]; rfl
/-- The sum of a row's counts. -/
def totM : Row → Int
  | [] => 0
  | p :: r => p.2 + totM r
/-- Is there no more of any member than the other counts? -/
def inM (M : Row) (g : Int → Int) : Bool := M.all fun p => decide (p.2 ≤ g p.1)
theorem inM_iff {M : Row} {g : Int → Int} : inM M g = true ↔ ∀ p ∈ M, p.2 ≤ g p.1 := by
  unfold inM; simp [List.all_eq_true]
end Go.Proofs.YtaeeblceedklnaaGreatDoor
