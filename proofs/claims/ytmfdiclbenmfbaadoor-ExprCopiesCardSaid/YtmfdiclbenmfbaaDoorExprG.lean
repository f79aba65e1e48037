/- eval: the plain word, and the program's methods. -/
import Derived.Test.YtmfdiclbenmfbaaDoorExprF
namespace Go.Proofs.YtmfdiclbenmfbaaDoor
open Go.RowKit
/-- What a part tells of what its kids tell. -/
def evN (env : List Int) (k n : Int) (vs : List (Int × Int)) : Int × Int :=
  if k = 1 then (n, 0) else if k = 2 then (env.getD n.toNat 0, 0) else
  if (vs.getD 0 (0, 0)).2 ≠ 0 then (0, (vs.getD 0 (0, 0)).2) else
  if k = 3 then (doV 2 0 (vs.getD 0 (0, 0)).1, doE 2 0 (vs.getD 0 (0, 0)).1) else
  if k = 4 then (yesI (decide ((vs.getD 0 (0, 0)).1 = 0)), 0) else
  if k = 6 then (if (vs.getD 0 (0, 0)).1 ≠ 0 then vs.getD 1 (0, 0) else vs.getD 2 (0, 0)) else
  if n = 10 ∧ (vs.getD 0 (0, 0)).1 = 0 then (0, 0) else if n = 11 ∧ (vs.getD 0 (0, 0)).1 ≠ 0 then (1, 0) else
  if (vs.getD 1 (0, 0)).2 ≠ 0 then (0, (vs.getD 1 (0, 0)).2) else (doV n (vs.getD 0 (0, 0)).1 (vs.getD 1 (0, 0)).1, doE n (vs.getD 0 (0, 0)).1 (vs.getD 1 (0, 0)).1)
mutual
def evT (env : List Int) : Tr → Int × Int
  | .mk k n l => evN env k n (evL env l)
def evL (env : List Int) : List Tr → List (Int × Int)
  | [] => []
  | t :: r => evT env t :: evL env r
end
theorem evT_eq (env : List Int) (t : Tr) : evT env t = evN env t.kind t.num (evL env t.kids) := by
  obtain ⟨k, n, l⟩ := t
  rw [evT]; rfl
theorem evL_get (env : List Int) : ∀ (l : List Tr) (j : Nat), j < l.length → (evL env l).getD j (0, 0) = evT env (l.getD j default)
  | [], j, h => by simp at h
  | t :: r, 0, _ => by rw [evL]; rfl
  | t :: r, j + 1, h => by
    rw [evL]
    exact evL_get env r j (by simpa using h)
theorem partsL_get (vars : Int) : ∀ (l : List Tr) (j : Nat), j < l.length → partsL vars l = true → partsT vars (l.getD j default) = true
  | [], j, h, _ => by simp at h
  | t :: r, 0, _, h => by rw [partsL, Bool.and_eq_true] at h; exact h.1
  | t :: r, j + 1, hj, h => by
    rw [partsL, Bool.and_eq_true] at h
    exact partsL_get vars r j (by simpa using hj) h.2
theorem parts_kid {vars : Int} {t : Tr} (h : partsT vars t = true) {j : Nat} (hj : j < t.kids.length) : partsT vars (t.kids.getD j default) = true := by
  rw [partsT_eq, Bool.and_eq_true] at h
  exact partsL_get vars t.kids j hj h.2
theorem parts_ok {vars : Int} {t : Tr} (h : partsT vars t = true) : okN vars t.kind t.num t.kids.length = true := by
  rw [partsT_eq, Bool.and_eq_true] at h
  exact h.1
theorem ok_len {vars k n : Int} {m : Nat} (h : okN vars k n m = true) : (m : Int) = kidsN k := by
  unfold okN at h
  simp only [Bool.and_eq_true, decide_eq_true_eq] at h
  exact h.1.1
theorem kidsN_of {k : Int} (h : 0 ≤ kidsN k) : (k = 1 ∧ kidsN k = 0) ∨ (k = 2 ∧ kidsN k = 0) ∨ (k = 3 ∧ kidsN k = 1) ∨ (k = 4 ∧ kidsN k = 1) ∨ (k = 5 ∧ kidsN k = 2) ∨ (k = 6 ∧ kidsN k = 3) := by
  by_cases h1 : k = 1
  · subst h1; simp [kidsN]
  by_cases h2 : k = 2
  · subst h2; simp [kidsN]
  by_cases h3 : k = 3
  · subst h3; simp [kidsN]
  by_cases h4 : k = 4
  · subst h4; simp [kidsN]
  by_cases h5 : k = 5
  · subst h5; simp [kidsN]
  by_cases h6 : k = 6
  · subst h6; simp [kidsN]
  simp [kidsN, h1, h2, h3, h4, h5, h6] at h
theorem ok_var {vars n : Int} {m : Nat} (h : okN vars 2 n m = true) : 0 ≤ n ∧ n < vars := by
  rw [okN_eq] at h
  simp at h
  omega
theorem getD_in {env : List Int} (he : ∀ x ∈ env, I64 x) (j : Nat) : I64 (env.getD j 0) := by
  rw [List.getD]
  cases h : env[j]? with
  | none => exact ⟨by decide, by decide⟩
  | some x => exact he x (List.mem_of_getElem? h)
theorem doE_cases (op a b : Int) : I64 (doE op a b) := by
  unfold doE quoE chkE
  repeat' split
  all_goals exact ⟨by decide, by decide⟩
theorem ev_in (vars : Int) {env : List Int} (he : ∀ x ∈ env, I64 x) {w : World} : ∀ (N : Nat) (t : Tr), t.sz ≤ N → ∀ {A : Option Addr} {m c : Nat}, TrAt w A m c t → partsT vars t = true → I64 (evT env t).1
  | 0, t, hN, _, _, _, _, _ => by have := t.sz_pos; omega
  | N + 1, t, hN, A, m, c, h, hp => by
    have IH : ∀ j, j < m → I64 ((evL env t.kids).getD j (0, 0)).1 := fun j hj => by
      have hl := h.len.1
      rw [evL_get env t.kids j (by omega)]
      obtain ⟨b, off, e, A', m', c', hK⟩ := h.kid hj
      have hkd := Tr.kid_lt (t := t) (j := j) (by omega)
      exact ev_in vars he N _ (by omega) hK.tr (parts_kid hp (by omega))
    have i0 : I64 0 := by decide
    have hlen := ok_len (parts_ok hp)
    rw [h.len.1] at hlen
    rw [evT_eq]
    unfold evN
    rcases kidsN_of (k := t.kind) (by omega) with h | h | h | h | h | h
    all_goals obtain ⟨hk, hn⟩ := h
    all_goals rw [hn] at hlen
    all_goals rw [hk]
    all_goals simp only [if_true, if_false, (by decide : ¬ (2 : Int) = 1), (by decide : ¬ (3 : Int) = 1), (by decide : ¬ (3 : Int) = 2), (by decide : ¬ (4 : Int) = 1), (by decide : ¬ (4 : Int) = 2), (by decide : ¬ (4 : Int) = 3), (by decide : ¬ (5 : Int) = 1), (by decide : ¬ (5 : Int) = 2), (by decide : ¬ (5 : Int) = 3), (by decide : ¬ (5 : Int) = 4), (by decide : ¬ (5 : Int) = 6), (by decide : ¬ (6 : Int) = 1), (by decide : ¬ (6 : Int) = 2), (by decide : ¬ (6 : Int) = 3), (by decide : ¬ (6 : Int) = 4)]
    · exact h.nums.2
    · exact getD_in he _
    · split
      · exact i0
      · show I64 (doV 2 0 _)
        exact doV_in _ _ _ i0
    · split
      · exact i0
      · show I64 (yesI _)
        exact yesI_in _
    · repeat' split
      · exact i0
      · exact i0
      · decide
      · exact i0
      · show I64 (doV _ _ _)
        exact doV_in _ _ _ (IH 0 (by omega))
    · repeat' split
      · exact i0
      · exact IH 1 (by omega)
      · exact IH 2 (by omega)
/-- The variables. -/
structure EnvAt (w : World) (EA : Option Addr) (en ec : Nat) (env : List Int) : Prop where
  sl : Sl w (.slice EA en ec) en 1 (intCells env)
  ok : ∀ x ∈ env, I64 x
theorem EnvAt.kept {w w' : World} {EA : Option Addr} {en ec : Nat} {env : List Int} (h : EnvAt w EA en ec env) (hb : Below w.heap.size w w') : EnvAt w' EA en ec env := ⟨h.sl.below hb, h.ok⟩
theorem EnvAt.len {w : World} {EA : Option Addr} {en ec : Nat} {env : List Int} (h : EnvAt w EA en ec env) : env.length = en := by
  have := h.sl.len
  rw [intCells_len] at this
  omega
def EvP (w : World) (r : Int × Int) (e : Ending) (w' : World) : Prop := e = .returned (.tuple #[.int .i64 r.1, .int .i64 r.2]) ∧ Below w.heap.size w w'
theorem EvP.mk {w w' : World} {r : Int × Int} {a b : Int} (h : r = (a, b)) (hb : Below w.heap.size w w') : EvP w r (.returned (.tuple #[.int .i64 a, .int .i64 b])) w' := by
  subst h; exact ⟨rfl, hb⟩
/-- What a method of the variables is to tell of expressions of so many parts. -/
def EvAt (f : Nat) (env : List Int) (N : Nat) : Prop := ∀ (t : Tr), t.sz ≤ N → ∀ (A : Option Addr) (m c : Nat) (w : World) (EA : Option Addr) (en ec : Nat), Hid (TrAt w A m c t) → Hid (EnvAt w EA en ec env) → Hid (partsT en t = true) → Calls Tryd.prog f #[.slice EA en ec, t.val A m c] w (EvP w (evT env t))
end Go.Proofs.YtmfdiclbenmfbaaDoor
