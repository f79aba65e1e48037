/- Plain: Put, Same, and the laws of what is told. -/
import Derived.Test.YtmfdiclbenmfbaaDoorExprG
namespace Go.Proofs.YtmfdiclbenmfbaaDoor
open Go.RowKit
mutual
def putT (k : Int) (b : Tr) : Tr → Tr
  | .mk kd n l => if kd = 2 ∧ n = k then b else .mk kd n (putL k b l)
def putL (k : Int) (b : Tr) : List Tr → List Tr
  | [] => []
  | t :: r => putT k b t :: putL k b r
end
theorem putL_len (k : Int) (b : Tr) : ∀ l : List Tr, (putL k b l).length = l.length
  | [] => by rw [putL]
  | t :: r => by rw [putL, List.length_cons, List.length_cons, putL_len k b r]
theorem putL_get (k : Int) (b : Tr) : ∀ (l : List Tr) (j : Nat), j < l.length → (putL k b l).getD j default = putT k b (l.getD j default)
  | [], j, h => by simp at h
  | t :: r, 0, _ => by rw [putL]; rfl
  | t :: r, j + 1, h => by
    rw [putL]
    exact putL_get k b r j (by simpa using h)
theorem putT_var {k : Int} {b t : Tr} (h : t.kind = 2 ∧ t.num = k) : putT k b t = b := by
  obtain ⟨kd, n, l⟩ := t
  rw [putT]
  exact if_pos h
theorem putT_no {k : Int} {b t : Tr} (h : ¬ (t.kind = 2 ∧ t.num = k)) : putT k b t = .mk t.kind t.num (putL k b t.kids) := by
  obtain ⟨kd, n, l⟩ := t
  rw [putT]
  exact if_neg h
mutual
def sameT : Tr → Tr → Bool
  | .mk k n l, b => decide (k = b.kind) && (decide (n = b.num) && sameL l b.kids)
def sameL : List Tr → List Tr → Bool
  | [], m => m.isEmpty
  | t :: r, m => match m with
    | [] => false
    | u :: s => sameT t u && sameL r s
end
theorem sameT_eq (a b : Tr) : sameT a b = (decide (a.kind = b.kind) && (decide (a.num = b.num) && sameL a.kids b.kids)) := by
  obtain ⟨k, n, l⟩ := a
  rw [sameT]; rfl
theorem sameL_len : ∀ (l m : List Tr), l.length ≠ m.length → sameL l m = false
  | [], [], h => by simp at h
  | [], u :: s, _ => by rw [sameL]; rfl
  | t :: r, [], _ => by rw [sameL]
  | t :: r, u :: s, h => by
    rw [sameL]
    rw [sameL_len r s (by simpa using h), Bool.and_false]
theorem sameL_nil : sameL [] [] = true := by rw [sameL]; rfl
theorem sameL_cons (t u : Tr) (r s : List Tr) : sameL (t :: r) (u :: s) = (sameT t u && sameL r s) := by rw [sameL]
mutual
theorem sameT_self : ∀ t : Tr, sameT t t = true
  | .mk k n l => by
    rw [sameT_eq, show (Tr.mk k n l).kids = l from rfl, sameL_self l]
    simp
theorem sameL_self : ∀ l : List Tr, sameL l l = true
  | [] => sameL_nil
  | t :: r => by rw [sameL_cons, sameT_self t, sameL_self r]; rfl
end
mutual
def hasT (k : Int) : Tr → Bool
  | .mk kd n l => (decide (kd = 2) && decide (n = k)) || hasL k l
def hasL (k : Int) : List Tr → Bool
  | [] => false
  | t :: r => hasT k t || hasL k r
end
theorem evN_env {e1 e2 : List Int} {k n : Int} {vs : List (Int × Int)} (h : k = 2 → e1.getD n.toNat 0 = e2.getD n.toNat 0) : evN e1 k n vs = evN e2 k n vs := by
  unfold evN
  by_cases hk : k = 2
  · subst hk; simp only [if_true, (by decide : ¬ (2 : Int) = 1), if_false]; rw [h rfl]
  · simp only [hk, if_false]
theorem evT_mk (env : List Int) (k n : Int) (l : List Tr) : evT env (.mk k n l) = evN env k n (evL env l) := by rw [evT]
theorem evL_cons (env : List Int) (t : Tr) (r : List Tr) : evL env (t :: r) = evT env t :: evL env r := by rw [evL]
theorem evL_nil (env : List Int) : evL env [] = [] := by rw [evL]
theorem set_getD_ne {env : List Int} {k : Nat} {v : Int} {j : Nat} (h : j ≠ k) : (env.set k v).getD j 0 = env.getD j 0 := by
  rw [List.getD, List.getD, List.getElem?_set_ne (by omega)]
theorem set_getD_eq {env : List Int} {k : Nat} {v : Int} (h : k < env.length) : (env.set k v).getD k 0 = v := by
  rw [List.getD, List.getElem?_set_self h]; rfl
mutual
theorem ev_put (env : List Int) (k : Nat) (v : Int) (b : Tr) (hb : evT env b = (v, 0)) (hk : k < env.length) : ∀ (t : Tr), partsT env.length t = true → evT env (putT k b t) = evT (env.set k v) t
  | .mk kd n l, hp => by
    have hp2 := hp
    rw [partsT, Bool.and_eq_true] at hp2
    have ih := evL_put env k v b hb hk l hp2.2
    by_cases h : kd = 2 ∧ n = (k : Int)
    · rw [putT_var (t := .mk kd n l) h, hb, evT_mk, h.1, h.2]
      unfold evN
      simp only [if_true, (by decide : ¬ (2 : Int) = 1), if_false, Int.toNat_natCast]
      rw [set_getD_eq hk]
    · rw [putT_no (t := .mk kd n l) h]
      show evT env (.mk kd n (putL k b l)) = _
      rw [evT_mk, evT_mk, ih]
      refine evN_env fun h2 => ?_
      subst h2
      have hn := ok_var hp2.1
      rw [set_getD_ne]
      intro hc
      exact h ⟨rfl, by omega⟩
theorem evL_put (env : List Int) (k : Nat) (v : Int) (b : Tr) (hb : evT env b = (v, 0)) (hk : k < env.length) : ∀ (l : List Tr), partsL env.length l = true → evL env (putL k b l) = evL (env.set k v) l
  | [], _ => by rw [putL, evL_nil, evL_nil]
  | t :: r, hp => by
    rw [partsL_cons, Bool.and_eq_true] at hp
    rw [putL, evL_cons, evL_cons, ev_put env k v b hb hk t hp.1, evL_put env k v b hb hk r hp.2]
end
mutual
theorem ev_free (env : List Int) (k : Nat) (v : Int) : ∀ (t : Tr), partsT env.length t = true → hasT k t = false → evT env t = evT (env.set k v) t
  | .mk kd n l, hp, hh => by
    rw [partsT, Bool.and_eq_true] at hp
    rw [hasT, Bool.or_eq_false_iff] at hh
    rw [evT_mk, evT_mk, evL_free env k v l hp.2 hh.2]
    refine evN_env fun h2 => ?_
    subst h2
    have hn := ok_var hp.1
    have hne : n ≠ (k : Int) := by have := hh.1; simpa using this
    rw [set_getD_ne]
    omega
theorem evL_free (env : List Int) (k : Nat) (v : Int) : ∀ (l : List Tr), partsL env.length l = true → hasL k l = false → evL env l = evL (env.set k v) l
  | [], _, _ => by rw [evL_nil, evL_nil]
  | t :: r, hp, hh => by
    rw [partsL_cons, Bool.and_eq_true] at hp
    rw [hasL, Bool.or_eq_false_iff] at hh
    rw [evL_cons, evL_cons, ev_free env k v t hp.1 hh.1, evL_free env k v r hp.2 hh.2]
end
theorem okN_more {vars k n : Int} {m : Nat} (h : okN vars k n m = true) : okN (vars + 1) k n m = true := by
  unfold okN at h ⊢
  simp only [Bool.and_eq_true, decide_eq_true_eq, Bool.not_eq_true', Bool.and_eq_false_iff, Bool.or_eq_false_iff, decide_eq_false_iff_not] at h ⊢
  refine ⟨⟨h.1.1, ?_⟩, h.2⟩
  rcases h.1.2 with h | h
  · exact .inl h
  · exact .inr ⟨h.1, by omega⟩
mutual
theorem parts_more (vars : Int) : ∀ (t : Tr), partsT vars t = true → partsT (vars + 1) t = true
  | .mk kd n l, hp => by
    rw [partsT, Bool.and_eq_true] at hp ⊢
    exact ⟨okN_more hp.1, partsL_more vars l hp.2⟩
theorem partsL_more (vars : Int) : ∀ (l : List Tr), partsL vars l = true → partsL (vars + 1) l = true
  | [], _ => by rw [partsL]
  | t :: r, hp => by
    rw [partsL_cons, Bool.and_eq_true] at hp ⊢
    exact ⟨parts_more vars t hp.1, partsL_more vars r hp.2⟩
end
mutual
theorem ev_more (env : List Int) (v : Int) : ∀ (t : Tr), partsT env.length t = true → evT (env ++ [v]) t = evT env t
  | .mk kd n l, hp => by
    rw [partsT, Bool.and_eq_true] at hp
    rw [evT_mk, evT_mk, evL_more env v l hp.2]
    refine evN_env fun h2 => ?_
    subst h2
    have hn := ok_var hp.1
    rw [List.getD, List.getD, List.getElem?_append_left (by omega)]
theorem evL_more (env : List Int) (v : Int) : ∀ (l : List Tr), partsL env.length l = true → evL (env ++ [v]) l = evL env l
  | [], _ => by rw [evL_nil, evL_nil]
  | t :: r, hp => by
    rw [partsL_cons, Bool.and_eq_true] at hp
    rw [evL_cons, evL_cons, ev_more env v t hp.1, evL_more env v r hp.2]
end
end Go.Proofs.YtmfdiclbenmfbaaDoor
