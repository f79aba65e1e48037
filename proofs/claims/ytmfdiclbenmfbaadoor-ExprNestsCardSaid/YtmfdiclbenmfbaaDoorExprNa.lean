/- Law ExprNests: the plain law. -/
import Derived.Test.YtmfdiclbenmfbaaDoorExprEv
namespace Go.Proofs.YtmfdiclbenmfbaaDoor
open Go.RowKit
def notT (t : Tr) : Tr := .mk 4 0 [.mk 4 0 [t]]
def negT (t : Tr) : Tr := .mk 3 0 [.mk 3 0 [t]]
def ifT (t f : Tr) : Tr := .mk 6 0 [t, f, t]
theorem depth_list (l : List Tr) (n : Nat) (h : ∀ t ∈ l, depthT t ≤ n) : depthL l ≤ n := by
  induction l with
  | nil => rw [depthL]; omega
  | cons t r ih =>
    rw [depthL]
    have h1 := h t (by simp)
    have h2 := ih fun u hu => h u (by simp [hu])
    omega
theorem nest_right (vars : Int) (t f : Tr) (hd : depthT t ≤ 35) (hs : sizeT t ≤ 120) (hp : partsT vars t = true) (hd2 : depthT f ≤ 35) (hs2 : sizeT f ≤ 120) (hp2 : partsT vars f = true) :
    rightT vars (notT t) = true ∧ rightT vars (negT t) = true ∧ rightT vars (ifT t f) = true := by
  refine ⟨?_, ?_, ?_⟩ <;> unfold rightT <;> simp only [Bool.and_eq_true, decide_eq_true_eq]
  · refine ⟨?_, ?_, ?_⟩
    · simp only [notT, depthT, depthL]; omega
    · simp only [notT, sizeT, sizeL]; omega
    · simp [notT, partsT, partsL, okN, kidsN, hp]
  · refine ⟨?_, ?_, ?_⟩
    · simp only [negT, depthT, depthL]; omega
    · simp only [negT, sizeT, sizeL]; omega
    · simp [negT, partsT, partsL, okN, kidsN, hp]
  · refine ⟨?_, ?_, ?_⟩
    · simp only [ifT, depthT, depthL]; omega
    · simp only [ifT, sizeT, sizeL]; omega
    · simp [ifT, partsT, partsL, okN, kidsN, hp, hp2]
theorem nest_eval (env : List Int) (t f : Tr) (hd : depthT t ≤ 35) (hs : sizeT t ≤ 120) (hr : rightT env.length t = true) (hd2 : depthT f ≤ 35) (hs2 : sizeT f ≤ 120) (hr2 : rightT env.length f = true) :
    evalV env (notT t) = evT env (notT t) ∧ evalV env (negT t) = evT env (negT t) ∧ evalV env (ifT t f) = evT env (ifT t f) ∧ evalV env t = evT env t ∧ evalV env f = evT env f := by
  obtain ⟨h1, h2, h3⟩ := nest_right env.length t f hd hs (right_parts hr) hd2 hs2 (right_parts hr2)
  unfold evalV
  rw [if_pos h1, if_pos h2, if_pos h3, if_pos hr, if_pos hr2]
  exact ⟨rfl, rfl, rfl, rfl, rfl⟩
/-- What ExprNests asks: n, bad: t's; m, worse: f's. -/
theorem nest_bad (env : List Int) (t f : Tr) {n bad m worse : Int} (h : evT env t = (n, bad)) (h2 : evT env f = (m, worse)) (hb : bad ≠ 0) :
    evT env (notT t) = (0, bad) ∧ evT env (negT t) = (0, bad) ∧ evT env (ifT t f) = (0, bad) := by
  refine ⟨?_, ?_, ?_⟩
  · simp [notT, evT_mk, evL_cons, evL_nil, evN, h, hb]
  · simp [negT, evT_mk, evL_cons, evL_nil, evN, h, hb]
  · simp [ifT, evT_mk, evL_cons, evL_nil, evN, h, h2, hb]
theorem nest_not (env : List Int) (t : Tr) {n : Int} (h : evT env t = (n, 0)) : evT env (notT t) = (if n = 0 then 0 else 1, 0) := by
  by_cases h0 : n = 0 <;> simp [notT, evT_mk, evL_cons, evL_nil, evN, h, h0, yesI]
theorem nest_if (env : List Int) (t f : Tr) {n m worse : Int} (h : evT env t = (n, 0)) (h2 : evT env f = (m, worse)) : evT env (ifT t f) = if n = 0 then (0, 0) else (m, worse) := by
  by_cases h0 : n = 0 <;> simp [ifT, evT_mk, evL_cons, evL_nil, evN, h, h2, h0]
theorem nest_neg (env : List Int) (t : Tr) {n : Int} (hn : I64 n) (h : evT env t = (n, 0)) : (n = -9223372036854775808 ∧ (evT env (negT t)).2 = 6) ∨ evT env (negT t) = (n, 0) := by
  by_cases h0 : n = -9223372036854775808
  · left
    refine ⟨h0, ?_⟩
    subst h0
    have hi : ¬ I64 (9223372036854775808 : Int) := by decide
    simp [negT, evT_mk, evL_cons, evL_nil, evN, h, doE, doV, chkE, chkV, hi]
  · right
    have hi : I64 (-n) := by
      unfold I64 at hn ⊢
      omega
    simp [negT, evT_mk, evL_cons, evL_nil, evN, h, doE, doV, chkE, chkV, hi, hn]
end Go.Proofs.YtmfdiclbenmfbaaDoor
