/- Plain law of package token: what is left of a text, cut into tokens. -/
import Derived.Test.YtcbmaclhocdejaaDoorTokI
namespace Go.Proofs.YtcbmaclhocdejaaDoor
/-- The kind, the length, the error of the token that a text begins with. -/
def nxK (r : List UInt8) : Int := if isLetter (r.getD 0 0) then (if 32 < (r.takeWhile isNamed).length then 0 else 1) else if isDigit (r.getD 0 0) then 2 else 3
def nxN (r : List UInt8) : Nat := if isLetter (r.getD 0 0) then (r.takeWhile isNamed).length else if isDigit (r.getD 0 0) then (r.takeWhile isDigit).length else if anyTwo r then 2 else 1
def numE (r : List UInt8) : Int :=
  if 0 < ((r.dropWhile isDigit).takeWhile isNamed).length then 4 else if 1 < (r.takeWhile isDigit).length ∧ r[0]? = some 48 then 4 else if numOk (r.takeWhile isDigit) then 0 else 6
def sgE (r : List UInt8) : Int := if anyTwo r then 0 else if oneSigns.contains (r.getD 0 0) then 0 else 4
def nxE (r : List UInt8) : Int := if isLetter (r.getD 0 0) then (if 32 < (r.takeWhile isNamed).length then 2 else 0) else if isDigit (r.getD 0 0) then numE r else sgE r
theorem drop_getD (l : List UInt8) (k : Nat) : (l.drop k).getD 0 0 = l.getD k 0 := by simp [List.getD]
theorem runL_drop (p : UInt8 → Bool) (l : List UInt8) (k : Nat) : runL p l k - k = ((l.drop k).takeWhile p).length := by unfold runL; omega
theorem takeWhile_take (p : UInt8 → Bool) (r : List UInt8) : r.take (r.takeWhile p).length = r.takeWhile p := by
  induction r with
  | nil => rfl
  | cons c r ih =>
    by_cases h : p c = true
    · rw [List.takeWhile_cons_of_pos h]; simp [ih]
    · rw [List.takeWhile_cons_of_neg h]; simp
theorem nextK_drop (l : List UInt8) (k : Nat) : nextK l k = nxK (l.drop k) := by unfold nextK nxK; rw [drop_getD, runL_drop]
theorem numberE_drop (l : List UInt8) (k : Nat) : numberE l k = numE (l.drop k) := by
  unfold numberE numE
  have e1 : runL isNamed l (runL isDigit l k) = runL isDigit l k + (((l.drop k).dropWhile isDigit).takeWhile isNamed).length := by
    rw [← drop_runL]; rfl
  have e2 : runL isDigit l k = k + ((l.drop k).takeWhile isDigit).length := rfl
  rw [e1, e2]
  simp only [Nat.add_sub_cancel_left, takeWhile_take, List.getElem?_drop, Nat.add_zero, Nat.add_lt_add_iff_left, Nat.lt_add_right_iff_pos]
theorem nextE_drop (l : List UInt8) (k : Nat) : nextE l k = nxE (l.drop k) := by unfold nextE nxE signE sgE; rw [drop_getD, runL_drop, numberE_drop]
theorem nextEnd_drop {l : List UInt8} {k : Nat} (he : nextE l k = 0) : nextEnd l k = k + nxN (l.drop k) := by
  unfold nextEnd nextV nxN
  unfold nextE at he
  rw [drop_getD]
  by_cases h1 : isLetter (l.getD k 0) = true
  · rw [if_pos h1] at he ⊢
    rw [if_pos h1]
    by_cases h2 : 32 < runL isNamed l k - k
    · rw [if_pos h2] at he; cases he
    · rw [if_neg h2]; simp [runL]; omega
  · rw [if_neg h1] at he ⊢
    rw [if_neg h1]
    by_cases h2 : isDigit (l.getD k 0) = true
    · rw [if_pos h2] at he ⊢
      rw [if_pos h2]
      unfold numberV
      rw [if_pos he]; simp [runL]; omega
    · rw [if_neg h2] at he ⊢
      rw [if_neg h2]
      unfold signV
      unfold signE at he
      by_cases h3 : anyTwo (l.drop k) = true
      · rw [if_pos h3, if_pos h3]; omega
      · rw [if_neg h3] at he ⊢
        rw [if_neg h3]
        by_cases h4 : oneSigns.contains (l.getD k 0) = true
        · rw [if_pos h4]; omega
        · rw [if_neg h4] at he; cases he
/-- The tokens of a rest that begins at place k, the place, the error. -/
def lexO : Nat → Nat → List UInt8 → List Tok × Nat × Int
  | 0, k, _ => ([], k, 0)
  | f + 1, k, r =>
    if skipC false r = [] then ([], k + r.length, 0)
    else if nxE (skipC false r) = 0 then
      (if (lexO f (k + (r.length - (skipC false r).length) + nxN (skipC false r)) ((skipC false r).drop (nxN (skipC false r)))).2.2 = 0 then
        (⟨nxK (skipC false r), ⟨((skipC false r).take (nxN (skipC false r))).toArray⟩, k + (r.length - (skipC false r).length)⟩ :: (lexO f (k + (r.length - (skipC false r).length) + nxN (skipC false r)) ((skipC false r).drop (nxN (skipC false r)))).1, (lexO f (k + (r.length - (skipC false r).length) + nxN (skipC false r)) ((skipC false r).drop (nxN (skipC false r)))).2.1, 0)
       else ([], (lexO f (k + (r.length - (skipC false r).length) + nxN (skipC false r)) ((skipC false r).drop (nxN (skipC false r)))).2.1, (lexO f (k + (r.length - (skipC false r).length) + nxN (skipC false r)) ((skipC false r).drop (nxN (skipC false r)))).2.2))
    else ([], k + (r.length - (skipC false r).length), nxE (skipC false r))
theorem skipC_drop (l : List UInt8) : ∀ b : Bool, skipC b l = l.drop (l.length - (skipC b l).length) := by
  induction l with
  | nil => intro b; cases b <;> rfl
  | cons c r ih =>
    intro b
    have h1 := ih true
    have h2 := ih false
    have l1 := skipC_len true r
    have l2 := skipC_len false r
    cases b
    · simp only [skipC]
      split
      · rw [List.length_cons, show r.length + 1 - (skipC false r).length = (r.length - (skipC false r).length) + 1 by omega, List.drop_succ_cons]; exact h2
      · split
        · rw [List.length_cons, show r.length + 1 - (skipC true r).length = (r.length - (skipC true r).length) + 1 by omega, List.drop_succ_cons]; exact h1
        · simp
    · simp only [skipC]
      split
      · rw [List.length_cons, show r.length + 1 - (skipC true r).length = (r.length - (skipC true r).length) + 1 by omega, List.drop_succ_cons]; exact h1
      · rw [List.length_cons, show r.length + 1 - (skipC false r).length = (r.length - (skipC false r).length) + 1 by omega, List.drop_succ_cons]; exact h2
theorem drop_skipTo (l : List UInt8) (k : Nat) (hk : k ≤ l.length) : l.drop (skipTo l k) = skipC false (l.drop k) ∧ skipTo l k = k + ((l.drop k).length - (skipC false (l.drop k)).length) := by
  have h1 := skipC_len false (l.drop k)
  have h2 : (l.drop k).length = l.length - k := List.length_drop
  have e : skipTo l k = k + ((l.drop k).length - (skipC false (l.drop k)).length) := by unfold skipTo; omega
  refine ⟨?_, e⟩
  rw [e, ← List.drop_drop, ← skipC_drop]
/-- The tokens so far, and what is left. -/
def glue (acc : List Tok) (r : List Tok × Nat × Int) : List Tok × Nat × Int := if r.2.2 = 0 then (acc ++ r.1, r.2.1, 0) else ([], r.2.1, r.2.2)
theorem lexF_O (l : List UInt8) : ∀ (f k : Nat) (acc : List Tok), k ≤ l.length → l.length < k + f → lexF l f (skipTo l k) acc = glue acc (lexO f k (l.drop k)) := by
  intro f
  induction f with
  | zero => intro k acc h1 h2; omega
  | succ f ih =>
    intro k acc hk hf
    obtain ⟨e1, e2⟩ := drop_skipTo l k hk
    have hb := skipTo_bd hk
    have hdl : (l.drop k).length = l.length - k := List.length_drop
    by_cases hlt : skipTo l k < l.length
    · have hne : skipC false (l.drop k) ≠ [] := by
        rw [← e1]; intro h
        have := congrArg List.length h
        rw [List.length_drop] at this
        simp at this; omega
      simp only [lexF]
      rw [if_pos hlt, nextE_drop, e1]
      simp only [lexO]
      rw [if_neg hne]
      by_cases he : nxE (skipC false (l.drop k)) = 0
      · rw [if_pos he, if_pos he]
        have he2 : nextE l (skipTo l k) = 0 := by rw [nextE_drop, e1]; exact he
        have e3 := nextEnd_drop he2
        rw [e1] at e3
        obtain ⟨_, g1, g2⟩ := next_end hlt he2
        rw [ih _ _ (by omega) (by omega)]
        have e4 : l.drop (nextEnd l (skipTo l k)) = (skipC false (l.drop k)).drop (nxN (skipC false (l.drop k))) := by rw [e3, ← List.drop_drop, e1]
        rw [e4]
        have e5 : nextTok l (skipTo l k) = ⟨nxK (skipC false (l.drop k)), ⟨((skipC false (l.drop k)).take (nxN (skipC false (l.drop k)))).toArray⟩, k + ((l.drop k).length - (skipC false (l.drop k)).length)⟩ := by
          unfold nextTok
          rw [nextK_drop, e1, ← e2, e3, Nat.add_sub_cancel_left]
        rw [e5, e3, e2]
        generalize lexO f _ _ = R
        unfold glue
        by_cases hR : R.2.2 = 0
        · simp [hR]
        · simp [hR]
      · rw [if_neg he, if_neg he, e2]
        simp [glue, he]
    · have hge : skipTo l k = l.length := by omega
      have hnil : skipC false (l.drop k) = [] := by rw [← e1, hge]; simp
      simp only [lexF, lexO]
      rw [if_neg hlt, if_pos hnil, hdl]
      simp [glue]; omega
/-- Lex's answer, by what is left. -/
theorem lexR_O (l : List UInt8) (h : l.length ≤ 16384) : lexR l = lexO (l.length + 1) 0 l := by
  unfold lexR
  rw [if_neg (by omega), lexF_O l _ 0 [] (by omega) (by omega), List.drop_zero]
  unfold glue
  split
  · rename_i h0
    rw [List.nil_append, ← h0]
  · rename_i h0
    have : ∀ f k r, (lexO f k r).2.2 ≠ 0 → (lexO f k r).1 = [] := by
      intro f k r h
      cases f with
      | zero => rfl
      | succ f =>
        simp only [lexO] at h ⊢
        split
        · rfl
        · split
          · split
            · rename_i h1 h2 h3; rw [if_neg h1, if_pos h2, if_pos h3] at h; exact absurd rfl h
            · rfl
          · rfl
    rw [← this _ _ _ h0]
end Go.Proofs.YtcbmaclhocdejaaDoor
