/- Joined: Plain law of package token: pieces alone, pieces ahead of a blank, joined texts. Plain law of package token: places, joined texts, two texts. Plain law of package token: what is joined is cut into the same tokens. Plain law of package token: two texts, with a line feed between. -/
import Derived.Test.YtkpjhjoopdbkaaaGreatDoorG23
namespace Go.Proofs.YtkpjhjoopdbkaaaGreatDoor
/-- What a step is, by what is left behind it. -/
theorem lexO_nil {f k : Nat} {r : List UInt8} (h : skipC false r = []) : lexO (f + 1) k r = ([], k + r.length, 0) := by simp only [lexO]; rw [if_pos h]
theorem lexO_bad {f k : Nat} {r q : List UInt8} (hq : skipC false r = q) (h : q ≠ []) (he : nxE q ≠ 0) : lexO (f + 1) k r = ([], k + (r.length - q.length), nxE q) := by
  simp only [lexO]; rw [hq, if_neg h, if_neg he]
def stepTok (k : Nat) (r q : List UInt8) : Tok := ⟨nxK q, ⟨(q.take (nxN q)).toArray⟩, k + (r.length - q.length)⟩
def glue1 (t : Tok) (r : List Tok × Nat × Int) : List Tok × Nat × Int := if r.2.2 = 0 then (t :: r.1, r.2.1, 0) else ([], r.2.1, r.2.2)
theorem lexO_step {f k : Nat} {r q : List UInt8} (hq : skipC false r = q) (h : q ≠ []) (he : nxE q = 0) :
    lexO (f + 1) k r = glue1 (stepTok k r q) (lexO f (k + (r.length - q.length) + nxN q) (q.drop (nxN q))) := by
  simp only [lexO]; rw [hq, if_neg h, if_pos he]; rfl
theorem skipC_head (r : List UInt8) : ∀ b : Bool, ∀ c q, skipC b r = c :: q → isBlank c = false ∧ c ≠ 35 := by
  induction r with
  | nil => intro b c q h; cases b <;> simp [skipC] at h
  | cons d r ih =>
    intro b c q h
    cases b
    · simp only [skipC] at h
      split at h
      · exact ih _ _ _ h
      · rename_i hb
        split at h
        · exact ih _ _ _ h
        · rename_i h35
          injection h with h1 h2
          subst h1
          exact ⟨by simpa using hb, h35⟩
    · simp only [skipC] at h
      split at h <;> exact ih _ _ _ h
theorem skipC_stop {c : UInt8} {q : List UInt8} (h : isBlank c = false) (h35 : c ≠ 35) : skipC false (c :: q) = c :: q := by simp [skipC, h, h35]
theorem named_letter {c : UInt8} (h : isLetter c = true) : isNamed c = true := by unfold isNamed; rw [h]; rfl
theorem named_digit {c : UInt8} (h : isDigit c = true) : isNamed c = true := by unfold isNamed; rw [h]; simp
theorem anyTwo_len {r : List UInt8} (h : anyTwo r = true) : 2 ≤ r.length := by
  obtain ⟨t, ht, hp⟩ := List.any_eq_true.1 h
  have h2 : t.length = 2 := by
    simp only [twoSigns, List.mem_cons, List.not_mem_nil, or_false] at ht
    rcases ht with rfl | rfl | rfl | rfl | rfl | rfl <;> rfl
  have hp2 : t.isPrefixOf r = true := hp
  have := (List.isPrefixOf_iff_prefix.1 hp2).length_le
  omega
theorem getD_cons (c : UInt8) (q : List UInt8) : (c :: q).getD 0 0 = c := rfl
theorem nx_pos (c : UInt8) (q : List UInt8) : 0 < nxN (c :: q) ∧ nxN (c :: q) ≤ (c :: q).length := by
  unfold nxN
  rw [getD_cons]
  by_cases h1 : isLetter c = true
  · rw [if_pos h1]
    refine ⟨by rw [List.takeWhile_cons_of_pos (named_letter h1)]; simp, (List.takeWhile_sublist _).length_le⟩
  · rw [if_neg h1]
    by_cases h2 : isDigit c = true
    · rw [if_pos h2]
      refine ⟨by rw [List.takeWhile_cons_of_pos h2]; simp, (List.takeWhile_sublist _).length_le⟩
    · rw [if_neg h2]
      by_cases h3 : anyTwo (c :: q) = true
      · rw [if_pos h3]; exact ⟨by omega, anyTwo_len h3⟩
      · rw [if_neg h3]; exact ⟨by omega, by simp⟩
/-- FUEL: enough is enough. -/
theorem lexO_fuel : ∀ (f g k : Nat) (r : List UInt8), r.length < f → r.length < g → lexO f k r = lexO g k r := by
  intro f
  induction f with
  | zero => intro g k r h; omega
  | succ f ih =>
    intro g k r hf hg
    obtain ⟨g, rfl⟩ : ∃ h, g = h + 1 := ⟨g - 1, by omega⟩
    rcases hq : skipC false r with _ | ⟨c, q⟩
    · rw [lexO_nil hq, lexO_nil hq]
    · have hl := skipC_len false r
      rw [hq] at hl
      by_cases he : nxE (c :: q) = 0
      · have hn := nx_pos c q
        have hd : ((c :: q).drop (nxN (c :: q))).length = (c :: q).length - nxN (c :: q) := List.length_drop
        rw [lexO_step hq (by simp) he, lexO_step hq (by simp) he, ih g _ _ (by omega) (by omega)]
      · rw [lexO_bad hq (by simp) he, lexO_bad hq (by simp) he]
theorem takeWhile_blank {p : UInt8 → Bool} {b : UInt8} (hb : p b = false) (x y : List UInt8) : (x ++ b :: y).takeWhile p = x.takeWhile p := by
  induction x with
  | nil => rw [List.nil_append, List.takeWhile_cons_of_neg (by simp [hb])]; rfl
  | cons c x ih =>
    by_cases h : p c = true
    · rw [List.cons_append, List.takeWhile_cons_of_pos h, List.takeWhile_cons_of_pos h, ih]
    · rw [List.cons_append, List.takeWhile_cons_of_neg h, List.takeWhile_cons_of_neg h]
theorem dropWhile_blank {p : UInt8 → Bool} {b : UInt8} (hb : p b = false) (x y : List UInt8) : (x ++ b :: y).dropWhile p = x.dropWhile p ++ b :: y := by
  induction x with
  | nil => rw [List.nil_append, List.dropWhile_cons_of_neg (by simp [hb])]; rfl
  | cons c x ih =>
    by_cases h : p c = true
    · rw [List.cons_append, List.dropWhile_cons_of_pos h, List.dropWhile_cons_of_pos h, ih]
    · rw [List.cons_append, List.dropWhile_cons_of_neg h, List.dropWhile_cons_of_neg h, List.cons_append]
def noSign (b : UInt8) : Bool := b != 46 && b != 61 && b != 38 && b != 124
theorem anyTwo_two (c d : UInt8) (y : List UInt8) : anyTwo (c :: d :: y) = anyTwo [c, d] := by
  simp [anyTwo, twoSigns, Lib.hasPrefix, List.isPrefixOf]
theorem anyTwo_blank {b : UInt8} (hb : noSign b = true) (c : UInt8) (x y : List UInt8) : anyTwo ((c :: x) ++ b :: y) = anyTwo (c :: x) := by
  rcases x with _ | ⟨d, x⟩
  · rw [List.cons_append, List.nil_append, anyTwo_two]
    have h1 : anyTwo [c] = false := by simp [anyTwo, twoSigns, Lib.hasPrefix, List.isPrefixOf]
    have h2 : (b != 46) = true ∧ (b != 61) = true ∧ (b != 38) = true ∧ (b != 124) = true := by simpa [noSign, and_assoc] using hb
    rw [h1]
    have h3 : b ≠ 46 ∧ b ≠ 61 ∧ b ≠ 38 ∧ b ≠ 124 := by simpa using h2
    have g1 := h3.1.symm
    have g2 := h3.2.1.symm
    have g3 := h3.2.2.1.symm
    have g4 := h3.2.2.2.symm
    simp [anyTwo, twoSigns, Lib.hasPrefix, List.isPrefixOf, g1, g2, g3, g4]
  · rw [List.cons_append, List.cons_append, anyTwo_two, anyTwo_two c d x]
/-- A blank behind a text turns nothing of its first piece. -/
theorem nx_blank {b : UInt8} (hb : isBlank b = true) (c : UInt8) (x y : List UInt8) : nxK ((c :: x) ++ b :: y) = nxK (c :: x) ∧ nxN ((c :: x) ++ b :: y) = nxN (c :: x) ∧ nxE ((c :: x) ++ b :: y) = nxE (c :: x) := by
  have hb2 : b.toNat = 32 ∨ b.toNat = 9 ∨ b.toNat = 10 ∨ b.toNat = 13 := by simpa [isBlank] using hb
  have hn : isNamed b = false := by
    simp only [isNamed, isLetter, isDigit, Bool.or_eq_false_iff, decide_eq_false_iff_not]; omega
  have hd : isDigit b = false := by simp only [isDigit, decide_eq_false_iff_not]; omega
  have hs : noSign b = true := by
    have : ∀ n : Nat, n < 256 → (n = 32 ∨ n = 9 ∨ n = 10 ∨ n = 13) → noSign (UInt8.ofNat n) = true := by
      intro n _ h; rcases h with rfl | rfl | rfl | rfl <;> rfl
    have h := this b.toNat (UInt8.toNat_lt b) hb2
    simpa using h
  have h0 : ((c :: x) ++ b :: y).getD 0 0 = c := rfl
  have e1 := takeWhile_blank hn (c :: x) y
  have e2 := takeWhile_blank hd (c :: x) y
  have e3 := dropWhile_blank hd (c :: x) y
  have e4 := takeWhile_blank hn ((c :: x).dropWhile isDigit) y
  have e5 := anyTwo_blank hs c x y
  have e6 : ((c :: x) ++ b :: y)[0]? = (c :: x)[0]? := rfl
  refine ⟨?_, ?_, ?_⟩
  · unfold nxK; rw [h0, e1, getD_cons]
  · unfold nxN; rw [h0, e1, e2, e5, getD_cons]
  · unfold nxE numE sgE; rw [h0, e1, e2, e3, e4, e5, e6, getD_cons]
theorem takeWhile_twice (p : UInt8 → Bool) (l : List UInt8) : (l.takeWhile p).all p = true := by
  induction l with
  | nil => rfl
  | cons c l ih =>
    by_cases h : p c = true
    · rw [List.takeWhile_cons_of_pos h]; simp [h]
    · rw [List.takeWhile_cons_of_neg h]; rfl
theorem takeWhile_full {p : UInt8 → Bool} {l : List UInt8} (h : (l.takeWhile p).length = l.length) : l.takeWhile p = l ∧ l.all p = true := by
  have h1 := takeWhile_take p l
  rw [h, List.take_length] at h1
  have h2 := takeWhile_twice p l
  rw [← h1] at h2
  exact ⟨h1.symm, h2⟩
theorem takeWhile_all {p : UInt8 → Bool} {l : List UInt8} (h : l.all p = true) : l.takeWhile p = l ∧ l.dropWhile p = [] := by
  induction l with
  | nil => exact ⟨rfl, rfl⟩
  | cons c l ih =>
    have h2 : p c = true ∧ l.all p = true := by simpa using h
    obtain ⟨i1, i2⟩ := ih h2.2
    exact ⟨by rw [List.takeWhile_cons_of_pos h2.1, i1], by rw [List.dropWhile_cons_of_pos h2.1, i2]⟩
theorem letter_no_digit {c : UInt8} (h : isLetter c = true) : isDigit c = false := by
  unfold isLetter at h
  simp only [Bool.or_eq_true, decide_eq_true_eq] at h
  simp only [isDigit, decide_eq_false_iff_not]; omega
/-- A piece alone. -/
theorem nx_take {c : UInt8} {q : List UInt8} (he : nxE (c :: q) = 0) :
    ∃ x, (c :: q).take (nxN (c :: q)) = c :: x ∧ nxK (c :: x) = nxK (c :: q) ∧ nxN (c :: x) = (c :: x).length ∧ nxE (c :: x) = 0 ∧ (c :: x).length = nxN (c :: q) := by
  by_cases h1 : isLetter c = true
  · have hn : nxN (c :: q) = ((c :: q).takeWhile isNamed).length := by unfold nxN; rw [getD_cons, if_pos h1]
    have ht : (c :: q).takeWhile isNamed = c :: q.takeWhile isNamed := List.takeWhile_cons_of_pos (named_letter h1)
    obtain ⟨t1, _⟩ := takeWhile_all (takeWhile_twice isNamed (c :: q))
    rw [ht] at t1 hn
    refine ⟨q.takeWhile isNamed, by rw [hn, ← ht, takeWhile_take], ?_, ?_, ?_, hn.symm⟩
    · unfold nxK; rw [getD_cons, getD_cons, t1, ht]
    · unfold nxN; rw [getD_cons, if_pos h1, t1]
    · unfold nxE at he ⊢; rw [getD_cons, if_pos h1, ht] at he; rw [getD_cons, if_pos h1, t1]; exact he
  · by_cases h2 : isDigit c = true
    · have hn : nxN (c :: q) = ((c :: q).takeWhile isDigit).length := by unfold nxN; rw [getD_cons, if_neg h1, if_pos h2]
      have ht : (c :: q).takeWhile isDigit = c :: q.takeWhile isDigit := List.takeWhile_cons_of_pos h2
      obtain ⟨t1, t2⟩ := takeWhile_all (takeWhile_twice isDigit (c :: q))
      rw [ht] at t1 t2 hn
      refine ⟨q.takeWhile isDigit, by rw [hn, ← ht, takeWhile_take], ?_, ?_, ?_, hn.symm⟩
      · unfold nxK; rw [getD_cons, getD_cons, if_neg h1, if_neg h1, if_pos h2]
      · unfold nxN; rw [getD_cons, if_neg h1, if_pos h2, t1]
      · unfold nxE at he ⊢
        rw [getD_cons, if_neg h1, if_pos h2] at he ⊢
        unfold numE at he ⊢
        rw [t1, t2]
        rw [ht] at he
        split at he
        · cases he
        · rw [if_neg (by simp)]; exact he
    · by_cases h3 : anyTwo (c :: q) = true
      · have hl := anyTwo_len h3
        obtain ⟨d, q2, rfl⟩ : ∃ d q2, q = d :: q2 := by
          rcases q with _ | ⟨d, q2⟩
          · simp at hl
          · exact ⟨d, q2, rfl⟩
        have hn : nxN (c :: d :: q2) = 2 := by unfold nxN; rw [getD_cons, if_neg h1, if_neg h2, if_pos h3]
        have h4 : anyTwo [c, d] = true := by rw [← anyTwo_two c d q2]; exact h3
        refine ⟨[d], by rw [hn]; rfl, ?_, ?_, ?_, hn.symm⟩
        · unfold nxK; rw [getD_cons, getD_cons, if_neg h1, if_neg h1, if_neg h2]
        · unfold nxN; rw [getD_cons, if_neg h1, if_neg h2, if_pos h4]; rfl
        · unfold nxE sgE; rw [getD_cons, if_neg h1, if_neg h2, if_pos h4]
      · have hn : nxN (c :: q) = 1 := by unfold nxN; rw [getD_cons, if_neg h1, if_neg h2, if_neg h3]
        have h4 : ¬ anyTwo [c] = true := by simp [anyTwo, twoSigns, Lib.hasPrefix, List.isPrefixOf]
        refine ⟨[], by rw [hn]; rfl, ?_, ?_, ?_, hn.symm⟩
        · unfold nxK; rw [getD_cons, getD_cons, if_neg h1, if_neg h1, if_neg h2]
        · unfold nxN; rw [getD_cons, if_neg h1, if_neg h2, if_neg h4]; rfl
        · unfold nxE sgE at he ⊢; rw [getD_cons, if_neg h1, if_neg h2, if_neg h3] at he; rw [getD_cons, if_neg h1, if_neg h2, if_neg h4]; exact he
/-- What a piece alone is. -/
theorem nx_what {c : UInt8} {x : List UInt8} (he : nxE (c :: x) = 0) (hn : nxN (c :: x) = (c :: x).length) :
    1 ≤ nxK (c :: x) ∧ nxK (c :: x) ≤ 3 ∧ numOk (c :: x) = decide (nxK (c :: x) = 2) ∧ nameOk (c :: x) = decide (nxK (c :: x) = 1) := by
  have hnum : isDigit c = false → numOk (c :: x) = false := by
    intro h; unfold numOk allDigits; simp [h]
  have hname : ¬ isLetter c = true → nameOk (c :: x) = false := by
    intro h; unfold nameOk; rw [getD_cons]; simp [h]
  by_cases h1 : isLetter c = true
  · unfold nxN at hn; unfold nxE at he; unfold nxK
    rw [getD_cons, if_pos h1] at hn he ⊢
    by_cases h32 : 32 < ((c :: x).takeWhile isNamed).length
    · rw [if_pos h32] at he; cases he
    · rw [if_neg h32]
      refine ⟨by omega, by omega, by rw [hnum (letter_no_digit h1)]; rfl, ?_⟩
      have h5 := (takeWhile_full hn).2
      unfold nameOk
      rw [getD_cons, h1, h5, decide_eq_true (show (c :: x).length ≤ 32 by omega)]
      rfl
  · by_cases h2 : isDigit c = true
    · have hk : nxK (c :: x) = 2 := by unfold nxK; rw [getD_cons, if_neg h1, if_pos h2]
      unfold nxN at hn; unfold nxE at he
      rw [getD_cons, if_neg h1, if_pos h2] at hn he
      rw [hk]
      refine ⟨by omega, by omega, ?_, by rw [hname h1]; rfl⟩
      unfold numE at he
      rw [(takeWhile_full hn).1] at he
      split at he
      · cases he
      · split at he
        · cases he
        · split at he
          · rename_i h; rw [h]; rfl
          · cases he
    · have hk : nxK (c :: x) = 3 := by unfold nxK; rw [getD_cons, if_neg h1, if_neg h2]
      rw [hk]
      exact ⟨by omega, by omega, by rw [hnum (by simpa using h2)]; rfl, by rw [hname h1]; rfl⟩
theorem num_nonneg (l : List UInt8) : 0 ≤ numV l := by
  unfold numV
  split
  · rename_i h
    simp only [numOk, Bool.and_eq_true, decide_eq_true_eq, Bool.not_eq_true', Bool.and_eq_false_imp, decide_eq_false_iff_not] at h
    exact numF_ge l h.1.2 0 (by omega)
  · omega
end Go.Proofs.YtkpjhjoopdbkaaaGreatDoor
namespace Go.Proofs.YtkpjhjoopdbkaaaGreatDoor
theorem skipC_len2 (r : List UInt8) : (skipC false r).length ≤ r.length := skipC_len false r
theorem glue1_cases (t : Tok) (R : List Tok × Nat × Int) : (R.2.2 = 0 ∧ glue1 t R = (t :: R.1, R.2.1, 0)) ∨ (R.2.2 ≠ 0 ∧ glue1 t R = ([], R.2.1, R.2.2)) := by
  unfold glue1
  by_cases h : R.2.2 = 0
  · exact .inl ⟨h, if_pos h⟩
  · exact .inr ⟨h, if_neg h⟩
theorem step_text (k : Nat) (r : List UInt8) (c : UInt8) (q : List UInt8) (he : nxE (c :: q) = 0) :
    ∃ x, (stepTok k r (c :: q)).text.data.toList = c :: x ∧ (c :: q).take (nxN (c :: q)) = c :: x ∧ nxK (c :: x) = (stepTok k r (c :: q)).kind ∧ nxN (c :: x) = (c :: x).length ∧ nxE (c :: x) = 0 ∧ (stepTok k r (c :: q)).text.size = nxN (c :: q) ∧ (c :: x).length = nxN (c :: q) := by
  obtain ⟨x, h1, h2, h3, h4, h5⟩ := nx_take he
  refine ⟨x, h1, h1, h2, h3, h4, ?_, h5⟩
  rw [← h5, ← h1]; simp [stepTok, ByteArray.size]
/-- Where a text that is no row of tokens goes wrong, and where it ends. -/
theorem lexO_at : ∀ (f k : Nat) (r : List UInt8), r.length < f → ((lexO f k r).2.2 = 0 → (lexO f k r).2.1 = k + r.length) ∧ ((lexO f k r).2.2 ≠ 0 → (lexO f k r).2.1 < k + r.length) ∧ (lexO f k r).1.length ≤ r.length ∧ (joinL (lexO f k r).1).length ≤ 2 * r.length := by
  intro f
  induction f with
  | zero => intro k r h; omega
  | succ f ih =>
    intro k r hf
    have hsl := skipC_len2 r
    rcases hq : skipC false r with _ | ⟨c, q⟩
    · rw [lexO_nil hq]; exact ⟨fun _ => rfl, fun h => absurd rfl h, by simp, by simp [joinL, tokTexts, Lib.join]⟩
    · rw [hq] at hsl
      have hc : (c :: q).length = q.length + 1 := rfl
      by_cases he : nxE (c :: q) = 0
      · rw [lexO_step hq (by simp) he]
        have hn := nx_pos c q
        obtain ⟨x, t1, t2, t3, t4, t5, t6, t7⟩ := step_text k r c q he
        have hd : ((c :: q).drop (nxN (c :: q))).length = (c :: q).length - nxN (c :: q) := List.length_drop
        obtain ⟨i1, i2, i3, i4⟩ := ih (k + (r.length - (c :: q).length) + nxN (c :: q)) ((c :: q).drop (nxN (c :: q))) (by omega)
        rcases glue1_cases (stepTok k r (c :: q)) (lexO f (k + (r.length - (c :: q).length) + nxN (c :: q)) ((c :: q).drop (nxN (c :: q)))) with ⟨h0, h⟩ | ⟨h0, h⟩
        · rw [h]
          generalize lexO f (k + (r.length - (c :: q).length) + nxN (c :: q)) ((c :: q).drop (nxN (c :: q))) = R at *
          refine ⟨fun _ => by rw [i1 h0]; omega, fun h => absurd rfl h, by simp; omega, ?_⟩
          have hj : (joinL (stepTok k r (c :: q) :: R.1)).length ≤ nxN (c :: q) + 1 + (joinL R.1).length := by
            rcases R.1 with _ | ⟨t, ts⟩
            · have : (joinL [stepTok k r (c :: q)]).length = nxN (c :: q) := by
                have : joinL [stepTok k r (c :: q)] = c :: x := by rw [← t1]; simp [joinL, tokTexts, Lib.join]
                rw [this, t7]
              omega
            · have : joinL (stepTok k r (c :: q) :: t :: ts) = (c :: x) ++ [32] ++ joinL (t :: ts) := by rw [← t1]; simp [joinL, tokTexts, Lib.join]
              rw [this, List.length_append, List.length_append, t7]
              simp
          show (joinL (stepTok k r (c :: q) :: R.1)).length ≤ 2 * r.length
          omega
        · rw [h]
          refine ⟨fun h => absurd h h0, fun h => ?_, by simp, by simp [joinL, tokTexts, Lib.join]⟩
          have := i2 h0
          show (lexO f (k + (r.length - (c :: q).length) + nxN (c :: q)) ((c :: q).drop (nxN (c :: q)))).2.1 < _
          omega
      · rw [lexO_bad hq (by simp) he]
        refine ⟨fun h => absurd h he, fun _ => ?_, by simp, by simp [joinL, tokTexts, Lib.join]⟩
        show k + (r.length - (c :: q).length) < _
        omega
end Go.Proofs.YtkpjhjoopdbkaaaGreatDoor
namespace Go.Proofs.YtkpjhjoopdbkaaaGreatDoor
def TokAlone (t : Tok) : Prop := ∃ c x, t.text.data.toList = c :: x ∧ nxE (c :: x) = 0 ∧ nxN (c :: x) = (c :: x).length ∧ nxK (c :: x) = t.kind ∧ isBlank c = false ∧ c ≠ 35
theorem lexO_alone : ∀ (f k : Nat) (r : List UInt8) (t : Tok), t ∈ (lexO f k r).1 → TokAlone t := by
  intro f
  induction f with
  | zero => intro k r t h; simp [lexO] at h
  | succ f ih =>
    intro k r t h
    rcases hq : skipC false r with _ | ⟨c, q⟩
    · rw [lexO_nil hq] at h; simp at h
    · by_cases he : nxE (c :: q) = 0
      · rw [lexO_step hq (by simp) he] at h
        rcases glue1_cases (stepTok k r (c :: q)) (lexO f (k + (r.length - (c :: q).length) + nxN (c :: q)) ((c :: q).drop (nxN (c :: q)))) with ⟨_, h2⟩ | ⟨_, h2⟩
        · rw [h2] at h
          rcases List.mem_cons.1 h with rfl | h
          · obtain ⟨x, t1, t2, t3, t4, t5, _⟩ := step_text k r c q he
            have := skipC_head r false c q hq
            exact ⟨c, x, t1, t5, t4, t3, this.1, this.2⟩
          · exact ih _ _ _ h
        · rw [h2] at h; simp at h
      · rw [lexO_bad hq (by simp) he] at h; simp at h
def Tok.key (t : Tok) : Int × ByteArray := (t.kind, t.text)
theorem lexO_blank {b : UInt8} (hb : isBlank b = true) (f k : Nat) (r : List UInt8) : lexO (f + 1) k (b :: r) = lexO (f + 1) (k + 1) r := by
  have e : skipC false (b :: r) = skipC false r := by simp [skipC, hb]
  have hl := skipC_len2 r
  rcases hq : skipC false r with _ | ⟨c, q⟩
  · rw [lexO_nil (e.trans hq), lexO_nil hq]; simp; omega
  · rw [hq] at hl
    have e2 : k + ((b :: r).length - (c :: q).length) = k + 1 + (r.length - (c :: q).length) := by
      have : (b :: r).length = r.length + 1 := rfl
      omega
    by_cases he : nxE (c :: q) = 0
    · rw [lexO_step (e.trans hq) (by simp) he, lexO_step hq (by simp) he]
      unfold stepTok
      rw [e2]
    · rw [lexO_bad (e.trans hq) (by simp) he, lexO_bad hq (by simp) he, e2]
end Go.Proofs.YtkpjhjoopdbkaaaGreatDoor
namespace Go.Proofs.YtkpjhjoopdbkaaaGreatDoor
def two (A B : List Tok × Nat × Int) : List Tok × Nat × Int := if A.2.2 = 0 then (if B.2.2 = 0 then (A.1 ++ B.1, B.2.1, 0) else ([], B.2.1, B.2.2)) else ([], A.2.1, A.2.2)
def Tok.move (d : Nat) (t : Tok) : Tok := ⟨t.kind, t.text, t.at_ + d⟩
def moved (d : Nat) (R : List Tok × Nat × Int) : List Tok × Nat × Int := (R.1.map (Tok.move d), R.2.1 + d, R.2.2)
theorem lexO_move (d : Nat) : ∀ (f k : Nat) (r : List UInt8), lexO f (k + d) r = moved d (lexO f k r) := by
  intro f
  induction f with
  | zero => intro k r; rfl
  | succ f ih =>
    intro k r
    rcases hq : skipC false r with _ | ⟨c, q⟩
    · rw [lexO_nil hq, lexO_nil hq]
      unfold moved
      simp; omega
    · have e : k + d + (r.length - (c :: q).length) = k + (r.length - (c :: q).length) + d := by omega
      by_cases he : nxE (c :: q) = 0
      · rw [lexO_step hq (by simp) he, lexO_step hq (by simp) he, e]
        have e2 : k + (r.length - (c :: q).length) + d + nxN (c :: q) = k + (r.length - (c :: q).length) + nxN (c :: q) + d := by omega
        rw [e2, ih]
        have e3 : stepTok (k + d) r (c :: q) = (stepTok k r (c :: q)).move d := by unfold stepTok Tok.move; rw [e]
        rw [e3]
        generalize lexO f _ _ = R
        unfold glue1 moved
        by_cases h0 : R.2.2 = 0
        · simp [h0]
        · simp [h0]
      · rw [lexO_bad hq (by simp) he, lexO_bad hq (by simp) he, e]
        rfl
theorem lex_at {s : List UInt8} (hs : s.length ≤ 4096) : (lexR s).1.length ≤ 4096 ∧ (lexR s).2.1 ≤ s.length := by
  rw [lexR_O s (by omega)]
  obtain ⟨a1, a2, a3, _⟩ := lexO_at (s.length + 1) 0 s (by omega)
  refine ⟨by omega, ?_⟩
  by_cases h : (lexO (s.length + 1) 0 s).2.2 = 0
  · have := a1 h; omega
  · have := a2 h; omega
end Go.Proofs.YtkpjhjoopdbkaaaGreatDoor
