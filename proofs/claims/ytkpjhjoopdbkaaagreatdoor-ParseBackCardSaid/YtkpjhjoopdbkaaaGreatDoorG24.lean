/- Joined: Plain law of package token: pieces alone, pieces ahead of a blank, joined texts. Plain law of package token: places, joined texts, two texts. Plain law of package token: what is joined is cut into the same tokens. Plain law of package token: two texts, with a line feed between. -/
import Derived.Test.YtkpjhjoopdbkaaaGreatDoorG23
namespace Go.Proofs.YtkpjhjoopdbkaaaGreatDoor
theorem lexO_err {f k : Nat} {r : List UInt8} (h : (lexO f k r).2.2 ≠ 0) : (lexO f k r).1 = [] := by
  cases f with
  | zero => rfl
  | succ f =>
    simp only [lexO] at h ⊢
    split
    · rfl
    · split
      · split
        · rename_i h1 h2 h3; rw [if_neg h1, if_pos h2, if_pos h3] at h; exact absurd rfl h
        · rfl
      · rfl
/-- What a step is, by what is left behind it. -/
theorem lexO_nil {f k : Nat} {r : List UInt8} (h : skipC false r = []) : lexO (f + 1) k r = ([], k + r.length, 0) := by simp only [lexO]; rw [if_pos h]
theorem lexO_bad {f k : Nat} {r q : List UInt8} (hq : skipC false r = q) (h : q ≠ []) (he : nxE q ≠ 0) : lexO (f + 1) k r = ([], k + (r.length - q.length), nxE q) := by
  simp only [lexO]; rw [hq, if_neg h, if_neg he]
def stepTok (k : Nat) (r q : List UInt8) : Tok := ⟨nxK q, ⟨(q.take (nxN q)).toArray⟩, k + (r.length - q.length)⟩
def glue1 (t : Tok) (r : List Tok × Nat × Int) : List Tok × Nat × Int := if r.2.2 = 0 then (t :: r.1, r.2.1, 0) else ([], r.2.1, r.2.2)
theorem lexO_step {f k : Nat} {r q : List UInt8} (hq : skipC false r = q) (h : q ≠ []) (he : nxE q = 0) :
    lexO (f + 1) k r = glue1 (stepTok k r q) (lexO f (k + (r.length - q.length) + nxN q) (q.drop (nxN q))) := by
  simp only [lexO]; rw [hq, if_neg h, if_pos he]; rfl
theorem skipC_head (r : List UInt8) : ∀ b : Bool, ∀ c q, skipC b r = c :: q → isBlank c = false ∧ c ≠ 35 := by
  induction r with
  | nil => intro b c q h; cases b <;> simp [skipC] at h
  | cons d r ih =>
    intro b c q h
    cases b
    · simp only [skipC] at h
      split at h
      · exact ih _ _ _ h
      · rename_i hb
        split at h
        · exact ih _ _ _ h
        · rename_i h35
          injection h with h1 h2
          subst h1
          exact ⟨by simpa using hb, h35⟩
    · simp only [skipC] at h
      split at h <;> exact ih _ _ _ h
theorem skipC_stop {c : UInt8} {q : List UInt8} (h : isBlank c = false) (h35 : c ≠ 35) : skipC false (c :: q) = c :: q := by simp [skipC, h, h35]
theorem named_letter {c : UInt8} (h : isLetter c = true) : isNamed c = true := by unfold isNamed; rw [h]; rfl
theorem named_digit {c : UInt8} (h : isDigit c = true) : isNamed c = true := by unfold isNamed; rw [h]; simp
theorem anyTwo_len {r : List UInt8} (h : anyTwo r = true) : 2 ≤ r.length := by
  obtain ⟨t, ht, hp⟩ := List.any_eq_true.1 h
  have h2 : t.length = 2 := by
    simp only [twoSigns, List.mem_cons, List.not_mem_nil, or_false] at ht
    rcases ht with rfl | rfl | rfl | rfl | rfl | rfl <;> rfl
  have hp2 : t.isPrefixOf r = true := hp
  have := (List.isPrefixOf_iff_prefix.1 hp2).length_le
  omega
theorem getD_cons (c : UInt8) (q : List UInt8) : (c :: q).getD 0 0 = c := rfl
theorem nx_pos (c : UInt8) (q : List UInt8) : 0 < nxN (c :: q) ∧ nxN (c :: q) ≤ (c :: q).length := by
  unfold nxN
  rw [getD_cons]
  by_cases h1 : isLetter c = true
  · rw [if_pos h1]
    refine ⟨by rw [List.takeWhile_cons_of_pos (named_letter h1)]; simp, (List.takeWhile_sublist _).length_le⟩
  · rw [if_neg h1]
    by_cases h2 : isDigit c = true
    · rw [if_pos h2]
      refine ⟨by rw [List.takeWhile_cons_of_pos h2]; simp, (List.takeWhile_sublist _).length_le⟩
    · rw [if_neg h2]
      by_cases h3 : anyTwo (c :: q) = true
      · rw [if_pos h3]; exact ⟨by omega, anyTwo_len h3⟩
      · rw [if_neg h3]; exact ⟨by omega, by simp⟩
/-- FUEL: enough is enough. -/
theorem lexO_fuel : ∀ (f g k : Nat) (r : List UInt8), r.length < f → r.length < g → lexO f k r = lexO g k r := by
  intro f
  induction f with
  | zero => intro g k r h; omega
  | succ f ih =>
    intro g k r hf hg
    obtain ⟨g, rfl⟩ : ∃ h, g = h + 1 := ⟨g - 1, by omega⟩
    rcases hq : skipC false r with _ | ⟨c, q⟩
    · rw [lexO_nil hq, lexO_nil hq]
    · have hl := skipC_len false r
      rw [hq] at hl
      by_cases he : nxE (c :: q) = 0
      · have hn := nx_pos c q
        have hd : ((c :: q).drop (nxN (c :: q))).length = (c :: q).length - nxN (c :: q) := List.length_drop
        rw [lexO_step hq (by simp) he, lexO_step hq (by simp) he, ih g _ _ (by omega) (by omega)]
      · rw [lexO_bad hq (by simp) he, lexO_bad hq (by simp) he]
theorem takeWhile_blank {p : UInt8 → Bool} {b : UInt8} (hb : p b = false) (x y : List UInt8) : (x ++ b :: y).takeWhile p = x.takeWhile p := by
  induction x with
  | nil => rw [List.nil_append, List.takeWhile_cons_of_neg (by simp [hb])]; rfl
  | cons c x ih =>
    by_cases h : p c = true
    · rw [List.cons_append, List.takeWhile_cons_of_pos h, List.takeWhile_cons_of_pos h, ih]
    · rw [List.cons_append, List.takeWhile_cons_of_neg h, List.takeWhile_cons_of_neg h]
theorem dropWhile_blank {p : UInt8 → Bool} {b : UInt8} (hb : p b = false) (x y : List UInt8) : (x ++ b :: y).dropWhile p = x.dropWhile p ++ b :: y := by
  induction x with
  | nil => rw [List.nil_append, List.dropWhile_cons_of_neg (by simp [hb])]; rfl
  | cons c x ih =>
    by_cases h : p c = true
    · rw [List.cons_append, List.dropWhile_cons_of_pos h, List.dropWhile_cons_of_pos h, ih]
    · rw [List.cons_append, List.dropWhile_cons_of_neg h, List.dropWhile_cons_of_neg h, List.cons_append]
def noSign (b : UInt8) : Bool := b != 46 && b != 61 && b != 38 && b != 124
theorem anyTwo_two (c d : UInt8) (y : List UInt8) : anyTwo (c :: d :: y) = anyTwo [c, d] := by
  simp [anyTwo, twoSigns, Lib.hasPrefix, List.isPrefixOf]
theorem anyTwo_blank {b : UInt8} (hb : noSign b = true) (c : UInt8) (x y : List UInt8) : anyTwo ((c :: x) ++ b :: y) = anyTwo (c :: x) := by
  rcases x with _ | ⟨d, x⟩
  · rw [List.cons_append, List.nil_append, anyTwo_two]
    have h1 : anyTwo [c] = false := by simp [anyTwo, twoSigns, Lib.hasPrefix, List.isPrefixOf]
    have h2 : (b != 46) = true ∧ (b != 61) = true ∧ (b != 38) = true ∧ (b != 124) = true := by simpa [noSign, and_assoc] using hb
    rw [h1]
    have h3 : b ≠ 46 ∧ b ≠ 61 ∧ b ≠ 38 ∧ b ≠ 124 := by simpa using h2
    have g1 := h3.1.symm
    have g2 := h3.2.1.symm
    have g3 := h3.2.2.1.symm
    have g4 := h3.2.2.2.symm
    simp [anyTwo, twoSigns, Lib.hasPrefix, List.isPrefixOf, g1, g2, g3, g4]
  · rw [List.cons_append, List.cons_append, anyTwo_two, anyTwo_two c d x]
/-- A blank behind a text turns nothing of its first piece. -/
theorem nx_blank {b : UInt8} (hb : isBlank b = true) (c : UInt8) (x y : List UInt8) : nxK ((c :: x) ++ b :: y) = nxK (c :: x) ∧ nxN ((c :: x) ++ b :: y) = nxN (c :: x) ∧ nxE ((c :: x) ++ b :: y) = nxE (c :: x) := by
  have hb2 : b.toNat = 32 ∨ b.toNat = 9 ∨ b.toNat = 10 ∨ b.toNat = 13 := by simpa [isBlank] using hb
  have hn : isNamed b = false := by
    simp only [isNamed, isLetter, isDigit, Bool.or_eq_false_iff, decide_eq_false_iff_not]; omega
  have hd : isDigit b = false := by simp only [isDigit, decide_eq_false_iff_not]; omega
  have hs : noSign b = true := by
    have : ∀ n : Nat, n < 256 → (n = 32 ∨ n = 9 ∨ n = 10 ∨ n = 13) → noSign (UInt8.ofNat n) = true := by
      intro n _ h; rcases h with rfl | rfl | rfl | rfl <;> rfl
    have h := this b.toNat (UInt8.toNat_lt b) hb2
    simpa using h
  have h0 : ((c :: x) ++ b :: y).getD 0 0 = c := rfl
  have e1 := takeWhile_blank hn (c :: x) y
  have e2 := takeWhile_blank hd (c :: x) y
  have e3 := dropWhile_blank hd (c :: x) y
  have e4 := takeWhile_blank hn ((c :: x).dropWhile isDigit) y
  have e5 := anyTwo_blank hs c x y
  have e6 : ((c :: x) ++ b :: y)[0]? = (c :: x)[0]? := rfl
  refine ⟨?_, ?_, ?_⟩
  · unfold nxK; rw [h0, e1, getD_cons]
  · unfold nxN; rw [h0, e1, e2, e5, getD_cons]
  · unfold nxE numE sgE; rw [h0, e1, e2, e3, e4, e5, e6, getD_cons]
theorem takeWhile_twice (p : UInt8 → Bool) (l : List UInt8) : (l.takeWhile p).all p = true := by
  induction l with
  | nil => rfl
  | cons c l ih =>
    by_cases h : p c = true
    · rw [List.takeWhile_cons_of_pos h]; simp [h]
    · rw [List.takeWhile_cons_of_neg h]; rfl
theorem takeWhile_full {p : UInt8 → Bool} {l : List UInt8} (h : (l.takeWhile p).length = l.length) : l.takeWhile p = l ∧ l.all p = true := by
  have h1 := takeWhile_take p l
  rw [h, List.take_length] at h1
  have h2 := takeWhile_twice p l
  rw [← h1] at h2
  exact ⟨h1.symm, h2⟩
theorem takeWhile_all {p : UInt8 → Bool} {l : List UInt8} (h : l.all p = true) : l.takeWhile p = l ∧ l.dropWhile p = [] := by
  induction l with
  | nil => exact ⟨rfl, rfl⟩
  | cons c l ih =>
    have h2 : p c = true ∧ l.all p = true := by simpa using h
    obtain ⟨i1, i2⟩ := ih h2.2
    exact ⟨by rw [List.takeWhile_cons_of_pos h2.1, i1], by rw [List.dropWhile_cons_of_pos h2.1, i2]⟩
theorem letter_no_digit {c : UInt8} (h : isLetter c = true) : isDigit c = false := by
  unfold isLetter at h
  simp only [Bool.or_eq_true, decide_eq_true_eq] at h
  simp only [isDigit, decide_eq_false_iff_not]; omega
/-- A piece alone. -/
theorem nx_take {c : UInt8} {q : List UInt8} (he : nxE (c :: q) = 0) :
    ∃ x, (c :: q).take (nxN (c :: q)) = c :: x ∧ nxK (c :: x) = nxK (c :: q) ∧ nxN (c :: x) = (c :: x).length ∧ nxE (c :: x) = 0 ∧ (c :: x).length = nxN (c :: q) := by
  by_cases h1 : isLetter c = true
  · have hn : nxN (c :: q) = ((c :: q).takeWhile isNamed).length := by unfold nxN; rw [getD_cons, if_pos h1]
    have ht : (c :: q).takeWhile isNamed = c :: q.takeWhile isNamed := List.takeWhile_cons_of_pos (named_letter h1)
    obtain ⟨t1, _⟩ := takeWhile_all (takeWhile_twice isNamed (c :: q))
    rw [ht] at t1 hn
    refine ⟨q.takeWhile isNamed, by rw [hn, ← ht, takeWhile_take], ?_, ?_, ?_, hn.symm⟩
    · unfold nxK; rw [getD_cons, getD_cons, t1, ht]
    · unfold nxN; rw [getD_cons, if_pos h1, t1]
    · unfold nxE at he ⊢; rw [getD_cons, if_pos h1, ht] at he; rw [getD_cons, if_pos h1, t1]; exact he
  · by_cases h2 : isDigit c = true
    · have hn : nxN (c :: q) = ((c :: q).takeWhile isDigit).length := by unfold nxN; rw [getD_cons, if_neg h1, if_pos h2]
      have ht : (c :: q).takeWhile isDigit = c :: q.takeWhile isDigit := List.takeWhile_cons_of_pos h2
      obtain ⟨t1, t2⟩ := takeWhile_all (takeWhile_twice isDigit (c :: q))
      rw [ht] at t1 t2 hn
      refine ⟨q.takeWhile isDigit, by rw [hn, ← ht, takeWhile_take], ?_, ?_, ?_, hn.symm⟩
      · unfold nxK; rw [getD_cons, getD_cons, if_neg h1, if_neg h1, if_pos h2]
      · unfold nxN; rw [getD_cons, if_neg h1, if_pos h2, t1]
      · unfold nxE at he ⊢
        rw [getD_cons, if_neg h1, if_pos h2] at he ⊢
        unfold numE at he ⊢
        rw [t1, t2]
        rw [ht] at he
        split at he
        · cases he
        · rw [if_neg (by simp)]; exact he
    · by_cases h3 : anyTwo (c :: q) = true
      · have hl := anyTwo_len h3
        obtain ⟨d, q2, rfl⟩ : ∃ d q2, q = d :: q2 := by
          rcases q with _ | ⟨d, q2⟩
          · simp at hl
          · exact ⟨d, q2, rfl⟩
        have hn : nxN (c :: d :: q2) = 2 := by unfold nxN; rw [getD_cons, if_neg h1, if_neg h2, if_pos h3]
        have h4 : anyTwo [c, d] = true := by rw [← anyTwo_two c d q2]; exact h3
        refine ⟨[d], by rw [hn]; rfl, ?_, ?_, ?_, hn.symm⟩
        · unfold nxK; rw [getD_cons, getD_cons, if_neg h1, if_neg h1, if_neg h2]
        · unfold nxN; rw [getD_cons, if_neg h1, if_neg h2, if_pos h4]; rfl
        · unfold nxE sgE; rw [getD_cons, if_neg h1, if_neg h2, if_pos h4]
      · have hn : nxN (c :: q) = 1 := by unfold nxN; rw [getD_cons, if_neg h1, if_neg h2, if_neg h3]
        have h4 : ¬ anyTwo [c] = true := by simp [anyTwo, twoSigns, Lib.hasPrefix, List.isPrefixOf]
        refine ⟨[], by rw [hn]; rfl, ?_, ?_, ?_, hn.symm⟩
        · unfold nxK; rw [getD_cons, getD_cons, if_neg h1, if_neg h1, if_neg h2]
        · unfold nxN; rw [getD_cons, if_neg h1, if_neg h2, if_neg h4]; rfl
        · unfold nxE sgE at he ⊢; rw [getD_cons, if_neg h1, if_neg h2, if_neg h3] at he; rw [getD_cons, if_neg h1, if_neg h2, if_neg h4]; exact he
/-- What a piece alone is. -/
theorem nx_what {c : UInt8} {x : List UInt8} (he : nxE (c :: x) = 0) (hn : nxN (c :: x) = (c :: x).length) :
    1 ≤ nxK (c :: x) ∧ nxK (c :: x) ≤ 3 ∧ numOk (c :: x) = decide (nxK (c :: x) = 2) ∧ nameOk (c :: x) = decide (nxK (c :: x) = 1) := by
  have hnum : isDigit c = false → numOk (c :: x) = false := by
    intro h; unfold numOk allDigits; simp [h]
  have hname : ¬ isLetter c = true → nameOk (c :: x) = false := by
    intro h; unfold nameOk; rw [getD_cons]; simp [h]
  by_cases h1 : isLetter c = true
  · unfold nxN at hn; unfold nxE at he; unfold nxK
    rw [getD_cons, if_pos h1] at hn he ⊢
    by_cases h32 : 32 < ((c :: x).takeWhile isNamed).length
    · rw [if_pos h32] at he; cases he
    · rw [if_neg h32]
      refine ⟨by omega, by omega, by rw [hnum (letter_no_digit h1)]; rfl, ?_⟩
      have h5 := (takeWhile_full hn).2
      unfold nameOk
      rw [getD_cons, h1, h5, decide_eq_true (show (c :: x).length ≤ 32 by omega)]
      rfl
  · by_cases h2 : isDigit c = true
    · have hk : nxK (c :: x) = 2 := by unfold nxK; rw [getD_cons, if_neg h1, if_pos h2]
      unfold nxN at hn; unfold nxE at he
      rw [getD_cons, if_neg h1, if_pos h2] at hn he
      rw [hk]
      refine ⟨by omega, by omega, ?_, by rw [hname h1]; rfl⟩
      unfold numE at he
      rw [(takeWhile_full hn).1] at he
      split at he
      · cases he
      · split at he
        · cases he
        · split at he
          · rename_i h; rw [h]; rfl
          · cases he
    · have hk : nxK (c :: x) = 3 := by unfold nxK; rw [getD_cons, if_neg h1, if_neg h2]
      rw [hk]
      exact ⟨by omega, by omega, by rw [hnum (by simpa using h2)]; rfl, by rw [hname h1]; rfl⟩
/-- A name alone is one piece, and a number is. -/
theorem nx_name {c : UInt8} {x : List UInt8} (h : nameOk (c :: x) = true) : nxE (c :: x) = 0 ∧ nxN (c :: x) = (c :: x).length ∧ nxK (c :: x) = 1 := by
  unfold nameOk at h
  rw [getD_cons] at h
  simp only [Bool.and_eq_true, decide_eq_true_eq] at h
  obtain ⟨⟨⟨_, h2⟩, h1⟩, h3⟩ := h
  obtain ⟨t1, _⟩ := takeWhile_all h3
  refine ⟨?_, ?_, ?_⟩
  · unfold nxE; rw [getD_cons, if_pos h1, t1, if_neg (by omega)]
  · unfold nxN; rw [getD_cons, if_pos h1, t1]
  · unfold nxK; rw [getD_cons, if_pos h1, t1, if_neg (by omega)]
theorem nx_num {c : UInt8} {x : List UInt8} (h : numOk (c :: x) = true) : nxE (c :: x) = 0 ∧ nxN (c :: x) = (c :: x).length ∧ nxK (c :: x) = 2 := by
  have hk := h
  simp only [numOk, Bool.and_eq_true, decide_eq_true_eq, Bool.not_eq_true', Bool.and_eq_false_imp, decide_eq_false_iff_not] at h
  obtain ⟨⟨⟨_, h1⟩, h2⟩, _⟩ := h
  obtain ⟨t1, t2⟩ := takeWhile_all (p := isDigit) h2
  have hd : isDigit c = true := by unfold allDigits at h2; simp at h2; exact h2.1
  have hl : ¬ isLetter c = true := fun hl => by rw [letter_no_digit hl] at hd; cases hd
  refine ⟨?_, ?_, ?_⟩
  · unfold nxE; rw [getD_cons, if_neg hl, if_pos hd]
    unfold numE; rw [t1, t2, if_neg (by simp), if_neg (fun h => h1 h.1 (by simpa using h.2)), if_pos hk]
  · unfold nxN; rw [getD_cons, if_neg hl, if_pos hd, t1]
  · unfold nxK; rw [getD_cons, if_neg hl, if_pos hd]
theorem num_name {l : List UInt8} (h : numOk l = true) : nameOk l = false := by
  rcases l with _ | ⟨c, x⟩
  · rfl
  · obtain ⟨h1, h2, h3⟩ := nx_num h
    rw [(nx_what h1 h2).2.2.2, h3]; rfl
theorem num_nonneg (l : List UInt8) : 0 ≤ numV l := by
  unfold numV
  split
  · rename_i h
    simp only [numOk, Bool.and_eq_true, decide_eq_true_eq, Bool.not_eq_true', Bool.and_eq_false_imp, decide_eq_false_iff_not] at h
    exact numF_ge l h.1.2 0 (by omega)
  · omega
/-- One piece alone is one token. -/
theorem lex_one {s : List UInt8} (h : numOk s = true ∨ nameOk s = true) (hl : s.length ≤ 200) : lexR s = ([⟨if numOk s then 2 else 1, ⟨s.toArray⟩, 0⟩], s.length, 0) := by
  rcases s with _ | ⟨c, x⟩
  · rcases h with h | h <;> cases h
  · obtain ⟨h1, h2, h3⟩ : nxE (c :: x) = 0 ∧ nxN (c :: x) = (c :: x).length ∧ nxK (c :: x) = if numOk (c :: x) then 2 else 1 := by
      by_cases hn : numOk (c :: x) = true
      · obtain ⟨a, b, d⟩ := nx_num hn; exact ⟨a, b, by rw [if_pos hn]; exact d⟩
      · obtain ⟨a, b, d⟩ := nx_name (h.resolve_left hn); exact ⟨a, b, by rw [if_neg hn]; exact d⟩
    have hc : isNamed c = true := by
      rcases h with h | h
      · simp only [numOk, Bool.and_eq_true] at h
        have := h.1.2
        unfold allDigits at this
        simp at this
        exact named_digit this.1
      · unfold nameOk at h; rw [getD_cons] at h; simp only [Bool.and_eq_true] at h
        exact named_letter h.1.2
    have hcb : isBlank c = false ∧ c ≠ 35 := by
      unfold isNamed isLetter isDigit at hc
      simp only [Bool.or_eq_true, decide_eq_true_eq] at hc
      refine ⟨?_, ?_⟩
      · simp only [isBlank, decide_eq_false_iff_not]; omega
      · intro h; rw [h] at hc; exact absurd hc (by decide)
    have hq : skipC false (c :: x) = c :: x := skipC_stop hcb.1 hcb.2
    rw [lexR_O _ (by omega), lexO_step hq (by simp) h1, h2, List.drop_length]
    rw [show (c :: x).length = x.length + 1 from rfl, lexO_nil rfl]
    unfold glue1 stepTok
    rw [h2, h3, List.take_length]
    simp
end Go.Proofs.YtkpjhjoopdbkaaaGreatDoor
namespace Go.Proofs.YtkpjhjoopdbkaaaGreatDoor
theorem skipC_len2 (r : List UInt8) : (skipC false r).length ≤ r.length := skipC_len false r
/-- What a token of a text is. -/
def TokIs (l : List UInt8) (t : Tok) : Prop :=
  1 ≤ t.text.size ∧ t.at_ + t.text.size ≤ l.length ∧ t.text.data.toList = (l.drop t.at_).take t.text.size ∧ 1 ≤ t.kind ∧ t.kind ≤ 3 ∧ numOk t.text.data.toList = decide (t.kind = 2) ∧ nameOk t.text.data.toList = decide (t.kind = 1)
/-- Tokens that stand in order, from a place on. -/
def PlOk (l : List UInt8) : Nat → List Tok → Prop
  | _, [] => True
  | e, t :: ts => e ≤ t.at_ ∧ TokIs l t ∧ PlOk l (t.at_ + t.text.size) ts
theorem glue1_cases (t : Tok) (R : List Tok × Nat × Int) : (R.2.2 = 0 ∧ glue1 t R = (t :: R.1, R.2.1, 0)) ∨ (R.2.2 ≠ 0 ∧ glue1 t R = ([], R.2.1, R.2.2)) := by
  unfold glue1
  by_cases h : R.2.2 = 0
  · exact .inl ⟨h, if_pos h⟩
  · exact .inr ⟨h, if_neg h⟩
theorem step_text (k : Nat) (r : List UInt8) (c : UInt8) (q : List UInt8) (he : nxE (c :: q) = 0) :
    ∃ x, (stepTok k r (c :: q)).text.data.toList = c :: x ∧ (c :: q).take (nxN (c :: q)) = c :: x ∧ nxK (c :: x) = (stepTok k r (c :: q)).kind ∧ nxN (c :: x) = (c :: x).length ∧ nxE (c :: x) = 0 ∧ (stepTok k r (c :: q)).text.size = nxN (c :: q) ∧ (c :: x).length = nxN (c :: q) := by
  obtain ⟨x, h1, h2, h3, h4, h5⟩ := nx_take he
  refine ⟨x, h1, h1, h2, h3, h4, ?_, h5⟩
  rw [← h5, ← h1]; simp [stepTok, ByteArray.size]
theorem lexO_places (l : List UInt8) : ∀ (f k : Nat), k ≤ l.length → PlOk l k (lexO f k (l.drop k)).1 := by
  intro f
  induction f with
  | zero => intro k _; exact trivial
  | succ f ih =>
    intro k hk
    have hdl : (l.drop k).length = l.length - k := List.length_drop
    have hsl := skipC_len2 (l.drop k)
    have hsd := skipC_drop (l.drop k) false
    rcases hq : skipC false (l.drop k) with _ | ⟨c, q⟩
    · rw [lexO_nil hq]; exact trivial
    · rw [hq] at hsl hsd
      by_cases he : nxE (c :: q) = 0
      · rw [lexO_step hq (by simp) he]
        obtain ⟨x, t1, t2, t3, t4, t5, t6, t7⟩ := step_text k (l.drop k) c q he
        have hn := nx_pos c q
        have hp : (c :: q) = l.drop (k + ((l.drop k).length - (c :: q).length)) := by rw [← List.drop_drop]; exact hsd
        have hat : (stepTok k (l.drop k) (c :: q)).at_ = k + ((l.drop k).length - (c :: q).length) := rfl
        have hr : (c :: q).drop (nxN (c :: q)) = l.drop (k + ((l.drop k).length - (c :: q).length) + nxN (c :: q)) := by rw [← List.drop_drop, ← hp]
        rcases glue1_cases (stepTok k (l.drop k) (c :: q)) (lexO f (k + ((l.drop k).length - (c :: q).length) + nxN (c :: q)) ((c :: q).drop (nxN (c :: q)))) with ⟨_, h⟩ | ⟨_, h⟩
        · rw [h]
          obtain ⟨w1, w2, w3, w4⟩ := nx_what t5 t4
          refine ⟨by rw [hat]; omega, ⟨by rw [t6]; omega, by rw [t6, hat]; omega, ?_, by rw [← t3]; exact w1, by rw [← t3]; exact w2, by rw [t1, w3, t3], by rw [t1, w4, t3]⟩, ?_⟩
          · rw [t1, t6, hat, ← hp, t2]
          · rw [t6, hat, hr]
            exact ih _ (by omega)
        · rw [h]; exact trivial
      · rw [lexO_bad hq (by simp) he]; exact trivial
/-- Where a text that is no row of tokens goes wrong, and where it ends. -/
theorem lexO_at : ∀ (f k : Nat) (r : List UInt8), r.length < f → ((lexO f k r).2.2 = 0 → (lexO f k r).2.1 = k + r.length) ∧ ((lexO f k r).2.2 ≠ 0 → (lexO f k r).2.1 < k + r.length) ∧ (lexO f k r).1.length ≤ r.length ∧ (joinL (lexO f k r).1).length ≤ 2 * r.length := by
  intro f
  induction f with
  | zero => intro k r h; omega
  | succ f ih =>
    intro k r hf
    have hsl := skipC_len2 r
    rcases hq : skipC false r with _ | ⟨c, q⟩
    · rw [lexO_nil hq]; exact ⟨fun _ => rfl, fun h => absurd rfl h, by simp, by simp [joinL, tokTexts, Lib.join]⟩
    · rw [hq] at hsl
      have hc : (c :: q).length = q.length + 1 := rfl
      by_cases he : nxE (c :: q) = 0
      · rw [lexO_step hq (by simp) he]
        have hn := nx_pos c q
        obtain ⟨x, t1, t2, t3, t4, t5, t6, t7⟩ := step_text k r c q he
        have hd : ((c :: q).drop (nxN (c :: q))).length = (c :: q).length - nxN (c :: q) := List.length_drop
        obtain ⟨i1, i2, i3, i4⟩ := ih (k + (r.length - (c :: q).length) + nxN (c :: q)) ((c :: q).drop (nxN (c :: q))) (by omega)
        rcases glue1_cases (stepTok k r (c :: q)) (lexO f (k + (r.length - (c :: q).length) + nxN (c :: q)) ((c :: q).drop (nxN (c :: q)))) with ⟨h0, h⟩ | ⟨h0, h⟩
        · rw [h]
          generalize lexO f (k + (r.length - (c :: q).length) + nxN (c :: q)) ((c :: q).drop (nxN (c :: q))) = R at *
          refine ⟨fun _ => by rw [i1 h0]; omega, fun h => absurd rfl h, by simp; omega, ?_⟩
          have hj : (joinL (stepTok k r (c :: q) :: R.1)).length ≤ nxN (c :: q) + 1 + (joinL R.1).length := by
            rcases R.1 with _ | ⟨t, ts⟩
            · have : (joinL [stepTok k r (c :: q)]).length = nxN (c :: q) := by
                have : joinL [stepTok k r (c :: q)] = c :: x := by rw [← t1]; simp [joinL, tokTexts, Lib.join]
                rw [this, t7]
              omega
            · have : joinL (stepTok k r (c :: q) :: t :: ts) = (c :: x) ++ [32] ++ joinL (t :: ts) := by rw [← t1]; simp [joinL, tokTexts, Lib.join]
              rw [this, List.length_append, List.length_append, t7]
              simp
          show (joinL (stepTok k r (c :: q) :: R.1)).length ≤ 2 * r.length
          omega
        · rw [h]
          refine ⟨fun h => absurd h h0, fun h => ?_, by simp, by simp [joinL, tokTexts, Lib.join]⟩
          have := i2 h0
          show (lexO f (k + (r.length - (c :: q).length) + nxN (c :: q)) ((c :: q).drop (nxN (c :: q)))).2.1 < _
          omega
      · rw [lexO_bad hq (by simp) he]
        refine ⟨fun h => absurd h he, fun _ => ?_, by simp, by simp [joinL, tokTexts, Lib.join]⟩
        show k + (r.length - (c :: q).length) < _
        omega
end Go.Proofs.YtkpjhjoopdbkaaaGreatDoor
namespace Go.Proofs.YtkpjhjoopdbkaaaGreatDoor
def TokAlone (t : Tok) : Prop := ∃ c x, t.text.data.toList = c :: x ∧ nxE (c :: x) = 0 ∧ nxN (c :: x) = (c :: x).length ∧ nxK (c :: x) = t.kind ∧ isBlank c = false ∧ c ≠ 35
theorem lexO_alone : ∀ (f k : Nat) (r : List UInt8) (t : Tok), t ∈ (lexO f k r).1 → TokAlone t := by
  intro f
  induction f with
  | zero => intro k r t h; simp [lexO] at h
  | succ f ih =>
    intro k r t h
    rcases hq : skipC false r with _ | ⟨c, q⟩
    · rw [lexO_nil hq] at h; simp at h
    · by_cases he : nxE (c :: q) = 0
      · rw [lexO_step hq (by simp) he] at h
        rcases glue1_cases (stepTok k r (c :: q)) (lexO f (k + (r.length - (c :: q).length) + nxN (c :: q)) ((c :: q).drop (nxN (c :: q)))) with ⟨_, h2⟩ | ⟨_, h2⟩
        · rw [h2] at h
          rcases List.mem_cons.1 h with rfl | h
          · obtain ⟨x, t1, t2, t3, t4, t5, _⟩ := step_text k r c q he
            have := skipC_head r false c q hq
            exact ⟨c, x, t1, t5, t4, t3, this.1, this.2⟩
          · exact ih _ _ _ h
        · rw [h2] at h; simp at h
      · rw [lexO_bad hq (by simp) he] at h; simp at h
def Tok.key (t : Tok) : Int × ByteArray := (t.kind, t.text)
theorem lexO_blank {b : UInt8} (hb : isBlank b = true) (f k : Nat) (r : List UInt8) : lexO (f + 1) k (b :: r) = lexO (f + 1) (k + 1) r := by
  have e : skipC false (b :: r) = skipC false r := by simp [skipC, hb]
  have hl := skipC_len2 r
  rcases hq : skipC false r with _ | ⟨c, q⟩
  · rw [lexO_nil (e.trans hq), lexO_nil hq]; simp; omega
  · rw [hq] at hl
    have e2 : k + ((b :: r).length - (c :: q).length) = k + 1 + (r.length - (c :: q).length) := by
      have : (b :: r).length = r.length + 1 := rfl
      omega
    by_cases he : nxE (c :: q) = 0
    · rw [lexO_step (e.trans hq) (by simp) he, lexO_step hq (by simp) he]
      unfold stepTok
      rw [e2]
    · rw [lexO_bad (e.trans hq) (by simp) he, lexO_bad hq (by simp) he, e2]
/-- A piece alone, then an end or a blank. -/
theorem lexO_piece {t : Tok} (ht : TokAlone t) {tail : List UInt8} (hT : tail = [] ∨ ∃ b y, isBlank b = true ∧ tail = b :: y) (f k : Nat) :
    lexO (f + 1) k (t.text.data.toList ++ tail) = glue1 ⟨t.kind, t.text, k⟩ (lexO f (k + t.text.data.toList.length) tail) := by
  obtain ⟨c, x, h1, h2, h3, h4, h5, h6⟩ := ht
  rw [h1]
  have hn : nxK ((c :: x) ++ tail) = nxK (c :: x) ∧ nxN ((c :: x) ++ tail) = nxN (c :: x) ∧ nxE ((c :: x) ++ tail) = nxE (c :: x) := by
    rcases hT with rfl | ⟨b, y, hb, rfl⟩
    · rw [List.append_nil]; exact ⟨rfl, rfl, rfl⟩
    · exact nx_blank hb c x y
  obtain ⟨n1, n2, n3⟩ := hn
  have hq : skipC false ((c :: x) ++ tail) = (c :: x) ++ tail := skipC_stop h5 h6
  rw [lexO_step hq (by simp) (by rw [n3]; exact h2), n2, h3]
  have e1 : ((c :: x) ++ tail).drop (c :: x).length = tail := List.drop_left' rfl
  have e2 : ((c :: x) ++ tail).take (c :: x).length = c :: x := List.take_left' rfl
  rw [e1]
  unfold stepTok
  rw [n1, n2, h3, e2, h4, Nat.sub_self, Nat.add_zero]
  have e3 : (⟨(c :: x).toArray⟩ : ByteArray) = t.text := ByteArray.ext (Array.toList_inj.1 (by rw [h1]))
  rw [e3]
theorem joinL_cons2 (t u : Tok) (ts : List Tok) : joinL (t :: u :: ts) = t.text.data.toList ++ 32 :: joinL (u :: ts) := by simp [joinL, tokTexts, Lib.join]
theorem joinL_one (t : Tok) : joinL [t] = t.text.data.toList ++ [] := by simp [joinL, tokTexts, Lib.join]
theorem join_lex : ∀ (ts : List Tok), (∀ t ∈ ts, TokAlone t) → ∀ f k, (joinL ts).length < f → ∃ ms, lexO f k (joinL ts) = (ms, k + (joinL ts).length, 0) ∧ ms.map Tok.key = ts.map Tok.key := by
  intro ts
  induction ts with
  | nil =>
    intro _ f k hf
    obtain ⟨f, rfl⟩ : ∃ g, f = g + 1 := ⟨f - 1, by omega⟩
    exact ⟨[], lexO_nil rfl, rfl⟩
  | cons t ts ih =>
    intro hA f k hf
    obtain ⟨f, rfl⟩ : ∃ g, f = g + 1 := ⟨f - 1, by omega⟩
    have ha := hA t (by simp)
    have hpos : 0 < t.text.data.toList.length := by
      obtain ⟨c, x, h1, _⟩ := ha
      rw [h1]; simp
    rcases ts with _ | ⟨u, ts⟩
    · rw [joinL_one] at hf ⊢
      rw [lexO_piece ha (.inl rfl)]
      rw [List.append_nil] at hf ⊢
      obtain ⟨g, rfl⟩ : ∃ g, f = g + 1 := ⟨f - 1, by omega⟩
      rw [lexO_nil rfl]
      exact ⟨[⟨t.kind, t.text, k⟩], rfl, rfl⟩
    · rw [joinL_cons2] at hf ⊢
      rw [List.length_append, List.length_cons] at hf
      rw [lexO_piece ha (.inr ⟨32, _, rfl, rfl⟩)]
      obtain ⟨g, rfl⟩ : ∃ g, f = g + 1 := ⟨f - 1, by omega⟩
      rw [lexO_blank rfl]
      obtain ⟨ms, e1, e2⟩ := ih (fun v hv => hA v (by simp [hv])) (g + 1) (k + t.text.data.toList.length + 1) (by omega)
      rw [e1]
      refine ⟨⟨t.kind, t.text, k⟩ :: ms, ?_, by rw [List.map_cons, List.map_cons, e2]; rfl⟩
      unfold glue1
      rw [if_pos rfl, List.length_append, List.length_cons]
      have : k + t.text.data.toList.length + 1 + (joinL (u :: ts)).length = k + (t.text.data.toList.length + ((joinL (u :: ts)).length + 1)) := by omega
      rw [this]
theorem joinL_key {a b : List Tok} (h : a.map Tok.key = b.map Tok.key) : joinL a = joinL b := by
  have e : ∀ l : List Tok, tokTexts l = (l.map Tok.key).map (·.2) := by intro l; unfold tokTexts; rw [List.map_map]; rfl
  unfold joinL
  rw [e, e, h]
/-- THE STAGE's THEOREM. -/
theorem lex_join {s : List UInt8} (hs : s.length ≤ 4096) (h0 : (lexR s).2.2 = 0) :
    ∃ ms, lexR (joinL (lexR s).1) = (ms, (joinL (lexR s).1).length, 0) ∧ ms.map Tok.key = (lexR s).1.map Tok.key ∧ (lexR s).2.1 = s.length ∧ (lexR s).1.length ≤ 4096 ∧ (joinL (lexR s).1).length ≤ 8192 := by
  have e := lexR_O s (by omega)
  obtain ⟨a1, _, a3, a4⟩ := lexO_at (s.length + 1) 0 s (by omega)
  rw [e] at h0 ⊢
  obtain ⟨ms, m1, m2⟩ := join_lex (lexO (s.length + 1) 0 s).1 (lexO_alone _ _ _) ((joinL (lexO (s.length + 1) 0 s).1).length + 1) 0 (by omega)
  refine ⟨ms, ?_, m2, by rw [a1 h0]; omega, by omega, by omega⟩
  rw [lexR_O _ (by omega), m1, Nat.zero_add]
theorem lex_fail {s : List UInt8} (hs : s.length ≤ 4096) (h0 : (lexR s).2.2 ≠ 0) : (lexR s).1 = [] ∧ (lexR s).2.1 < s.length := by
  have e := lexR_O s (by omega)
  rw [e] at h0 ⊢
  have := (lexO_at (s.length + 1) 0 s (by omega)).2.1 h0
  exact ⟨lexO_err h0, by omega⟩
theorem key_at {a b : List Tok} (h : a.map Tok.key = b.map Tok.key) {k : Nat} (hk : k < b.length) : ∃ hk2 : k < a.length, a[k].kind = b[k].kind ∧ a[k].text = b[k].text := by
  have hl : a.length = b.length := by have := congrArg List.length h; simpa using this
  refine ⟨by omega, ?_⟩
  have h2 : (a.map Tok.key)[k]? = (b.map Tok.key)[k]? := by rw [h]
  rw [List.getElem?_map, List.getElem?_map, List.getElem?_eq_getElem (by omega), List.getElem?_eq_getElem hk] at h2
  simp [Tok.key] at h2
  exact h2
end Go.Proofs.YtkpjhjoopdbkaaaGreatDoor
namespace Go.Proofs.YtkpjhjoopdbkaaaGreatDoor
theorem skipC_app (x y : List UInt8) : ∀ b : Bool, skipC b (x ++ 10 :: y) = if skipC b x = [] then skipC false y else skipC b x ++ 10 :: y := by
  induction x with
  | nil => intro b; cases b <;> simp [skipC, isBlank, isInline]
  | cons c x ih =>
    intro b
    cases b
    · simp only [List.cons_append, skipC]
      split
      · exact ih false
      · split
        · exact ih true
        · simp
    · simp only [List.cons_append, skipC]
      split
      · exact ih true
      · exact ih false
theorem lexO_same {r r' : List UInt8} {k k' : Nat} (h : skipC false r = skipC false r') (hk : k + r.length = k' + r'.length) (f : Nat) : lexO (f + 1) k r = lexO (f + 1) k' r' := by
  have h1 := skipC_len2 r
  have h2 := skipC_len2 r'
  rcases hq : skipC false r' with _ | ⟨c, q⟩
  · rw [lexO_nil (h.trans hq), lexO_nil hq, hk]
  · rw [h, hq] at h1
    rw [hq] at h2
    have e : k + (r.length - (c :: q).length) = k' + (r'.length - (c :: q).length) := by omega
    by_cases he : nxE (c :: q) = 0
    · rw [lexO_step (h.trans hq) (by simp) he, lexO_step hq (by simp) he]
      unfold stepTok
      rw [e]
    · rw [lexO_bad (h.trans hq) (by simp) he, lexO_bad hq (by simp) he, e]
def two (A B : List Tok × Nat × Int) : List Tok × Nat × Int := if A.2.2 = 0 then (if B.2.2 = 0 then (A.1 ++ B.1, B.2.1, 0) else ([], B.2.1, B.2.2)) else ([], A.2.1, A.2.2)
theorem two_glue (t : Tok) (A B : List Tok × Nat × Int) : glue1 t (two A B) = two (glue1 t A) B := by
  unfold glue1 two
  by_cases hA : A.2.2 = 0
  · by_cases hB : B.2.2 = 0
    · simp [hA, hB]
    · simp [hA, hB]
  · simp [hA]
theorem two_nil {k f : Nat} {B : List Tok × Nat × Int} {r : List UInt8} {j : Nat} (hB : B = lexO f j r) : two ([], k, 0) B = B := by
  unfold two
  rw [if_pos rfl]
  split
  · rename_i h; rw [List.nil_append, ← h]
  · rename_i h
    have : B.1 = [] := by rw [hB] at h ⊢; exact lexO_err h
    rw [← this]
theorem lexO_two : ∀ (f k : Nat) (x : List UInt8), x.length < f → ∀ (y : List UInt8) (F g : Nat), (x ++ 10 :: y).length < F → y.length < g → lexO F k (x ++ 10 :: y) = two (lexO f k x) (lexO g (k + x.length + 1) y) := by
  intro f
  induction f with
  | zero => intro k x h; omega
  | succ f ih =>
    intro k x hf y F g hF hg
    have hlen : (x ++ 10 :: y).length = x.length + (y.length + 1) := by rw [List.length_append, List.length_cons]
    obtain ⟨F, rfl⟩ : ∃ G, F = G + 1 := ⟨F - 1, by omega⟩
    have hs := skipC_app x y false
    have hxl := skipC_len2 x
    rcases hq : skipC false x with _ | ⟨c, q⟩
    · rw [lexO_nil hq, two_nil (f := g) (j := k + x.length + 1) (r := y) rfl]
      rw [hq, if_pos rfl] at hs
      rw [lexO_same hs (k' := k + x.length + 1) (by omega), lexO_fuel (F + 1) g _ _ (by omega) hg]
    · rw [hq, if_neg (by simp)] at hs
      rw [hq] at hxl
      have hs2 : skipC false (x ++ 10 :: y) = c :: (q ++ 10 :: y) := hs
      obtain ⟨n1, n2, n3⟩ := nx_blank (b := 10) rfl c q y
      have n1 : nxK (c :: (q ++ 10 :: y)) = nxK (c :: q) := n1
      have n2 : nxN (c :: (q ++ 10 :: y)) = nxN (c :: q) := n2
      have n3 : nxE (c :: (q ++ 10 :: y)) = nxE (c :: q) := n3
      have hcl : (c :: (q ++ 10 :: y)).length = (c :: q).length + (y.length + 1) := by
        rw [List.length_cons, List.length_append, List.length_cons, List.length_cons]; omega
      have e1 : k + ((x ++ 10 :: y).length - (c :: (q ++ 10 :: y)).length) = k + (x.length - (c :: q).length) := by omega
      by_cases he : nxE (c :: q) = 0
      · have hn := nx_pos c q
        have hd : ((c :: q).drop (nxN (c :: q))).length = (c :: q).length - nxN (c :: q) := List.length_drop
        have d1 : (c :: (q ++ 10 :: y)).drop (nxN (c :: q)) = (c :: q).drop (nxN (c :: q)) ++ 10 :: y := by
          rw [show c :: (q ++ 10 :: y) = (c :: q) ++ 10 :: y from rfl, List.drop_append_of_le_length hn.2]
        have d2 : (c :: (q ++ 10 :: y)).take (nxN (c :: q)) = (c :: q).take (nxN (c :: q)) := by
          rw [show c :: (q ++ 10 :: y) = (c :: q) ++ 10 :: y from rfl, List.take_append_of_le_length hn.2]
        rw [lexO_step hs2 (by simp) (by rw [n3]; exact he), lexO_step hq (by simp) he, n2, e1, d1]
        rw [ih _ _ (by omega) y F g (by rw [List.length_append, List.length_cons]; omega) hg, two_glue]
        have e2 : stepTok k (x ++ 10 :: y) (c :: (q ++ 10 :: y)) = stepTok k x (c :: q) := by
          unfold stepTok
          rw [n1, n2, d2, e1]
        have e3 : k + (x.length - (c :: q).length) + nxN (c :: q) + ((c :: q).drop (nxN (c :: q))).length + 1 = k + x.length + 1 := by omega
        rw [e2, e3]
      · rw [lexO_bad hs2 (by simp) (by rw [n3]; exact he), lexO_bad hq (by simp) he, e1, n3]
        unfold two
        rw [if_neg he]
def Tok.move (d : Nat) (t : Tok) : Tok := ⟨t.kind, t.text, t.at_ + d⟩
def moved (d : Nat) (R : List Tok × Nat × Int) : List Tok × Nat × Int := (R.1.map (Tok.move d), R.2.1 + d, R.2.2)
theorem lexO_move (d : Nat) : ∀ (f k : Nat) (r : List UInt8), lexO f (k + d) r = moved d (lexO f k r) := by
  intro f
  induction f with
  | zero => intro k r; rfl
  | succ f ih =>
    intro k r
    rcases hq : skipC false r with _ | ⟨c, q⟩
    · rw [lexO_nil hq, lexO_nil hq]
      unfold moved
      simp; omega
    · have e : k + d + (r.length - (c :: q).length) = k + (r.length - (c :: q).length) + d := by omega
      by_cases he : nxE (c :: q) = 0
      · rw [lexO_step hq (by simp) he, lexO_step hq (by simp) he, e]
        have e2 : k + (r.length - (c :: q).length) + d + nxN (c :: q) = k + (r.length - (c :: q).length) + nxN (c :: q) + d := by omega
        rw [e2, ih]
        have e3 : stepTok (k + d) r (c :: q) = (stepTok k r (c :: q)).move d := by unfold stepTok Tok.move; rw [e]
        rw [e3]
        generalize lexO f _ _ = R
        unfold glue1 moved
        by_cases h0 : R.2.2 = 0
        · simp [h0]
        · simp [h0]
      · rw [lexO_bad hq (by simp) he, lexO_bad hq (by simp) he, e]
        rfl
theorem lex_two {s t : List UInt8} (hs : s.length ≤ 2048) (ht : t.length ≤ 2048) : lexR (s ++ 10 :: t) = two (lexR s) (moved (s.length + 1) (lexR t)) := by
  have hl : (s ++ 10 :: t).length = s.length + (t.length + 1) := by rw [List.length_append, List.length_cons]
  rw [lexR_O _ (by omega), lexR_O s (by omega), lexR_O t (by omega), ← lexO_move]
  rw [lexO_two (s.length + 1) 0 s (by omega) t _ (t.length + 1) (by omega) (by omega)]
  rw [show 0 + s.length + 1 = 0 + (s.length + 1) by omega]
theorem lex_at {s : List UInt8} (hs : s.length ≤ 4096) : (lexR s).1.length ≤ 4096 ∧ (lexR s).2.1 ≤ s.length := by
  rw [lexR_O s (by omega)]
  obtain ⟨a1, a2, a3, _⟩ := lexO_at (s.length + 1) 0 s (by omega)
  refine ⟨by omega, ?_⟩
  by_cases h : (lexO (s.length + 1) 0 s).2.2 = 0
  · have := a1 h; omega
  · have := a2 h; omega
theorem PlOk_mem {l : List UInt8} : ∀ (ts : List Tok) (e : Nat), PlOk l e ts → ∀ t ∈ ts, TokIs l t := by
  intro ts
  induction ts with
  | nil => intro e _ t h; simp at h
  | cons u ts ih =>
    intro e h t ht
    rcases List.mem_cons.1 ht with rfl | ht
    · exact h.2.1
    · exact ih _ h.2.2 t ht
theorem lex_tok_at {s : List UInt8} (hs : s.length ≤ 4096) : ∀ t ∈ (lexR s).1, t.at_ ≤ s.length := by
  intro t ht
  rw [lexR_O s (by omega)] at ht
  have := PlOk_mem _ _ (lexO_places s (s.length + 1) 0 (by omega)) t ht
  have := this.2.1
  omega
end Go.Proofs.YtkpjhjoopdbkaaaGreatDoor
