/- Plain law of package token: two texts, with a line feed between. -/
import Derived.Test.YtcbmaclhocdejaaDoorTokV
namespace Go.Proofs.YtcbmaclhocdejaaDoor
theorem skipC_app (x y : List UInt8) : ∀ b : Bool, skipC b (x ++ 10 :: y) = if skipC b x = [] then skipC false y else skipC b x ++ 10 :: y := by
  induction x with
  | nil => intro b; cases b <;> simp [skipC, isBlank, isInline]
  | cons c x ih =>
    intro b
    cases b
    · simp only [List.cons_append, skipC]
      split
      · exact ih false
      · split
        · exact ih true
        · simp
    · simp only [List.cons_append, skipC]
      split
      · exact ih true
      · exact ih false
theorem lexO_same {r r' : List UInt8} {k k' : Nat} (h : skipC false r = skipC false r') (hk : k + r.length = k' + r'.length) (f : Nat) : lexO (f + 1) k r = lexO (f + 1) k' r' := by
  have h1 := skipC_len2 r
  have h2 := skipC_len2 r'
  rcases hq : skipC false r' with _ | ⟨c, q⟩
  · rw [lexO_nil (h.trans hq), lexO_nil hq, hk]
  · rw [h, hq] at h1
    rw [hq] at h2
    have e : k + (r.length - (c :: q).length) = k' + (r'.length - (c :: q).length) := by omega
    by_cases he : nxE (c :: q) = 0
    · rw [lexO_step (h.trans hq) (by simp) he, lexO_step hq (by simp) he]
      unfold stepTok
      rw [e]
    · rw [lexO_bad (h.trans hq) (by simp) he, lexO_bad hq (by simp) he, e]
def two (A B : List Tok × Nat × Int) : List Tok × Nat × Int := if A.2.2 = 0 then (if B.2.2 = 0 then (A.1 ++ B.1, B.2.1, 0) else ([], B.2.1, B.2.2)) else ([], A.2.1, A.2.2)
theorem two_glue (t : Tok) (A B : List Tok × Nat × Int) : glue1 t (two A B) = two (glue1 t A) B := by
  unfold glue1 two
  by_cases hA : A.2.2 = 0
  · by_cases hB : B.2.2 = 0
    · simp [hA, hB]
    · simp [hA, hB]
  · simp [hA]
theorem two_nil {k f : Nat} {B : List Tok × Nat × Int} {r : List UInt8} {j : Nat} (hB : B = lexO f j r) : two ([], k, 0) B = B := by
  unfold two
  rw [if_pos rfl]
  split
  · rename_i h; rw [List.nil_append, ← h]
  · rename_i h
    have : B.1 = [] := by rw [hB] at h ⊢; exact lexO_err h
    rw [← this]
theorem lexO_two : ∀ (f k : Nat) (x : List UInt8), x.length < f → ∀ (y : List UInt8) (F g : Nat), (x ++ 10 :: y).length < F → y.length < g → lexO F k (x ++ 10 :: y) = two (lexO f k x) (lexO g (k + x.length + 1) y) := by
  intro f
  induction f with
  | zero => intro k x h; omega
  | succ f ih =>
    intro k x hf y F g hF hg
    have hlen : (x ++ 10 :: y).length = x.length + (y.length + 1) := by rw [List.length_append, List.length_cons]
    obtain ⟨F, rfl⟩ : ∃ G, F = G + 1 := ⟨F - 1, by omega⟩
    have hs := skipC_app x y false
    have hxl := skipC_len2 x
    rcases hq : skipC false x with _ | ⟨c, q⟩
    · rw [lexO_nil hq, two_nil (f := g) (j := k + x.length + 1) (r := y) rfl]
      rw [hq, if_pos rfl] at hs
      rw [lexO_same hs (k' := k + x.length + 1) (by omega), lexO_fuel (F + 1) g _ _ (by omega) hg]
    · rw [hq, if_neg (by simp)] at hs
      rw [hq] at hxl
      have hs2 : skipC false (x ++ 10 :: y) = c :: (q ++ 10 :: y) := hs
      obtain ⟨n1, n2, n3⟩ := nx_blank (b := 10) rfl c q y
      have n1 : nxK (c :: (q ++ 10 :: y)) = nxK (c :: q) := n1
      have n2 : nxN (c :: (q ++ 10 :: y)) = nxN (c :: q) := n2
      have n3 : nxE (c :: (q ++ 10 :: y)) = nxE (c :: q) := n3
      have hcl : (c :: (q ++ 10 :: y)).length = (c :: q).length + (y.length + 1) := by
        rw [List.length_cons, List.length_append, List.length_cons, List.length_cons]; omega
      have e1 : k + ((x ++ 10 :: y).length - (c :: (q ++ 10 :: y)).length) = k + (x.length - (c :: q).length) := by omega
      by_cases he : nxE (c :: q) = 0
      · have hn := nx_pos c q
        have hd : ((c :: q).drop (nxN (c :: q))).length = (c :: q).length - nxN (c :: q) := List.length_drop
        have d1 : (c :: (q ++ 10 :: y)).drop (nxN (c :: q)) = (c :: q).drop (nxN (c :: q)) ++ 10 :: y := by
          rw [show c :: (q ++ 10 :: y) = (c :: q) ++ 10 :: y from rfl, List.drop_append_of_le_length hn.2]
        have d2 : (c :: (q ++ 10 :: y)).take (nxN (c :: q)) = (c :: q).take (nxN (c :: q)) := by
          rw [show c :: (q ++ 10 :: y) = (c :: q) ++ 10 :: y from rfl, List.take_append_of_le_length hn.2]
        rw [lexO_step hs2 (by simp) (by rw [n3]; exact he), lexO_step hq (by simp) he, n2, e1, d1]
        rw [ih _ _ (by omega) y F g (by rw [List.length_append, List.length_cons]; omega) hg, two_glue]
        have e2 : stepTok k (x ++ 10 :: y) (c :: (q ++ 10 :: y)) = stepTok k x (c :: q) := by
          unfold stepTok
          rw [n1, n2, d2, e1]
        have e3 : k + (x.length - (c :: q).length) + nxN (c :: q) + ((c :: q).drop (nxN (c :: q))).length + 1 = k + x.length + 1 := by omega
        rw [e2, e3]
      · rw [lexO_bad hs2 (by simp) (by rw [n3]; exact he), lexO_bad hq (by simp) he, e1, n3]
        unfold two
        rw [if_neg he]
def Tok.move (d : Nat) (t : Tok) : Tok := ⟨t.kind, t.text, t.at_ + d⟩
def moved (d : Nat) (R : List Tok × Nat × Int) : List Tok × Nat × Int := (R.1.map (Tok.move d), R.2.1 + d, R.2.2)
theorem lexO_move (d : Nat) : ∀ (f k : Nat) (r : List UInt8), lexO f (k + d) r = moved d (lexO f k r) := by
  intro f
  induction f with
  | zero => intro k r; rfl
  | succ f ih =>
    intro k r
    rcases hq : skipC false r with _ | ⟨c, q⟩
    · rw [lexO_nil hq, lexO_nil hq]
      unfold moved
      simp; omega
    · have e : k + d + (r.length - (c :: q).length) = k + (r.length - (c :: q).length) + d := by omega
      by_cases he : nxE (c :: q) = 0
      · rw [lexO_step hq (by simp) he, lexO_step hq (by simp) he, e]
        have e2 : k + (r.length - (c :: q).length) + d + nxN (c :: q) = k + (r.length - (c :: q).length) + nxN (c :: q) + d := by omega
        rw [e2, ih]
        have e3 : stepTok (k + d) r (c :: q) = (stepTok k r (c :: q)).move d := by unfold stepTok Tok.move; rw [e]
        rw [e3]
        generalize lexO f _ _ = R
        unfold glue1 moved
        by_cases h0 : R.2.2 = 0
        · simp [h0]
        · simp [h0]
      · rw [lexO_bad hq (by simp) he, lexO_bad hq (by simp) he, e]
        rfl
theorem lex_two {s t : List UInt8} (hs : s.length ≤ 2048) (ht : t.length ≤ 2048) : lexR (s ++ 10 :: t) = two (lexR s) (moved (s.length + 1) (lexR t)) := by
  have hl : (s ++ 10 :: t).length = s.length + (t.length + 1) := by rw [List.length_append, List.length_cons]
  rw [lexR_O _ (by omega), lexR_O s (by omega), lexR_O t (by omega), ← lexO_move]
  rw [lexO_two (s.length + 1) 0 s (by omega) t _ (t.length + 1) (by omega) (by omega)]
  rw [show 0 + s.length + 1 = 0 + (s.length + 1) by omega]
theorem lex_at {s : List UInt8} (hs : s.length ≤ 4096) : (lexR s).1.length ≤ 4096 ∧ (lexR s).2.1 ≤ s.length := by
  rw [lexR_O s (by omega)]
  obtain ⟨a1, a2, a3, _⟩ := lexO_at (s.length + 1) 0 s (by omega)
  refine ⟨by omega, ?_⟩
  by_cases h : (lexO (s.length + 1) 0 s).2.2 = 0
  · have := a1 h; omega
  · have := a2 h; omega
theorem PlOk_mem {l : List UInt8} : ∀ (ts : List Tok) (e : Nat), PlOk l e ts → ∀ t ∈ ts, TokIs l t := by
  intro ts
  induction ts with
  | nil => intro e _ t h; simp at h
  | cons u ts ih =>
    intro e h t ht
    rcases List.mem_cons.1 ht with rfl | ht
    · exact h.2.1
    · exact ih _ h.2.2 t ht
theorem lex_tok_at {s : List UInt8} (hs : s.length ≤ 4096) : ∀ t ∈ (lexR s).1, t.at_ ≤ s.length := by
  intro t ht
  rw [lexR_O s (by omega)] at ht
  have := PlOk_mem _ _ (lexO_places s (s.length + 1) 0 (by omega)) t ht
  have := this.2.1
  omega
end Go.Proofs.YtcbmaclhocdejaaDoor
