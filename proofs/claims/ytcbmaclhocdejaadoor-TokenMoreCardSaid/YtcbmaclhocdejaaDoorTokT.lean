/- Plain law of package token: places, joined texts, two texts. -/
import Derived.Test.YtcbmaclhocdejaaDoorTokR
namespace Go.Proofs.YtcbmaclhocdejaaDoor
theorem skipC_len2 (r : List UInt8) : (skipC false r).length ≤ r.length := skipC_len false r
/-- What a token of a text is. -/
def TokIs (l : List UInt8) (t : Tok) : Prop :=
  1 ≤ t.text.size ∧ t.at_ + t.text.size ≤ l.length ∧ t.text.data.toList = (l.drop t.at_).take t.text.size ∧ 1 ≤ t.kind ∧ t.kind ≤ 3 ∧ numOk t.text.data.toList = decide (t.kind = 2) ∧ nameOk t.text.data.toList = decide (t.kind = 1)
/-- Tokens that stand in order, from a place on. -/
def PlOk (l : List UInt8) : Nat → List Tok → Prop
  | _, [] => True
  | e, t :: ts => e ≤ t.at_ ∧ TokIs l t ∧ PlOk l (t.at_ + t.text.size) ts
theorem glue1_cases (t : Tok) (R : List Tok × Nat × Int) : (R.2.2 = 0 ∧ glue1 t R = (t :: R.1, R.2.1, 0)) ∨ (R.2.2 ≠ 0 ∧ glue1 t R = ([], R.2.1, R.2.2)) := by
  unfold glue1
  by_cases h : R.2.2 = 0
  · exact .inl ⟨h, if_pos h⟩
  · exact .inr ⟨h, if_neg h⟩
theorem step_text (k : Nat) (r : List UInt8) (c : UInt8) (q : List UInt8) (he : nxE (c :: q) = 0) :
    ∃ x, (stepTok k r (c :: q)).text.data.toList = c :: x ∧ (c :: q).take (nxN (c :: q)) = c :: x ∧ nxK (c :: x) = (stepTok k r (c :: q)).kind ∧ nxN (c :: x) = (c :: x).length ∧ nxE (c :: x) = 0 ∧ (stepTok k r (c :: q)).text.size = nxN (c :: q) ∧ (c :: x).length = nxN (c :: q) := by
  obtain ⟨x, h1, h2, h3, h4, h5⟩ := nx_take he
  refine ⟨x, h1, h1, h2, h3, h4, ?_, h5⟩
  rw [← h5, ← h1]; simp [stepTok, ByteArray.size]
theorem lexO_places (l : List UInt8) : ∀ (f k : Nat), k ≤ l.length → PlOk l k (lexO f k (l.drop k)).1 := by
  intro f
  induction f with
  | zero => intro k _; exact trivial
  | succ f ih =>
    intro k hk
    have hdl : (l.drop k).length = l.length - k := List.length_drop
    have hsl := skipC_len2 (l.drop k)
    have hsd := skipC_drop (l.drop k) false
    rcases hq : skipC false (l.drop k) with _ | ⟨c, q⟩
    · rw [lexO_nil hq]; exact trivial
    · rw [hq] at hsl hsd
      by_cases he : nxE (c :: q) = 0
      · rw [lexO_step hq (by simp) he]
        obtain ⟨x, t1, t2, t3, t4, t5, t6, t7⟩ := step_text k (l.drop k) c q he
        have hn := nx_pos c q
        have hp : (c :: q) = l.drop (k + ((l.drop k).length - (c :: q).length)) := by rw [← List.drop_drop]; exact hsd
        have hat : (stepTok k (l.drop k) (c :: q)).at_ = k + ((l.drop k).length - (c :: q).length) := rfl
        have hr : (c :: q).drop (nxN (c :: q)) = l.drop (k + ((l.drop k).length - (c :: q).length) + nxN (c :: q)) := by rw [← List.drop_drop, ← hp]
        rcases glue1_cases (stepTok k (l.drop k) (c :: q)) (lexO f (k + ((l.drop k).length - (c :: q).length) + nxN (c :: q)) ((c :: q).drop (nxN (c :: q)))) with ⟨_, h⟩ | ⟨_, h⟩
        · rw [h]
          obtain ⟨w1, w2, w3, w4⟩ := nx_what t5 t4
          refine ⟨by rw [hat]; omega, ⟨by rw [t6]; omega, by rw [t6, hat]; omega, ?_, by rw [← t3]; exact w1, by rw [← t3]; exact w2, by rw [t1, w3, t3], by rw [t1, w4, t3]⟩, ?_⟩
          · rw [t1, t6, hat, ← hp, t2]
          · rw [t6, hat, hr]
            exact ih _ (by omega)
        · rw [h]; exact trivial
      · rw [lexO_bad hq (by simp) he]; exact trivial
/-- Where a text that is no row of tokens goes wrong, and where it ends. -/
theorem lexO_at : ∀ (f k : Nat) (r : List UInt8), r.length < f → ((lexO f k r).2.2 = 0 → (lexO f k r).2.1 = k + r.length) ∧ ((lexO f k r).2.2 ≠ 0 → (lexO f k r).2.1 < k + r.length) ∧ (lexO f k r).1.length ≤ r.length ∧ (joinL (lexO f k r).1).length ≤ 2 * r.length := by
  intro f
  induction f with
  | zero => intro k r h; omega
  | succ f ih =>
    intro k r hf
    have hsl := skipC_len2 r
    rcases hq : skipC false r with _ | ⟨c, q⟩
    · rw [lexO_nil hq]; exact ⟨fun _ => rfl, fun h => absurd rfl h, by simp, by simp [joinL, tokTexts, Lib.join]⟩
    · rw [hq] at hsl
      have hc : (c :: q).length = q.length + 1 := rfl
      by_cases he : nxE (c :: q) = 0
      · rw [lexO_step hq (by simp) he]
        have hn := nx_pos c q
        obtain ⟨x, t1, t2, t3, t4, t5, t6, t7⟩ := step_text k r c q he
        have hd : ((c :: q).drop (nxN (c :: q))).length = (c :: q).length - nxN (c :: q) := List.length_drop
        obtain ⟨i1, i2, i3, i4⟩ := ih (k + (r.length - (c :: q).length) + nxN (c :: q)) ((c :: q).drop (nxN (c :: q))) (by omega)
        rcases glue1_cases (stepTok k r (c :: q)) (lexO f (k + (r.length - (c :: q).length) + nxN (c :: q)) ((c :: q).drop (nxN (c :: q)))) with ⟨h0, h⟩ | ⟨h0, h⟩
        · rw [h]
          generalize lexO f (k + (r.length - (c :: q).length) + nxN (c :: q)) ((c :: q).drop (nxN (c :: q))) = R at *
          refine ⟨fun _ => by rw [i1 h0]; omega, fun h => absurd rfl h, by simp; omega, ?_⟩
          have hj : (joinL (stepTok k r (c :: q) :: R.1)).length ≤ nxN (c :: q) + 1 + (joinL R.1).length := by
            rcases R.1 with _ | ⟨t, ts⟩
            · have : (joinL [stepTok k r (c :: q)]).length = nxN (c :: q) := by
                have : joinL [stepTok k r (c :: q)] = c :: x := by rw [← t1]; simp [joinL, tokTexts, Lib.join]
                rw [this, t7]
              omega
            · have : joinL (stepTok k r (c :: q) :: t :: ts) = (c :: x) ++ [32] ++ joinL (t :: ts) := by rw [← t1]; simp [joinL, tokTexts, Lib.join]
              rw [this, List.length_append, List.length_append, t7]
              simp
          show (joinL (stepTok k r (c :: q) :: R.1)).length ≤ 2 * r.length
          omega
        · rw [h]
          refine ⟨fun h => absurd h h0, fun h => ?_, by simp, by simp [joinL, tokTexts, Lib.join]⟩
          have := i2 h0
          show (lexO f (k + (r.length - (c :: q).length) + nxN (c :: q)) ((c :: q).drop (nxN (c :: q)))).2.1 < _
          omega
      · rw [lexO_bad hq (by simp) he]
        refine ⟨fun h => absurd h he, fun _ => ?_, by simp, by simp [joinL, tokTexts, Lib.join]⟩
        show k + (r.length - (c :: q).length) < _
        omega
end Go.Proofs.YtcbmaclhocdejaaDoor
