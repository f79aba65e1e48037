/- Plain law of package token: what is joined is cut into the same tokens. -/
import Derived.Test.YtcbmaclhocdejaaDoorTokT
namespace Go.Proofs.YtcbmaclhocdejaaDoor
def TokAlone (t : Tok) : Prop := ∃ c x, t.text.data.toList = c :: x ∧ nxE (c :: x) = 0 ∧ nxN (c :: x) = (c :: x).length ∧ nxK (c :: x) = t.kind ∧ isBlank c = false ∧ c ≠ 35
theorem lexO_alone : ∀ (f k : Nat) (r : List UInt8) (t : Tok), t ∈ (lexO f k r).1 → TokAlone t := by
  intro f
  induction f with
  | zero => intro k r t h; simp [lexO] at h
  | succ f ih =>
    intro k r t h
    rcases hq : skipC false r with _ | ⟨c, q⟩
    · rw [lexO_nil hq] at h; simp at h
    · by_cases he : nxE (c :: q) = 0
      · rw [lexO_step hq (by simp) he] at h
        rcases glue1_cases (stepTok k r (c :: q)) (lexO f (k + (r.length - (c :: q).length) + nxN (c :: q)) ((c :: q).drop (nxN (c :: q)))) with ⟨_, h2⟩ | ⟨_, h2⟩
        · rw [h2] at h
          rcases List.mem_cons.1 h with rfl | h
          · obtain ⟨x, t1, t2, t3, t4, t5, _⟩ := step_text k r c q he
            have := skipC_head r false c q hq
            exact ⟨c, x, t1, t5, t4, t3, this.1, this.2⟩
          · exact ih _ _ _ h
        · rw [h2] at h; simp at h
      · rw [lexO_bad hq (by simp) he] at h; simp at h
def Tok.key (t : Tok) : Int × ByteArray := (t.kind, t.text)
theorem lexO_blank {b : UInt8} (hb : isBlank b = true) (f k : Nat) (r : List UInt8) : lexO (f + 1) k (b :: r) = lexO (f + 1) (k + 1) r := by
  have e : skipC false (b :: r) = skipC false r := by simp [skipC, hb]
  have hl := skipC_len2 r
  rcases hq : skipC false r with _ | ⟨c, q⟩
  · rw [lexO_nil (e.trans hq), lexO_nil hq]; simp; omega
  · rw [hq] at hl
    have e2 : k + ((b :: r).length - (c :: q).length) = k + 1 + (r.length - (c :: q).length) := by
      have : (b :: r).length = r.length + 1 := rfl
      omega
    by_cases he : nxE (c :: q) = 0
    · rw [lexO_step (e.trans hq) (by simp) he, lexO_step hq (by simp) he]
      unfold stepTok
      rw [e2]
    · rw [lexO_bad (e.trans hq) (by simp) he, lexO_bad hq (by simp) he, e2]
/-- A piece alone, then an end or a blank. -/
theorem lexO_piece {t : Tok} (ht : TokAlone t) {tail : List UInt8} (hT : tail = [] ∨ ∃ b y, isBlank b = true ∧ tail = b :: y) (f k : Nat) :
    lexO (f + 1) k (t.text.data.toList ++ tail) = glue1 ⟨t.kind, t.text, k⟩ (lexO f (k + t.text.data.toList.length) tail) := by
  obtain ⟨c, x, h1, h2, h3, h4, h5, h6⟩ := ht
  rw [h1]
  have hn : nxK ((c :: x) ++ tail) = nxK (c :: x) ∧ nxN ((c :: x) ++ tail) = nxN (c :: x) ∧ nxE ((c :: x) ++ tail) = nxE (c :: x) := by
    rcases hT with rfl | ⟨b, y, hb, rfl⟩
    · rw [List.append_nil]; exact ⟨rfl, rfl, rfl⟩
    · exact nx_blank hb c x y
  obtain ⟨n1, n2, n3⟩ := hn
  have hq : skipC false ((c :: x) ++ tail) = (c :: x) ++ tail := skipC_stop h5 h6
  rw [lexO_step hq (by simp) (by rw [n3]; exact h2), n2, h3]
  have e1 : ((c :: x) ++ tail).drop (c :: x).length = tail := List.drop_left' rfl
  have e2 : ((c :: x) ++ tail).take (c :: x).length = c :: x := List.take_left' rfl
  rw [e1]
  unfold stepTok
  rw [n1, n2, h3, e2, h4, Nat.sub_self, Nat.add_zero]
  have e3 : (⟨(c :: x).toArray⟩ : ByteArray) = t.text := ByteArray.ext (Array.toList_inj.1 (by rw [h1]))
  rw [e3]
theorem joinL_cons2 (t u : Tok) (ts : List Tok) : joinL (t :: u :: ts) = t.text.data.toList ++ 32 :: joinL (u :: ts) := by simp [joinL, tokTexts, Lib.join]
theorem joinL_one (t : Tok) : joinL [t] = t.text.data.toList ++ [] := by simp [joinL, tokTexts, Lib.join]
theorem join_lex : ∀ (ts : List Tok), (∀ t ∈ ts, TokAlone t) → ∀ f k, (joinL ts).length < f → ∃ ms, lexO f k (joinL ts) = (ms, k + (joinL ts).length, 0) ∧ ms.map Tok.key = ts.map Tok.key := by
  intro ts
  induction ts with
  | nil =>
    intro _ f k hf
    obtain ⟨f, rfl⟩ : ∃ g, f = g + 1 := ⟨f - 1, by omega⟩
    exact ⟨[], lexO_nil rfl, rfl⟩
  | cons t ts ih =>
    intro hA f k hf
    obtain ⟨f, rfl⟩ : ∃ g, f = g + 1 := ⟨f - 1, by omega⟩
    have ha := hA t (by simp)
    have hpos : 0 < t.text.data.toList.length := by
      obtain ⟨c, x, h1, _⟩ := ha
      rw [h1]; simp
    rcases ts with _ | ⟨u, ts⟩
    · rw [joinL_one] at hf ⊢
      rw [lexO_piece ha (.inl rfl)]
      rw [List.append_nil] at hf ⊢
      obtain ⟨g, rfl⟩ : ∃ g, f = g + 1 := ⟨f - 1, by omega⟩
      rw [lexO_nil rfl]
      exact ⟨[⟨t.kind, t.text, k⟩], rfl, rfl⟩
    · rw [joinL_cons2] at hf ⊢
      rw [List.length_append, List.length_cons] at hf
      rw [lexO_piece ha (.inr ⟨32, _, rfl, rfl⟩)]
      obtain ⟨g, rfl⟩ : ∃ g, f = g + 1 := ⟨f - 1, by omega⟩
      rw [lexO_blank rfl]
      obtain ⟨ms, e1, e2⟩ := ih (fun v hv => hA v (by simp [hv])) (g + 1) (k + t.text.data.toList.length + 1) (by omega)
      rw [e1]
      refine ⟨⟨t.kind, t.text, k⟩ :: ms, ?_, by rw [List.map_cons, List.map_cons, e2]; rfl⟩
      unfold glue1
      rw [if_pos rfl, List.length_append, List.length_cons]
      have : k + t.text.data.toList.length + 1 + (joinL (u :: ts)).length = k + (t.text.data.toList.length + ((joinL (u :: ts)).length + 1)) := by omega
      rw [this]
theorem joinL_key {a b : List Tok} (h : a.map Tok.key = b.map Tok.key) : joinL a = joinL b := by
  have e : ∀ l : List Tok, tokTexts l = (l.map Tok.key).map (·.2) := by intro l; unfold tokTexts; rw [List.map_map]; rfl
  unfold joinL
  rw [e, e, h]
/-- THE STAGE's THEOREM. -/
theorem lex_join {s : List UInt8} (hs : s.length ≤ 4096) (h0 : (lexR s).2.2 = 0) :
    ∃ ms, lexR (joinL (lexR s).1) = (ms, (joinL (lexR s).1).length, 0) ∧ ms.map Tok.key = (lexR s).1.map Tok.key ∧ (lexR s).2.1 = s.length ∧ (lexR s).1.length ≤ 4096 ∧ (joinL (lexR s).1).length ≤ 8192 := by
  have e := lexR_O s (by omega)
  obtain ⟨a1, _, a3, a4⟩ := lexO_at (s.length + 1) 0 s (by omega)
  rw [e] at h0 ⊢
  obtain ⟨ms, m1, m2⟩ := join_lex (lexO (s.length + 1) 0 s).1 (lexO_alone _ _ _) ((joinL (lexO (s.length + 1) 0 s).1).length + 1) 0 (by omega)
  refine ⟨ms, ?_, m2, by rw [a1 h0]; omega, by omega, by omega⟩
  rw [lexR_O _ (by omega), m1, Nat.zero_add]
theorem lex_fail {s : List UInt8} (hs : s.length ≤ 4096) (h0 : (lexR s).2.2 ≠ 0) : (lexR s).1 = [] ∧ (lexR s).2.1 < s.length := by
  have e := lexR_O s (by omega)
  rw [e] at h0 ⊢
  have := (lexO_at (s.length + 1) 0 s (by omega)).2.1 h0
  exact ⟨lexO_err h0, by omega⟩
theorem key_at {a b : List Tok} (h : a.map Tok.key = b.map Tok.key) {k : Nat} (hk : k < b.length) : ∃ hk2 : k < a.length, a[k].kind = b[k].kind ∧ a[k].text = b[k].text := by
  have hl : a.length = b.length := by have := congrArg List.length h; simpa using this
  refine ⟨by omega, ?_⟩
  have h2 : (a.map Tok.key)[k]? = (b.map Tok.key)[k]? := by rw [h]
  rw [List.getElem?_map, List.getElem?_map, List.getElem?_eq_getElem (by omega), List.getElem?_eq_getElem hk] at h2
  simp [Tok.key] at h2
  exact h2
end Go.Proofs.YtcbmaclhocdejaaDoor
