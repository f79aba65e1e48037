/- Joined: Plain: an expression's text is parsed as it was. -/
import Derived.Test.YtkpjhjoopdbkaaaGreatDoorG33
namespace Go.Proofs.YtkpjhjoopdbkaaaGreatDoor
theorem spine {K : List Kt} {names : List ByteArray} (hN : NmOk names) : ∀ (N : Nat) (t : Tr), t.sz ≤ N → partsT names.length t = true → plainT t = true → Real t → ∀ F, 2 * depthT t ≤ F → Spine K names t F
  | 0, t, hsz, _, _, _, _, _ => by have := t.sz_pos; omega
  | N + 1, t, hsz, hp, hpl, hR, F, hF => by
    have IH : ∀ j, j < t.kids.length → ∀ F, 2 * depthT (t.kids.getD j default) ≤ F → Spine K names (t.kids.getD j default) F := fun j hj F hF => by
      rw [partsT_eq, Bool.and_eq_true] at hp
      rw [plainT_eq, Bool.and_eq_true] at hpl
      have hk := Tr.kid_lt hj
      exact spine hN N _ (by omega) (partsL_at hp.2 hj) (plainL_at hpl.1 hj) (hR.kid hj) F hF
    -- a kid's operation is known
    have KN : ∀ j, j < t.kids.length → (t.kids.getD j default).kind = 5 → 1 ≤ strI (t.kids.getD j default).num ∧ strI (t.kids.getD j default).num ≤ 5 := fun j hj h5 => by
      rw [partsT_eq, Bool.and_eq_true] at hp
      have h := partsL_at hp.2 hj
      rw [partsT_eq, Bool.and_eq_true] at h
      rcases ok_cases h.1 with ⟨q, _⟩ | ⟨q, _⟩ | ⟨q, _⟩ | ⟨q, _⟩ | ⟨_, _, hk⟩ | ⟨q, _⟩
      · omega
      · omega
      · omega
      · omega
      · exact (op_facts hk).2.2
      · omega
    have DL : ∀ j, j < t.kids.length → depthT (t.kids.getD j default) + 1 ≤ depthT t := fun j hj => by
      have h1 := depthL_at hj
      have h2 := depthT_eq t
      omega
    rw [partsT_eq, Bool.and_eq_true] at hp
    rw [plainT_eq, Bool.and_eq_true] at hpl
    obtain ⟨hi1, hi2⟩ := hR.num
    have hd1 : 1 ≤ depthT t := by rw [depthT_eq]; omega
    obtain ⟨G, rfl⟩ : ∃ G, F = G + 1 := ⟨F - 1, by omega⟩
    have hT := toksT_eq names t
    have hC := cleanT_eq t
    obtain ⟨k, hk⟩ : ∃ k, k = t.kind := ⟨_, rfl⟩
    obtain ⟨n, hn⟩ : ∃ n, n = t.num := ⟨_, rfl⟩
    rw [← hk, ← hn] at hp hpl hT hC
    rw [← hn] at hi2
    -- it is enough to read a part
    have enough : k ≠ 5 → (∀ s r, Hd_ K names s (toksT names t) r → (exprsP K (G + 1)).1 s = (cleanT t, adv s (toksT names t).length)) → Spine K names t (G + 1) := fun h5 hu =>
      ⟨fun _ => hu, fun st s r h _ => ⟨G, rfl, un_loop (hu s r h)⟩⟩
    rcases ok_cases hp.1 with ⟨rfl, hm⟩ | ⟨rfl, hm, n0, n1⟩ | ⟨rfl, hm⟩ | ⟨rfl, hm⟩ | ⟨rfl, hm, hkn⟩ | ⟨rfl, hm⟩
    · -- a number
      refine enough (by decide) fun s r h => ?_
      have n0 : 0 ≤ n := by simpa using hpl.2
      obtain ⟨o1, o2⟩ := itoa_num n0 hi2.2
      have e2 : toksN names 1 n (toksL names t.kids) = [(2, ⟨(Lib.itoa n).toArray⟩)] := by unfold toksN; rw [if_pos rfl]
      rw [hT, e2] at h ⊢
      rw [hC, List.length_eq_zero_iff.1 hm, if_pos (.inl rfl)]
      have hs := sees_num h
      have hnx := h.next
      have hb : numB K s = true := by
        unfold numB; rw [hnx]
        simp [o1]
      show unaryP K (exprsP K G).2 (exprsP K G).1 s = _
      unfold unaryP
      rw [take_no (z := minusT) hs (by decide), take_no (z := ⟨#[33]⟩) hs (by decide), take_no (z := ⟨#[40]⟩) hs (by decide), take_no (z := ⟨#[105, 102]⟩) hs (by decide)]
      simp only [Bool.false_eq_true, if_false]
      rw [if_pos (by rw [hnx])]
      have hv : numbV K s = n := by unfold numbV; rw [if_pos hb, hnx]; simpa using o2
      have hss : numbS K s = stepP s := by unfold numbS; rw [if_pos hb]
      rw [hv, hss]
      rfl
    · -- a variable
      refine enough (by decide) fun s r h => ?_
      have hlt : n.toNat < names.length := by omega
      have hmem : names.getD n.toNat ⟨#[]⟩ ∈ names := by rw [List.getD, List.getElem?_eq_getElem hlt]; exact List.getElem_mem hlt
      obtain ⟨_, o2⟩ := hN.ok _ hmem
      have hf := find_at hN.nodup hlt
      obtain ⟨x, hx⟩ : ∃ x, x = names.getD n.toNat ⟨#[]⟩ := ⟨_, rfl⟩
      rw [← hx] at o2 hf
      have e2 : toksN names 2 n (toksL names t.kids) = [(1, x)] := by unfold toksN; rw [if_neg (by decide), if_pos rfl, ← hx]
      rw [hT, e2] at h ⊢
      rw [hC, List.length_eq_zero_iff.1 hm, if_pos (.inr (.inl rfl))]
      have hs := sees_name o2 h
      have hnx := h.next
      show unaryP K (exprsP K G).2 (exprsP K G).1 s = _
      unfold unaryP
      rw [take_no (z := minusT) hs (by decide), take_no (z := ⟨#[33]⟩) hs (by decide), take_no (z := ⟨#[40]⟩) hs (by decide), take_no (z := ⟨#[105, 102]⟩) hs (by decide)]
      simp only [Bool.false_eq_true, if_false]
      rw [if_neg (by rw [hnx]; simp)]
      have hb : nameB K s = true := by unfold nameB; rw [hnx]; simp [o2]
      have hv : nameV K s = x := by unfold nameV; rw [if_pos hb, hnx]
      have hfv : findVar s (nameV K s) = n := by unfold findVar; rw [h.vars, hv, hf]; omega
      have e1 : knownV K (findVar s) s = n := by unfold knownV; rw [hfv, hb, decide_eq_true n0]; rfl
      have e3 : knownS K (findVar s) s = stepP s := by unfold knownS; rw [if_pos hb, hfv, if_neg (by omega)]
      rw [e1, e3]
      rfl
    · -- minus
      refine enough (by decide) fun s r h => ?_
      have e2 : toksN names 3 n (toksL names t.kids) = (3, ⟨#[45]⟩) :: kidK (toksL names t.kids) 0 9 := by unfold toksN; rw [if_neg (by decide), if_neg (by decide), if_pos rfl]
      rw [hT, e2] at h ⊢
      have hj : 0 < t.kids.length := by omega
      have hdl := DL 0 hj
      have hu := kid_unary (K := K) (names := names) (F := G) hj (σ := 9) (fun q => ⟨by have := KN 0 hj q; omega, by have := KN 0 hj q; omega⟩) (by omega) (fun _ => IH 0 hj G (by omega)) (fun _ => IH 0 hj (G - 1) (by omega)) h.step
      have hs := sees_sign h
      show unaryP K (exprsP K G).2 (exprsP K G).1 s = _
      unfold unaryP
      rw [if_pos (show takeB K minusT s = true from take_yes hs), hu, hC, if_neg (by decide), cleanL_map, list_one hm]
      simp only [step_adv, List.length_cons, List.map_cons, List.map_nil]
      rfl
    · -- not
      refine enough (by decide) fun s r h => ?_
      have e2 : toksN names 4 n (toksL names t.kids) = (3, ⟨#[33]⟩) :: kidK (toksL names t.kids) 0 9 := by unfold toksN; rw [if_neg (by decide), if_neg (by decide), if_neg (by decide), if_pos rfl]
      rw [hT, e2] at h ⊢
      have hj : 0 < t.kids.length := by omega
      have hdl := DL 0 hj
      have hu := kid_unary (K := K) (names := names) (F := G) hj (σ := 9) (fun q => ⟨by have := KN 0 hj q; omega, by have := KN 0 hj q; omega⟩) (by omega) (fun _ => IH 0 hj G (by omega)) (fun _ => IH 0 hj (G - 1) (by omega)) h.step
      have hs := sees_sign h
      show unaryP K (exprsP K G).2 (exprsP K G).1 s = _
      unfold unaryP
      rw [take_no (z := minusT) hs (by decide), if_neg (by decide), if_pos (take_yes hs), hu, hC, if_neg (by decide), cleanL_map, list_one hm]
      simp only [step_adv, List.length_cons, List.map_cons, List.map_nil]
      rfl
    · -- an operation
      refine ⟨fun h => absurd hk.symm h, fun st s r h hc => ⟨G, rfl, ?_⟩⟩
      obtain ⟨hst, hse⟩ := hc hk.symm
      rw [← hn] at hst hse
      have e2 : toksN names 5 n (toksL names t.kids) = kidK (toksL names t.kids) 0 (strI n) ++ (3, signOf n) :: kidK (toksL names t.kids) 1 (strI n + 1) := by
        unfold toksN; rw [if_neg (by decide), if_neg (by decide), if_neg (by decide), if_neg (by decide), if_pos rfl]
      rw [hT, e2] at h hse ⊢
      obtain ⟨f1, f2, f3, f4⟩ := op_facts hkn
      have j0 : 0 < t.kids.length := by omega
      have j1 : 1 < t.kids.length := by omega
      have d0 := DL 0 j0
      have d1 := DL 1 j1
      have a0 := IH 0 j0
      have a1 := IH 1 j1
      have k0 := KN 0 j0
      have k1 := KN 1 j1
      obtain ⟨la, hla⟩ : ∃ l, l = kidK (toksL names t.kids) 0 (strI n) := ⟨_, rfl⟩
      obtain ⟨lb, hlb⟩ : ∃ l, l = kidK (toksL names t.kids) 1 (strI n + 1) := ⟨_, rfl⟩
      have hla2 := kidK_at (names := names) j0 (strI n)
      have hlb2 := kidK_at (names := names) j1 (strI n + 1)
      rw [← hla] at h hse hla2 ⊢
      rw [← hlb] at h hse hlb2 ⊢
      -- the left kid
      have hL : (exprsP K (G + 1)).2 st s = loopP K (exprsP K G).2 st (K.length + 1) (cleanT (t.kids.getD 0 default)) (adv s la.length) := by
        by_cases q : (t.kids.getD 0 default).kind = 5 ∧ ¬ strI (t.kids.getD 0 default).num < strI n
        · rw [if_neg (fun z => q.2 z.2)] at hla2
          rw [hla2] at h ⊢
          have hs1 : seesP K (adv s (toksT names (t.kids.getD 0 default)).length) = signOf n := sees_sign h.go
          have hsg : signB K (strI (t.kids.getD 0 default).num) (adv s (toksT names (t.kids.getD 0 default)).length) = false := by
            unfold signB
            rw [hs1, f2, decide_eq_false q.2, Bool.and_false]
          obtain ⟨G', eG, e⟩ := (a0 (G + 1) (by omega)).ex st s _ h.app (fun _ => ⟨by omega, hsg⟩)
          obtain rfl : G' = G := by omega
          exact e
        · have hu := kid_unary (K := K) (names := names) (F := G + 1) j0 (σ := strI n) (fun z => ⟨by
              rcases Decidable.em (strI (t.kids.getD 0 default).num < strI n) with y | y
              · exact y
              · exact absurd ⟨z, y⟩ q, by have := k0 z; omega⟩) (by omega) (fun _ => a0 (G + 1) (by omega)) (fun _ => a0 (G + 1 - 1) (by omega)) (s := s) (by rw [← hla]; exact h.app)
          rw [← hla] at hu
          rw [un_loop hu]
      rw [hL]
      -- the operation
      have h1 := h.go
      have hs1 := sees_sign h1
      have hsg : signB K st (adv s la.length) = true := by
        unfold signB
        rw [hs1, f1, f2, decide_eq_true hst]; rfl
      have h2 := h1.step
      rw [loopP, hsg, if_pos rfl, hs1, f2]
      -- the right kid
      have hend : adv (stepP (adv s la.length)) lb.length = adv s (la ++ (3, signOf n) :: lb).length := by
        rw [adv_step, adv_adv, List.length_append, List.length_cons]
        congr 1
        omega
      have hse2 : signB K (strI n) (adv (stepP (adv s la.length)) lb.length) = false := by rw [hend]; exact hse
      have hRt : (exprsP K G).2 (strI n) (stepP (adv s la.length)) = (cleanT (t.kids.getD 1 default), adv (stepP (adv s la.length)) lb.length) := by
        obtain ⟨g, rfl⟩ : ∃ g, G = g + 1 := ⟨G - 1, by omega⟩
        by_cases q : (t.kids.getD 1 default).kind = 5 ∧ ¬ strI (t.kids.getD 1 default).num < strI n + 1
        · rw [if_neg (fun z => q.2 z.2)] at hlb2
          rw [hlb2] at h2 hse2 ⊢
          obtain ⟨g', eg, e⟩ := (a1 (g + 1) (by omega)).ex (strI n) _ _ h2 (fun _ => ⟨by have := q.2; omega, sign_mono hse2 (by have := q.2; omega)⟩)
          rw [e]
          exact loop_end hse2 _ _
        · have hu := kid_unary (K := K) (names := names) (F := g + 1) j1 (σ := strI n + 1) (fun z => ⟨by
              rcases Decidable.em (strI (t.kids.getD 1 default).num < strI n + 1) with y | y
              · exact y
              · exact absurd ⟨z, y⟩ q, by have := k1 z; omega⟩) (by omega) (fun _ => a1 (g + 1) (by omega)) (fun _ => a1 (g + 1 - 1) (by omega)) (s := stepP (adv s la.length)) (by rw [← hlb]; exact h2)
          rw [← hlb] at hu
          rw [un_loop hu]
          exact loop_end hse2 _ _
      rw [hRt]
      simp only
      have hle := h.le (by simp)
      have hcl : cleanT t = .mk 5 n [cleanT (t.kids.getD 0 default), cleanT (t.kids.getD 1 default)] := by
        rw [hC, if_pos (.inr (.inr rfl)), cleanL_map, list_two hm]; rfl
      rw [hend, ← hcl]
      refine loop_fuel (fun st s => (mv_exprs G).2 st s) st _ _ _ _ hle ?_ (by omega)
      show K.length + 1 ≤ s.at_ + (la ++ (3, signOf n) :: lb).length + K.length
      rw [List.length_append, List.length_cons]
      omega
    · -- a choice
      refine enough (by decide) fun s r h => ?_
      have e2 : toksN names 6 n (toksL names t.kids) = (1, ⟨#[105, 102]⟩) :: (3, ⟨#[40]⟩) :: (kidK (toksL names t.kids) 0 0 ++ (3, ⟨#[44]⟩) :: (kidK (toksL names t.kids) 1 0 ++ (3, ⟨#[44]⟩) :: (kidK (toksL names t.kids) 2 0 ++ [(3, ⟨#[41]⟩)]))) := by
        unfold toksN; rw [if_neg (by decide), if_neg (by decide), if_neg (by decide), if_neg (by decide), if_neg (by decide), if_pos rfl]
      have j0 : 0 < t.kids.length := by omega
      have j1 : 1 < t.kids.length := by omega
      have j2 : 2 < t.kids.length := by omega
      have sb := fun x => strI_bd x
      have q0 : kidK (toksL names t.kids) 0 0 = toksT names (t.kids.getD 0 default) := by rw [kidK_at j0, if_neg (fun z => by have := sb (t.kids.getD 0 default).num; omega)]
      have q1 : kidK (toksL names t.kids) 1 0 = toksT names (t.kids.getD 1 default) := by rw [kidK_at j1, if_neg (fun z => by have := sb (t.kids.getD 1 default).num; omega)]
      have q2 : kidK (toksL names t.kids) 2 0 = toksT names (t.kids.getD 2 default) := by rw [kidK_at j2, if_neg (fun z => by have := sb (t.kids.getD 2 default).num; omega)]
      rw [hT, e2, q0, q1, q2] at h ⊢
      have d0 := DL 0 j0
      have d1 := DL 1 j1
      have d2 := DL 2 j2
      have hs := sees_word (by decide +kernel) h
      show unaryP K (exprsP K G).2 (exprsP K G).1 s = _
      unfold unaryP
      rw [take_no (z := minusT) hs (by decide), take_no (z := ⟨#[33]⟩) hs (by decide), take_no (z := ⟨#[40]⟩) hs (by decide), if_neg (by decide), if_neg (by decide), if_neg (by decide), if_pos (take_yes hs)]
      unfold choiceP
      simp only
      have h1 := h.step
      rw [want_sign h1]
      have h2 := h1.step
      rw [kid_expr (st := 0) (IH 0 j0 G (by omega)) (fun z => by have := KN 0 j0 z; omega) (show isOp ⟨#[44]⟩ = false by decide +kernel) h2]
      simp only
      have h3 := h2.go
      rw [want_sign h3]
      have h4 := h3.step
      rw [kid_expr (st := 0) (IH 1 j1 G (by omega)) (fun z => by have := KN 1 j1 z; omega) (show isOp ⟨#[44]⟩ = false by decide +kernel) h4]
      simp only
      have h5 := h4.go
      rw [want_sign h5]
      have h6 := h5.step
      rw [kid_expr (st := 0) (IH 2 j2 G (by omega)) (fun z => by have := KN 2 j2 z; omega) (show isOp ⟨#[41]⟩ = false by decide +kernel) h6]
      simp only
      have h7 := h6.go
      rw [want_sign h7, hC, if_neg (by decide), cleanL_map, list_three hm]
      simp only [step_adv, adv_step, adv_adv, List.map_cons, List.map_nil]
      congr 2
      simp only [List.length_cons, List.length_append, List.length_nil]
      omega
/-- What is written is read as it was. -/
theorem back_plain {names : List ByteArray} (hN : NmOk names) {t : Tr} (hp : partsT names.length t = true) (hpl : plainT t = true) (hR : Real t) (hd : depthT t ≤ 20) {T : List Tok} (hT : ktOf T = toksT names t) (en : Int) : exprAll T en names = (cleanT t, en, 0) := by
  unfold exprAll
  simp only
  rw [hT]
  obtain ⟨K, hK⟩ : ∃ K, K = toksT names t := ⟨_, rfl⟩
  have S := spine (K := K) hN t.sz t (Nat.le_refl _) hp hpl hR 40 (by omega)
  rw [← hK]
  have hH : Hd_ K names { Ps.zero with vars := names } (toksT names t) [] := ⟨rfl, rfl, by show K.drop 0 = _; rw [List.drop_zero, List.append_nil, hK]⟩
  have hend : signB K 0 (adv { Ps.zero with vars := names } (toksT names t).length) = false := by
    have hne : nextP K (adv { Ps.zero with vars := names } (toksT names t).length) = (0, ByteArray.empty) := by
      unfold nextP
      rw [if_pos (show (adv { Ps.zero with vars := names } (toksT names t).length).err = 0 from rfl), List.getD, List.getElem?_eq_none]
      · rfl
      · show K.length ≤ 0 + (toksT names t).length
        rw [hK]; omega
    have hse : seesP K (adv { Ps.zero with vars := names } (toksT names t).length) = ByteArray.empty := by unfold seesP; rw [hne]; exact if_neg (by decide)
    unfold signB; rw [hse, show isOp ByteArray.empty = false by decide +kernel]; rfl
  have h5 : t.kind = 5 → 1 ≤ strI t.num := fun q => by
    rw [partsT_eq, Bool.and_eq_true] at hp
    rcases ok_cases hp.1 with ⟨z, _⟩ | ⟨z, _⟩ | ⟨z, _⟩ | ⟨z, _⟩ | ⟨_, _, hk⟩ | ⟨z, _⟩
    · omega
    · omega
    · omega
    · omega
    · exact (op_facts hk).2.2.1
    · omega
  obtain ⟨G, eG, e⟩ := S.ex 0 _ [] hH (fun q => ⟨by have := h5 q; omega, sign_mono hend (by have := h5 q; omega)⟩)
  have hx : exprP K 0 { Ps.zero with vars := names } = (cleanT t, adv { Ps.zero with vars := names } (toksT names t).length) := by
    show (exprsP K 40).2 0 _ = _
    rw [e]
    exact loop_end hend _ _
  rw [hx]
  simp only
  have ht : toldS K (adv { Ps.zero with vars := names } (toksT names t).length) = adv { Ps.zero with vars := names } (toksT names t).length := by
    unfold toldS
    rw [if_neg]
    show ¬ 0 + (toksT names t).length < K.length
    rw [hK]; omega
  rw [ht]
  exact if_pos rfl
end Go.Proofs.YtkpjhjoopdbkaaaGreatDoor
