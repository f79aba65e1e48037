/- Joined: Plain law of parse: brackets around an expression change nothing, as long as it is not too deep. Plain law of parse: a bracketed text, cut and read. Law ParseGroups: the walk. Printed by gen_pbW.py. -/
import Derived.Test.YtkpjhjoopdbkaaaGreatDoorG30
import Derived.Test.YtkpjhjoopdbkaaaGreatDoorG28
import Derived.Test.YtkpjhjoopdbkaaaGreatDoorG29
namespace Go.Proofs.YtkpjhjoopdbkaaaGreatDoor
section
variable {K : List Kt} {s : Ps}
/-- Behind an error nothing goes on. -/
theorem want_stuck {x : ByteArray} (hx : x ≠ ByteArray.empty) (h : s.err ≠ 0) : wantP K x s = s := by
  unfold wantP; rw [take_stuck hx h]; exact wrong_stuck h
theorem numbS_stuck (h : s.err ≠ 0) : numbS K s = s := by unfold numbS; rw [num_stuck h]; exact wrong_stuck h
theorem known_stuck (find : ByteArray → Int) (h : s.err ≠ 0) : knownS K find s = s := by unfold knownS; rw [name_stuck h]; exact wrong_stuck h
theorem loop_stuck (ex : Int → Ps → Tr × Ps) (st : Int) (e : Tr) (h : s.err ≠ 0) : ∀ n, loopP K ex st n e s = (e, s)
  | 0 => rfl
  | n + 1 => by unfold loopP; rw [sign_stuck h]; rfl
theorem choice_stuck (ex : Int → Ps → Tr × Ps) (hx : ∀ st s, s.err ≠ 0 → (ex st s).2 = s) (h : s.err ≠ 0) : (choiceP K ex s).2 = s := by
  unfold choiceP
  simp only
  rw [want_stuck (x := ⟨#[40]⟩) (by decide) h, hx 0 s h, want_stuck (by decide) h, hx 0 s h, want_stuck (by decide) h, hx 0 s h, want_stuck (by decide) h]
theorem unary_stuck (ex : Int → Ps → Tr × Ps) (un : Ps → Tr × Ps) (h : s.err ≠ 0) : (unaryP K ex un s).2 = s := by
  unfold unaryP
  rw [take_stuck minus_ne h, take_stuck (x := ⟨#[33]⟩) (by decide) h, take_stuck (x := ⟨#[40]⟩) (by decide) h, take_stuck (x := ⟨#[105, 102]⟩) (by decide) h, next_stuck h]
  simp only [Bool.false_eq_true, if_false]
  rw [if_neg (by decide)]
  exact known_stuck _ h
theorem exprs_stuck : ∀ (f : Nat) (s : Ps), s.err ≠ 0 → ((exprsP K f).1 s).2 = s ∧ ∀ st, ((exprsP K f).2 st s).2 = s
  | 0, s, h => ⟨wrong_stuck h, fun _ => wrong_stuck h⟩
  | f + 1, s, h => by
    have hu := unary_stuck (K := K) (exprsP K f).2 (exprsP K f).1 h
    refine ⟨hu, fun st => ?_⟩
    show (loopP K (exprsP K f).2 st (K.length + 1) (unaryP K (exprsP K f).2 (exprsP K f).1 s).1 (unaryP K (exprsP K f).2 (exprsP K f).1 s).2).2 = s
    rw [hu, loop_stuck _ _ _ h]
end
/-- One token further on. -/
def sh (s : Ps) : Ps := { s with at_ := s.at_ + 1 }
section
variable {K : List Kt} {p : Kt}
abbrev wrapK (p : Kt) (K : List Kt) : List Kt := p :: (K ++ [(3, ⟨#[41]⟩)])
theorem wrap_len : (wrapK p K).length = K.length + 2 := by simp [wrapK]
theorem next_in {s : Ps} (h : s.at_ < K.length) : nextP (wrapK p K) (sh s) = nextP K s := by
  unfold nextP sh
  simp only
  split
  · rw [List.getD_cons_succ, List.getD, List.getD, List.getElem?_append_left h]
  · rfl
theorem nextW_end {s : Ps} (h : s.at_ = K.length) (h0 : s.err = 0) : nextP (wrapK p K) (sh s) = (3, ⟨#[41]⟩) ∧ nextP K s = (0, ByteArray.empty) := by
  unfold nextP sh
  simp only
  rw [if_pos h0, if_pos h0]
  constructor
  · rw [List.getD_cons_succ, List.getD, List.getElem?_append_right (by omega), h]
    simp
  · rw [List.getD, List.getElem?_eq_none (by omega)]; rfl
theorem next_bad {s : Ps} (h0 : s.err ≠ 0) : nextP (wrapK p K) (sh s) = nextP K s := by
  rw [next_stuck h0, next_stuck (s := sh s) h0]
/-- Where nothing but the bracket may part the two. -/
theorem next_cases {s : Ps} (h : s.at_ ≤ K.length) : nextP (wrapK p K) (sh s) = nextP K s ∨ (s.at_ = K.length ∧ nextP (wrapK p K) (sh s) = (3, ⟨#[41]⟩) ∧ nextP K s = (0, ByteArray.empty)) := by
  by_cases h0 : s.err = 0
  · rcases Nat.lt_or_ge s.at_ K.length with h1 | h1
    · exact .inl (next_in h1)
    · have e : s.at_ = K.length := by omega
      exact .inr ⟨e, nextW_end e h0⟩
  · exact .inl (next_bad h0)
theorem sees_cases {s : Ps} (h : s.at_ ≤ K.length) : seesP (wrapK p K) (sh s) = seesP K s ∨ (s.at_ = K.length ∧ seesP (wrapK p K) (sh s) = ⟨#[41]⟩ ∧ seesP K s = ByteArray.empty) := by
  rcases next_cases (p := p) h with e | ⟨e1, e2, e3⟩
  · left; unfold seesP; rw [e]
  · right
    refine ⟨e1, ?_, ?_⟩
    · unfold seesP; rw [e2]; rfl
    · unfold seesP; rw [e3]; exact if_neg (by decide)
theorem take_same {s : Ps} {x : ByteArray} (h : s.at_ ≤ K.length) (hx : x ≠ ByteArray.empty) (h41 : x ≠ ⟨#[41]⟩) : takeB (wrapK p K) x (sh s) = takeB K x s := by
  unfold takeB
  rcases sees_cases (p := p) h with e | ⟨_, e2, e3⟩
  · rw [e]
  · rw [e2, e3, decide_eq_false (fun e => h41 e.symm), decide_eq_false (fun e => hx e.symm)]
theorem take_in {s : Ps} {x : ByteArray} (h : s.at_ < K.length) : takeB (wrapK p K) x (sh s) = takeB K x s := by
  unfold takeB seesP
  rw [next_in h]
theorem sign_same {s : Ps} (st : Int) (h : s.at_ ≤ K.length) : signB (wrapK p K) st (sh s) = signB K st s := by
  unfold signB
  rcases sees_cases (p := p) h with e | ⟨_, e2, e3⟩
  · rw [e]
  · rw [e2, e3, show isOp ⟨#[41]⟩ = false by decide +kernel, show isOp ByteArray.empty = false by decide +kernel]; rfl
/-- The bracketed parser: too deep, or one further on. -/
def Ss (s s' : Ps) : Prop := s'.err = 2 ∨ s' = sh s
def Sr (r r' : Tr × Ps) : Prop := r'.2.err = 2 ∨ (r'.1 = r.1 ∧ r'.2 = sh r.2)
theorem ss_want {s s' : Ps} {x : ByteArray} (_h : s.at_ ≤ K.length) (hx : x ≠ ByteArray.empty) (k : Ss s s') (he : (wantP K x s).err = 0) : Ss (wantP K x s) (wantP (wrapK p K) x s') := by
  rcases k with k | rfl
  · left
    rw [want_stuck hx (by rw [k]; decide)]; exact k
  · right
    have ht : takeB K x s = true := by
      unfold wantP at he
      split at he
      · rename_i q; exact q
      · exact absurd he (wrong_err (by decide))
    have hl := (take_lt hx ht).2
    unfold wantP
    rw [take_in hl, ht]
    rfl
theorem want_back {s : Ps} {x : ByteArray} (hx : x ≠ ByteArray.empty) (he : (wantP K x s).err = 0) : s.err = 0 := by
  by_cases h : s.err = 0
  · exact h
  · rw [want_stuck hx h] at he; exact absurd he h
/-- What reads an expression, and what reads it in the brackets. -/
def Sx (K : List Kt) (_p : Kt) (ex ex' : Ps → Tr × Ps) : Prop := ∀ s s', s.at_ ≤ K.length → Ss s s' → (ex s).2.err = 0 → Sr (ex s) (ex' s')
structure Good (K : List Kt) (ex : Ps → Tr × Ps) : Prop where
  stuck : ∀ s, s.err ≠ 0 → (ex s).2 = s
  mv : ∀ s, Mv K s (ex s).2
theorem Good.back {ex : Ps → Tr × Ps} (g : Good K ex) {s : Ps} (h : (ex s).2.err = 0) : s.err = 0 := by
  by_cases h0 : s.err = 0
  · exact h0
  · rw [g.stuck s h0] at h; exact absurd h h0
theorem sx_of {ex ex' : Ps → Tr × Ps} (g' : ∀ s, s.err ≠ 0 → (ex' s).2 = s) (h : ∀ s, s.at_ ≤ K.length → (ex s).2.err = 0 → Sr (ex s) (ex' (sh s))) : Sx K p ex ex' := by
  intro s s' hs k he
  rcases k with k | rfl
  · left
    rw [g' s' (by rw [k]; decide)]; exact k
  · exact h s hs he
theorem sr_loop {ex ex' : Int → Ps → Tr × Ps} (g : ∀ st, Good K (ex st)) (g' : ∀ st s, s.err ≠ 0 → (ex' st s).2 = s) (hx : ∀ st, Sx K p (ex st) (ex' st)) (st : Int) :
    ∀ (n n' : Nat) (e : Tr) (s : Ps), s.at_ ≤ K.length → K.length + 1 ≤ s.at_ + n → n ≤ n' → (loopP K ex st n e s).2.err = 0 → Sr (loopP K ex st n e s) (loopP (wrapK p K) ex' st n' e (sh s))
  | 0, _, _, s, h1, h2, _, _ => by omega
  | n + 1, n' + 1, e, s, h1, h2, h3, he => by
    unfold loopP at he ⊢
    rw [sign_same st h1]
    split
    · rename_i hs
      rw [if_pos hs] at he
      have hl := (sign_lt hs).2
      have e1 : seesP (wrapK p K) (sh s) = seesP K s := by unfold seesP; rw [next_in hl]
      rw [e1]
      have hm := (g (strI (opN (seesP K s)))).mv (stepP s)
      have hst : (stepP s).at_ ≤ K.length := hl
      have hin := hm.in_ hst
      have hle := hm.le
      have hsa : (stepP s).at_ = s.at_ + 1 := rfl
      have herr : (ex (strI (opN (seesP K s))) (stepP s)).2.err = 0 := by
        rcases Decidable.em ((ex (strI (opN (seesP K s))) (stepP s)).2.err = 0) with q | q
        · exact q
        · rw [loop_stuck _ _ _ q] at he; exact he
      rcases hx (strI (opN (seesP K s))) (stepP s) (stepP (sh s)) hst (.inr rfl) herr with q | ⟨q1, q2⟩
      · left
        rw [loop_stuck _ _ _ (by rw [q]; decide)]; exact q
      · rw [q1, q2]
        exact sr_loop g g' hx st n n' _ _ hin (by omega) (by omega) he
    · exact .inr ⟨rfl, rfl⟩
  | n + 1, 0, _, _, _, _, h3, _ => by omega
theorem sr_choice {ex ex' : Int → Ps → Tr × Ps} (g : ∀ st, Good K (ex st)) (g' : ∀ st s, s.err ≠ 0 → (ex' st s).2 = s) (hx : ∀ st, Sx K p (ex st) (ex' st)) (s : Ps) (h : s.at_ ≤ K.length) (he : (choiceP K ex s).2.err = 0) : Sr (choiceP K ex s) (choiceP (wrapK p K) ex' (sh s)) := by
  unfold choiceP at he ⊢
  simp only at he ⊢
  obtain ⟨s1, h1⟩ : ∃ y, y = wantP K ⟨#[40]⟩ s := ⟨_, rfl⟩
  obtain ⟨t1, k1⟩ : ∃ y, y = wantP (wrapK p K) ⟨#[40]⟩ (sh s) := ⟨_, rfl⟩
  rw [← h1] at he ⊢
  rw [← k1]
  obtain ⟨a, ha⟩ : ∃ y, y = ex 0 s1 := ⟨_, rfl⟩
  obtain ⟨a', ka⟩ : ∃ y, y = ex' 0 t1 := ⟨_, rfl⟩
  rw [← ha] at he ⊢
  rw [← ka]
  obtain ⟨s2, h2⟩ : ∃ y, y = wantP K ⟨#[44]⟩ a.2 := ⟨_, rfl⟩
  obtain ⟨t2, k2⟩ : ∃ y, y = wantP (wrapK p K) ⟨#[44]⟩ a'.2 := ⟨_, rfl⟩
  rw [← h2] at he ⊢
  rw [← k2]
  obtain ⟨b, hb⟩ : ∃ y, y = ex 0 s2 := ⟨_, rfl⟩
  obtain ⟨b', kb⟩ : ∃ y, y = ex' 0 t2 := ⟨_, rfl⟩
  rw [← hb] at he ⊢
  rw [← kb]
  obtain ⟨s3, h3⟩ : ∃ y, y = wantP K ⟨#[44]⟩ b.2 := ⟨_, rfl⟩
  obtain ⟨t3, k3⟩ : ∃ y, y = wantP (wrapK p K) ⟨#[44]⟩ b'.2 := ⟨_, rfl⟩
  rw [← h3] at he ⊢
  rw [← k3]
  obtain ⟨c, hc⟩ : ∃ y, y = ex 0 s3 := ⟨_, rfl⟩
  obtain ⟨c', kc⟩ : ∃ y, y = ex' 0 t3 := ⟨_, rfl⟩
  rw [← hc] at he ⊢
  rw [← kc]
  -- no error between
  have ec : c.2.err = 0 := want_back (by decide) he
  have e3 : s3.err = 0 := (g 0).back (by rw [← hc]; exact ec)
  have eb : b.2.err = 0 := want_back (x := ⟨#[44]⟩) (by decide) (by rw [← h3]; exact e3)
  have e2 : s2.err = 0 := (g 0).back (by rw [← hb]; exact eb)
  have ea : a.2.err = 0 := want_back (x := ⟨#[44]⟩) (by decide) (by rw [← h2]; exact e2)
  have e1 : s1.err = 0 := (g 0).back (by rw [← ha]; exact ea)
  -- within the tokens
  have l1 : s1.at_ ≤ K.length := by rw [h1]; exact (mv_want (by decide) s).in_ h
  have la : a.2.at_ ≤ K.length := by rw [ha]; exact ((g 0).mv s1).in_ l1
  have l2 : s2.at_ ≤ K.length := by rw [h2]; exact (mv_want (by decide) a.2).in_ la
  have lb : b.2.at_ ≤ K.length := by rw [hb]; exact ((g 0).mv s2).in_ l2
  have l3 : s3.at_ ≤ K.length := by rw [h3]; exact (mv_want (by decide) b.2).in_ lb
  have lc : c.2.at_ ≤ K.length := by rw [hc]; exact ((g 0).mv s3).in_ l3
  have S1 : Ss s1 t1 := by rw [h1, k1]; exact ss_want h (by decide) (.inr rfl) (by rw [← h1]; exact e1)
  have Ra : Sr a a' := by rw [ha, ka]; exact hx 0 s1 t1 l1 S1 (by rw [← ha]; exact ea)
  have fin2 : ∀ {q : Ps}, q.err = 2 → ∀ x : ByteArray, x ≠ ByteArray.empty → (wantP (wrapK p K) x q).err = 2 := fun hq x hx => by rw [want_stuck hx (by rw [hq]; decide)]; exact hq
  have finx : ∀ {q : Ps}, q.err = 2 → (ex' 0 q).2.err = 2 := fun hq => by rw [g' 0 _ (by rw [hq]; decide)]; exact hq
  rcases Ra with q | ⟨qa1, qa2⟩
  · left
    have r1 : t2.err = 2 := by rw [k2]; exact fin2 q _ (by decide)
    have r2 : b'.2.err = 2 := by rw [kb]; exact finx r1
    have r3 : t3.err = 2 := by rw [k3]; exact fin2 r2 _ (by decide)
    have r4 : c'.2.err = 2 := by rw [kc]; exact finx r3
    exact fin2 r4 _ (by decide)
  have S2 : Ss s2 t2 := by rw [h2, k2]; exact ss_want la (by decide) (.inr qa2) (by rw [← h2]; exact e2)
  have Rb : Sr b b' := by rw [hb, kb]; exact hx 0 s2 t2 l2 S2 (by rw [← hb]; exact eb)
  rcases Rb with q | ⟨qb1, qb2⟩
  · left
    have r3 : t3.err = 2 := by rw [k3]; exact fin2 q _ (by decide)
    have r4 : c'.2.err = 2 := by rw [kc]; exact finx r3
    exact fin2 r4 _ (by decide)
  have S3 : Ss s3 t3 := by rw [h3, k3]; exact ss_want lb (by decide) (.inr qb2) (by rw [← h3]; exact e3)
  have Rc : Sr c c' := by rw [hc, kc]; exact hx 0 s3 t3 l3 S3 (by rw [← hc]; exact ec)
  rcases Rc with q | ⟨qc1, qc2⟩
  · left
    exact fin2 q _ (by decide)
  rcases ss_want (p := p) lc (x := ⟨#[41]⟩) (by decide) (.inr qc2) he with q | q
  · exact .inl q
  · exact .inr ⟨by rw [qa1, qb1, qc1], q⟩
theorem sr_unary {ex ex' : Int → Ps → Tr × Ps} {un un' : Ps → Tr × Ps} (g : ∀ st, Good K (ex st)) (_gu : Good K un) (g' : ∀ st s, s.err ≠ 0 → (ex' st s).2 = s) (hx : ∀ st, Sx K p (ex st) (ex' st)) (hu : Sx K p un un') (s : Ps) (h : s.at_ ≤ K.length) (he : (unaryP K ex un s).2.err = 0) : Sr (unaryP K ex un s) (unaryP (wrapK p K) ex' un' (sh s)) := by
  unfold unaryP at he ⊢
  rw [take_same h minus_ne (by decide), take_same (x := ⟨#[33]⟩) h (by decide) (by decide), take_same (x := ⟨#[40]⟩) h (by decide) (by decide), take_same (x := ⟨#[105, 102]⟩) h (by decide) (by decide)]
  split
  · rename_i q
    rw [if_pos q] at he
    have hl := (take_lt minus_ne q).2
    rcases hu (stepP s) (stepP (sh s)) hl (.inr rfl) he with q | ⟨q1, q2⟩
    · exact .inl q
    · exact .inr ⟨by rw [q1], q2⟩
  rename_i q1
  rw [if_neg q1] at he
  split
  · rename_i q
    rw [if_pos q] at he
    have hl := (take_lt (by decide) q).2
    rcases hu (stepP s) (stepP (sh s)) hl (.inr rfl) he with q | ⟨q1, q2⟩
    · exact .inl q
    · exact .inr ⟨by rw [q1], q2⟩
  rename_i q2
  rw [if_neg q2] at he
  split
  · rename_i q
    rw [if_pos q] at he
    have hl : (stepP s).at_ ≤ K.length := (take_lt (by decide) q).2
    have ea : (ex 0 (stepP s)).2.err = 0 := want_back (by decide) he
    rcases hx 0 (stepP s) (stepP (sh s)) hl (.inr rfl) ea with q | ⟨q1, q2⟩
    · left
      show (wantP (wrapK p K) ⟨#[41]⟩ (ex' 0 (stepP (sh s))).2).err = 2
      rw [want_stuck (by decide) (by rw [q]; decide)]; exact q
    · rcases ss_want (p := p) (((g 0).mv (stepP s)).in_ hl) (x := ⟨#[41]⟩) (by decide) (.inr q2) he with q | q
      · exact .inl q
      · exact .inr ⟨q1, q⟩
  rename_i q3
  rw [if_neg q3] at he
  split
  · rename_i q
    rw [if_pos q] at he
    have hl : (stepP s).at_ ≤ K.length := (take_lt (by decide) q).2
    exact sr_choice g g' hx (stepP s) hl he
  rename_i q4
  rw [if_neg q4] at he
  rcases next_cases (p := p) h with e | ⟨e1, e2, e3⟩
  · rw [e]
    split
    · rename_i q
      rw [if_pos q] at he
      right
      have en : numB (wrapK p K) (sh s) = numB K s := by unfold numB; rw [e]
      refine ⟨by unfold numbV; rw [en, e], ?_⟩
      unfold numbS at he ⊢
      rw [en]
      split
      · rfl
      · rename_i q5
        rw [if_neg q5] at he
        exact absurd he (wrong_err (by decide))
    · rename_i q
      rw [if_neg q] at he
      right
      have en : nameB (wrapK p K) (sh s) = nameB K s := by unfold nameB; rw [e]
      have ev : nameV (wrapK p K) (sh s) = nameV K s := by unfold nameV; rw [en, e]
      have ef : findVar (sh s) = findVar s := rfl
      refine ⟨by unfold knownV; rw [en, ev, ef], ?_⟩
      unfold knownS at he ⊢
      rw [en, ev, ef]
      split
      · rename_i q5
        rw [if_pos q5] at he
        split
        · rename_i q6
          rw [if_pos q6] at he
          exact absurd he (wrong_err (by decide))
        · rfl
      · rename_i q5
        rw [if_neg q5] at he
        exact absurd he (wrong_err (by decide))
  · exfalso
    rw [e3, if_neg (by decide)] at he
    unfold knownS at he
    have en : nameB K s = false := by unfold nameB; rw [e3]; rfl
    rw [en, if_neg (by decide)] at he
    exact absurd he (wrong_err (by decide))
theorem sr_exprs : ∀ f : Nat, Sx K p (exprsP K (f + 1)).1 (exprsP (wrapK p K) f).1 ∧ ∀ st, Sx K p ((exprsP K (f + 1)).2 st) ((exprsP (wrapK p K) f).2 st)
  | 0 => by
    refine ⟨sx_of (fun s h => (exprs_stuck 0 s h).1) fun s hs he => ?_, fun st => sx_of (fun s h => (exprs_stuck 0 s h).2 st) fun s hs he => ?_⟩
    · left
      have h0 : s.err = 0 := by
        by_cases h0 : s.err = 0
        · exact h0
        · rw [(exprs_stuck (K := K) 1 s h0).1] at he; exact absurd he h0
      show (wrongP 2 (sh s)).err = 2
      unfold wrongP
      rw [if_pos (show (sh s).err = 0 from h0)]
    · left
      have h0 : s.err = 0 := by
        by_cases h0 : s.err = 0
        · exact h0
        · rw [(exprs_stuck (K := K) 1 s h0).2 st] at he; exact absurd he h0
      show (wrongP 2 (sh s)).err = 2
      unfold wrongP
      rw [if_pos (show (sh s).err = 0 from h0)]
  | f + 1 => by
    obtain ⟨iu, ix⟩ := sr_exprs f
    have gu : Good K (exprsP K (f + 1)).1 := ⟨fun s h => (exprs_stuck (f + 1) s h).1, fun s => (mv_exprs (f + 1)).1 s⟩
    have gx : ∀ st, Good K ((exprsP K (f + 1)).2 st) := fun st => ⟨fun s h => (exprs_stuck (f + 1) s h).2 st, fun s => (mv_exprs (f + 1)).2 st s⟩
    have gx' : ∀ st s, s.err ≠ 0 → ((exprsP (wrapK p K) f).2 st s).2 = s := fun st s h => (exprs_stuck f s h).2 st
    have U : ∀ s, s.at_ ≤ K.length → ((exprsP K (f + 1 + 1)).1 s).2.err = 0 → Sr ((exprsP K (f + 1 + 1)).1 s) ((exprsP (wrapK p K) (f + 1)).1 (sh s)) := fun s hs he => sr_unary gx gu gx' ix iu s hs he
    refine ⟨sx_of (fun s h => (exprs_stuck (f + 1) s h).1) U, fun st => sx_of (fun s h => (exprs_stuck (f + 1) s h).2 st) fun s hs he => ?_⟩
    have he2 : ((exprsP K (f + 1 + 1)).1 s).2.err = 0 := by
      rcases Decidable.em (((exprsP K (f + 1 + 1)).1 s).2.err = 0) with q | q
      · exact q
      · have e : ((exprsP K (f + 1 + 1)).2 st s) = loopP K (exprsP K (f + 1)).2 st (K.length + 1) ((exprsP K (f + 1 + 1)).1 s).1 ((exprsP K (f + 1 + 1)).1 s).2 := rfl
        rw [e, loop_stuck _ _ _ q] at he; exact he
    have e : ((exprsP K (f + 1 + 1)).2 st s) = loopP K (exprsP K (f + 1)).2 st (K.length + 1) ((exprsP K (f + 1 + 1)).1 s).1 ((exprsP K (f + 1 + 1)).1 s).2 := rfl
    have e' : ((exprsP (wrapK p K) (f + 1)).2 st (sh s)) = loopP (wrapK p K) (exprsP (wrapK p K) f).2 st ((wrapK p K).length + 1) ((exprsP (wrapK p K) (f + 1)).1 (sh s)).1 ((exprsP (wrapK p K) (f + 1)).1 (sh s)).2 := rfl
    rw [e'] 
    rcases U s hs he2 with q | ⟨q1, q2⟩
    · left
      rw [loop_stuck _ _ _ (by rw [q]; decide)]; exact q
    · rw [q1, q2]
      rw [e] at he ⊢
      exact sr_loop gx gx' ix st _ _ _ _ (((mv_exprs (f + 2)).1 s).in_ hs) (by omega) (by rw [wrap_len]; omega) he
end
end Go.Proofs.YtkpjhjoopdbkaaaGreatDoor
namespace Go.Proofs.YtkpjhjoopdbkaaaGreatDoor
theorem nx_paren (r : List UInt8) : nxK (40 :: r) = 3 ∧ nxN (40 :: r) = 1 ∧ nxE (40 :: r) = 0 := by
  have h1 : isLetter (40 : UInt8) = false := by decide
  have h2 : isDigit (40 : UInt8) = false := by decide
  have h3 : anyTwo (40 :: r) = false := rfl
  have h4 : oneSigns.contains (40 : UInt8) = true := by decide
  unfold nxK nxN nxE sgE
  rw [getD_cons, h1, h2, h3, h4]
  exact ⟨rfl, rfl, rfl⟩
theorem lex_close (k : Nat) : lexO 2 k [41] = ([⟨3, ⟨#[41]⟩, k⟩], k + 1, 0) := by
  have h : lexO 2 0 [41] = ([⟨3, ⟨#[41]⟩, 0⟩], 1, 0) := by kernel_rfl
  have e := lexO_move k 2 0 [41]
  rw [Nat.zero_add] at e
  rw [e, h]
  unfold moved
  simp [Tok.move, Nat.add_comm]
theorem lex_wrap (l : List UInt8) (hl : l.length ≤ 400) (h0 : (lexR l).2.2 = 0) : lexR (40 :: (l ++ [10, 41])) = (⟨3, ⟨#[40]⟩, 0⟩ :: ((lexR l).1.map (Tok.move 1) ++ [⟨3, ⟨#[41]⟩, l.length + 2⟩]), l.length + 3, 0) := by
  obtain ⟨n1, n2, n3⟩ := nx_paren (l ++ [10, 41])
  have hlen : (40 :: (l ++ [10, 41])).length = l.length + 3 := by simp
  rw [lexR_O _ (by rw [hlen]; omega), lexO_step (skipC_stop (by decide) (by decide)) (by simp) n3]
  rw [n2]
  have e1 : (40 :: (l ++ [10, 41])).drop 1 = l ++ 10 :: [41] := rfl
  rw [e1, Nat.sub_self]
  simp only [Nat.zero_add, Nat.add_zero]
  rw [lexO_two (l.length + 1) 1 l (by omega) [41] _ 2 (by rw [hlen]; simp) (by decide)]
  have e2 : lexO (l.length + 1) 1 l = moved 1 (lexR l) := by rw [lexR_O l (by omega)]; exact lexO_move 1 (l.length + 1) 0 l
  rw [e2, lex_close]
  unfold two moved glue1 stepTok
  rw [n1, n2]
  simp only [h0, if_true]
  have e3 : 1 + l.length + 1 = l.length + 2 := by omega
  rw [e3]
  simp
theorem kt_wrap (ts : List Tok) (a b : Nat) : ktOf (⟨3, ⟨#[40]⟩, a⟩ :: (ts.map (Tok.move 1) ++ [⟨3, ⟨#[41]⟩, b⟩])) = wrapK (3, ⟨#[40]⟩) (ktOf ts) := by
  unfold ktOf wrapK
  rw [List.map_cons, List.map_append, List.map_map]
  rfl
/-- Brackets around: too deep, or the same. -/
theorem groups_plain (ts ts' : List Tok) (en en' : Int) (names : List ByteArray) (hK : ktOf ts' = wrapK (3, ⟨#[40]⟩) (ktOf ts)) (h : (exprAll ts en names).2.2 = 0) :
    (exprAll ts' en' names).2.2 = 2 ∨ ((exprAll ts' en' names).2.2 = 0 ∧ (exprAll ts' en' names).1 = (exprAll ts en names).1) := by
  obtain ⟨K, hKK⟩ : ∃ K, K = ktOf ts := ⟨_, rfl⟩
  unfold exprAll at h ⊢
  simp only at h ⊢
  rw [hK, ← hKK]
  rw [← hKK] at h
  obtain ⟨s0, hs0⟩ : ∃ s0 : Ps, s0 = { Ps.zero with vars := names } := ⟨_, rfl⟩
  rw [← hs0] at h ⊢
  have h00 : s0.err = 0 := by rw [hs0]; rfl
  have h01 : s0.at_ = 0 := by rw [hs0]; rfl
  obtain ⟨r, hr⟩ : ∃ r, r = exprP K 0 s0 := ⟨_, rfl⟩
  rw [← hr] at h ⊢
  have ht : (toldS K r.2).err = 0 := by
    by_cases q : (toldS K r.2).err = 0
    · exact q
    · rw [if_neg q] at h; exact absurd h q
  rw [if_pos ht]
  have hm : Mv K s0 r.2 := by rw [hr]; exact mv_expr 0 s0
  have hle := hm.in_ (by rw [h01]; exact Nat.zero_le _)
  have hge : K.length ≤ r.2.at_ := by
    rcases Nat.lt_or_ge r.2.at_ K.length with q | q
    · unfold toldS at ht
      rw [if_pos q] at ht
      exact absurd ht (wrong_err (by decide))
    · exact q
  have he : r.2.err = 0 := by
    unfold toldS at ht
    rw [if_neg (by omega)] at ht
    exact ht
  have hat : r.2.at_ = K.length := by omega
  -- the bracketed one
  have hsim := ((sr_exprs (K := K) (p := (3, ⟨#[40]⟩)) 39).2 0) s0 (sh s0) (by rw [h01]; exact Nat.zero_le _) (.inr rfl) (by rw [hr] at he; exact he)
  have hn : nextP (wrapK (3, ⟨#[40]⟩) K) s0 = (3, ⟨#[40]⟩) := by unfold nextP; rw [if_pos h00, h01]; rfl
  have hsees : seesP (wrapK (3, ⟨#[40]⟩) K) s0 = ⟨#[40]⟩ := by unfold seesP; rw [hn]; rfl
  obtain ⟨K', hK'⟩ : ∃ K', K' = wrapK (3, ⟨#[40]⟩) K := ⟨_, rfl⟩
  have hlen : K'.length = K.length + 2 := by rw [hK']; exact wrap_len
  have hnl : r.2.at_ = K.length → r.2.err = 0 → nextP K' (sh r.2) = (3, ⟨#[41]⟩) := fun a b => by rw [hK']; exact (nextW_end a b).1
  rw [← hK'] at hsim hsees hn ⊢
  have hu : unaryP K' (exprsP K' 39).2 (exprsP K' 39).1 s0 = (((exprsP K' 39).2 0 (sh s0)).1, wantP K' ⟨#[41]⟩ ((exprsP K' 39).2 0 (sh s0)).2) := by
    unfold unaryP takeB
    rw [hsees, if_neg (by decide), if_neg (by decide), if_pos (by decide)]
    rfl
  have hx : exprP K' 0 s0 = loopP K' (exprsP K' 39).2 0 (K'.length + 1) (unaryP K' (exprsP K' 39).2 (exprsP K' 39).1 s0).1 (unaryP K' (exprsP K' 39).2 (exprsP K' 39).1 s0).2 := rfl
  rw [hx, hu]
  have hrr : (exprsP K (39 + 1)).2 0 s0 = r := by rw [hr]; rfl
  rw [hrr] at hsim
  rcases hsim with q | ⟨q1, q2⟩
  · left
    have e1 : wantP K' ⟨#[41]⟩ ((exprsP K' 39).2 0 (sh s0)).2 = ((exprsP K' 39).2 0 (sh s0)).2 := want_stuck (by decide) (by rw [q]; decide)
    rw [e1, loop_stuck _ _ _ (by rw [q]; decide)]
    have e2 : (toldS K' ((exprsP K' 39).2 0 (sh s0)).2).err = 2 := by
      unfold toldS
      split
      · rw [wrong_stuck (by rw [q]; decide)]; exact q
      · exact q
    rw [if_neg (by rw [e2]; decide)]
    exact e2
  · right
    rw [q1, q2]
    have hnx := hnl hat he
    have hs41 : seesP K' (sh r.2) = ⟨#[41]⟩ := by unfold seesP; rw [hnx]; rfl
    have hw : wantP K' ⟨#[41]⟩ (sh r.2) = stepP (sh r.2) := by unfold wantP takeB; rw [hs41, if_pos (by decide)]
    rw [hw]
    have hat2 : (stepP (sh r.2)).at_ = K'.length := by rw [hlen]; show r.2.at_ + 1 + 1 = _; omega
    have hne : nextP K' (stepP (sh r.2)) = (0, ByteArray.empty) := by
      unfold nextP
      rw [if_pos (show (stepP (sh r.2)).err = 0 from he), List.getD, List.getElem?_eq_none (by rw [hat2]; omega)]
      rfl
    have hse : seesP K' (stepP (sh r.2)) = ByteArray.empty := by unfold seesP; rw [hne]; exact if_neg (by decide)
    have hsg : signB K' 0 (stepP (sh r.2)) = false := by unfold signB; rw [hse, show isOp ByteArray.empty = false by decide +kernel]; rfl
    have hlp : loopP K' (exprsP K' 39).2 0 (K'.length + 1) r.1 (stepP (sh r.2)) = (r.1, stepP (sh r.2)) := by rw [loopP, hsg]; rfl
    rw [hlp]
    have e2 : toldS K' (stepP (sh r.2)) = stepP (sh r.2) := by unfold toldS; rw [if_neg (by rw [hat2]; omega)]
    rw [e2, if_pos (show (stepP (sh r.2)).err = 0 from he)]
    exact ⟨rfl, rfl⟩
end Go.Proofs.YtkpjhjoopdbkaaaGreatDoor
namespace Go.Proofs.YtkpjhjoopdbkaaaGreatDoor
open Go.RowKit
theorem wrap_bytes (s : ByteArray) : (((⟨#[40]⟩ : ByteArray) ++ s) ++ (⟨#[10, 41]⟩ : ByteArray)).data.toList = 40 :: (s.data.toList ++ [10, 41]) := by simp
set_option maxRecDepth 100000 in
set_option maxHeartbeats 16000000 in
theorem law_ParseGroups (s : ByteArray) (w : World) (ht : Hid (∀ W, Below w.heap.size w W → TabOk W)) (htab : Hid (∀ W, Below w.heap.size w W → TabT W)) (hs7 : s.size ≤ 9223372036854775807) :
    Calls Tryz.prog 3 #[.string s] w fun e w' => e = .returned (.bool true) ∧ Below w.heap.size w w' := by
  by_cases h4 : (400 : Int) < (s.size : Int)
  · go_enter Tryz.func3, Tryz.ntmps3
    go_wp2_with (go_at_call 8; refine (law_small _ ht htab).mono ?_; rintro e w1 ⟨rfl, hb1⟩)
    go_ret
    exact ⟨rfl, hb1⟩
  have hs : s.size ≤ 400 := by omega
  have hl : s.data.toList.length ≤ 400 := by simpa using hs
  have hcl := fun W => tok_Lex s W (by omega)
  have hcx := fun W => tok_Lex (((⟨#[40]⟩ : ByteArray) ++ s) ++ (⟨#[10, 41]⟩ : ByteArray)) W (by rw [ByteArray.size_append, ByteArray.size_append]; show 1 + s.size + 2 ≤ _; omega)
  have HTS := Lib.hid (lex_small s.data.toList)
  have HTX := Lib.hid (lex_small (40 :: (s.data.toList ++ [10, 41])))
  have hwr := lex_wrap s.data.toList hl
  have HNS := Lib.hid (show ∀ y : List ByteArray, y = [⟨#[120]⟩, ⟨#[121]⟩, ⟨#[122]⟩] → y.length = 3 from fun y e => by rw [e]; rfl)
  obtain ⟨nms, hnm⟩ : ∃ y : List ByteArray, y = [⟨#[120]⟩, ⟨#[121]⟩, ⟨#[122]⟩] := ⟨_, rfl⟩
  rw [wrap_bytes] at hcx
  obtain ⟨L, hL⟩ : ∃ y, y = lexR s.data.toList := ⟨_, rfl⟩
  rw [← hL] at hcl hwr HTS
  obtain ⟨ts, en, el⟩ := L
  have HGP := Lib.hid (fun (h0 : el = 0) (h : (exprAll ts (en : Int) nms).2.2 = 0) => groups_plain ts _ (en : Int) ((s.data.toList.length + 3 : Nat) : Int) nms (kt_wrap ts 0 (s.data.toList.length + 2)) h)
  have HWR := Lib.hid hwr
  have CL := Lib.hid hcl
  have CX := Lib.hid hcx
  have HNM := Lib.hid hnm
  clear hcl hcx hwr hL hnm
  go_enter Tryz.func3, Tryz.ntmps3
  go_wp2_with fail
  refine (law_small _ ht htab).mono ?_
  rintro e w1 ⟨rfl, hb1⟩
  have HB2 := Lib.hid (below_then hb1 (alrB w1 (.cells #[.string ⟨#[120]⟩, .string ⟨#[121]⟩, .string ⟨#[122]⟩] 9)))
  have HSN := Lib.hid (show Sl (w1.alloc (.cells #[.string ⟨#[120]⟩, .string ⟨#[121]⟩, .string ⟨#[122]⟩] 9)) (.slice (some ⟨w1.heap.size, 0, none⟩) 3 3) 3 1 (strCells nms) by rw [HNM.out]; exact Sl.new w1 _ [.string ⟨#[120]⟩, .string ⟨#[121]⟩, .string ⟨#[122]⟩] 3 1 rfl (by omega))
  go_upto_region 5 with fail
  obtain ⟨w2, hw2⟩ : ∃ y, y = w1.alloc (.cells #[.string ⟨#[120]⟩, .string ⟨#[121]⟩, .string ⟨#[122]⟩] 9) := ⟨_, rfl⟩
  obtain ⟨gn, hgn⟩ : ∃ y, y = w1.heap.size := ⟨_, rfl⟩
  rw [← hw2] at HB2 HSN ⊢
  rw [← hgn] at HSN ⊢
  clear hb1 hw2 hgn
  go_wp2_with fail
  refine (CL.out w2).mono ?_
  rintro e w3 ⟨v, rfl, hS, hB⟩
  obtain ⟨A0, c0, rfl, hnc, hc9, hS2⟩ := hS.form
  have HS3 := Lib.hid hS2
  have HB3 := Lib.hid (below_then HB2.out hB)
  have HD3 := Lib.hid hB
  clear hS hS2 hB
  by_cases hel : el = 0
  · have z1 : (el != 0) = false := by simpa using hel
    have HEL := Lib.hid hel
    have HW0 := HWR.out hel
    have hcx2 := CX.out
    have htx2 := HTX.out
    rw [HW0] at hcx2 htx2
    obtain ⟨T2, hT2⟩ : ∃ y, y = (⟨3, ⟨#[40]⟩, 0⟩ :: (ts.map (Tok.move 1) ++ [⟨3, ⟨#[41]⟩, s.data.toList.length + 2⟩]) : List Tok) := ⟨_, rfl⟩
    have hgp := HGP.out hel
    rw [← hT2] at hcx2 htx2 hgp
    have HTX2 := Lib.hid htx2
    have CX2 := Lib.hid hcx2
    obtain ⟨e2, he2⟩ : ∃ y, y = s.data.toList.length + 3 := ⟨_, rfl⟩
    have hcx3 := CX2.out
    rw [← he2] at hcx3 hgp
    have CX3 := Lib.hid hcx3
    have CE := Lib.hid (pa_Expr (T := ts) (en := (en : Int)) (A := A0) (c := c0) nms (some ⟨gn, 0, none⟩) 3 3 w3 HTS (Lib.hid (ht.out w3 HB3.out)) HS3 (Lib.hid (HSN.out.below HD3.out)))
    obtain ⟨E, hE⟩ : ∃ y, y = exprAll ts (en : Int) nms := ⟨_, rfl⟩
    obtain ⟨E2, hE2⟩ : ∃ y, y = exprAll T2 (e2 : Int) nms := ⟨_, rfl⟩
    have CE2 := Lib.hid (fun W A c (hb : Below w.heap.size w W) (hb3 : Below w3.heap.size w3 W) (hA : Sl W (.slice A T2.length c) T2.length 3 (toksCells T2)) => pa_Expr (T := T2) (en := (e2 : Int)) (A := A) (c := c) nms (some ⟨gn, 0, none⟩) 3 3 W HTX2 (Lib.hid (ht.out W hb)) (Lib.hid hA) (Lib.hid ((HSN.out.below HD3.out).below hb3)))
    rw [← hE] at CE hgp
    rw [← hE2] at CE2 hgp
    have HGP2 := Lib.hid hgp
    obtain ⟨t1, p1, f1⟩ := E
    obtain ⟨t2, p2, f2⟩ := E2
    clear hel HW0 hcx2 htx2 hT2 hgp he2 hcx3 hE hE2
    simp only at HGP2
    go_wp2_with fail
    refine CE.out.mono ?_
    rintro e x1 ⟨E1, m1, k1, rfl, hT, hB⟩
    have HT1 := Lib.hid (hT.kept (alrB x1 (.cells #[.int .i64 t1.kind, .int .i64 t1.num, .slice E1 m1 k1] 30)))
    have HB4 := Lib.hid (below_then HB3.out (below_then hB (alrB x1 (.cells #[.int .i64 t1.kind, .int .i64 t1.num, .slice E1 m1 k1] 30))))
    have HD4 := Lib.hid (below_then hB (alrB x1 (.cells #[.int .i64 t1.kind, .int .i64 t1.num, .slice E1 m1 k1] 30)))
    have R4 := Lib.hid (heap_alloc_new x1 (.cells #[.int .i64 t1.kind, .int .i64 t1.num, .slice E1 m1 k1] 30))
    go_upto_region 9 with fail
    obtain ⟨y1, hy1⟩ : ∃ y, y = x1.alloc (.cells #[.int .i64 t1.kind, .int .i64 t1.num, .slice E1 m1 k1] 30) := ⟨_, rfl⟩
    obtain ⟨g1, hg1⟩ : ∃ y, y = x1.heap.size := ⟨_, rfl⟩
    rw [← hy1] at HT1 HB4 HD4 R4 ⊢
    rw [← hg1] at R4 ⊢
    clear hT hB hy1 hg1
    go_wp2_with fail
    refine (CX3.out y1).mono ?_
    rintro e w5 ⟨v, rfl, hS, hB⟩
    obtain ⟨A5, c5, rfl, hnc5, hc95, hS2⟩ := hS.form
    have HB5 := Lib.hid (below_then HB4.out hB)
    have HD5 := Lib.hid hB
    have CEX := Lib.hid (CE2.out w5 A5 c5 HB5.out (below_then HD4.out hB) hS2)
    clear hS hS2 hB
    go_wp2_with fail
    refine CEX.out.mono ?_
    rintro e x2 ⟨E2, m2, k2, rfl, hT, hB⟩
    have HT2 := Lib.hid (hT.kept (alrB x2 (.cells #[.int .i64 t2.kind, .int .i64 t2.num, .slice E2 m2 k2] 30)))
    have HB6 := Lib.hid (below_then HB5.out (below_then hB (alrB x2 (.cells #[.int .i64 t2.kind, .int .i64 t2.num, .slice E2 m2 k2] 30))))
    have HD6 := Lib.hid (below_then HD5.out (below_then hB (alrB x2 (.cells #[.int .i64 t2.kind, .int .i64 t2.num, .slice E2 m2 k2] 30))))
    have R6 := Lib.hid (heap_alloc_new x2 (.cells #[.int .i64 t2.kind, .int .i64 t2.num, .slice E2 m2 k2] 30))
    go_upto_region 13 with fail
    obtain ⟨y2, hy2⟩ : ∃ y, y = x2.alloc (.cells #[.int .i64 t2.kind, .int .i64 t2.num, .slice E2 m2 k2] 30) := ⟨_, rfl⟩
    obtain ⟨g2, hg2⟩ : ∃ y, y = x2.heap.size := ⟨_, rfl⟩
    rw [← hy2] at HT2 HB6 HD6 R6 ⊢
    rw [← hg2] at R6 ⊢
    clear hT hB hy2 hg2
    by_cases hf : f1 = 0
    · have z2 : (f1 != 0) = false := by simpa using hf
      rcases HGP2.out hf with q | ⟨q1, q2⟩
      · have z3 : (f2 == 2) = true := by simpa using q
        clear hf q
        go_wp2
        go_ret
        exact ⟨rfl, HB6.out⟩
      · subst q1
        subst q2
        have r1 := row_below R4.out HD6.out
        have a0 := row_cell r1 0 _ rfl
        have a1 := row_cell r1 1 _ rfl
        have a2 := row_cell r1 2 _ rfl
        have b0 := row_cell R6.out 0 _ rfl
        have b1 := row_cell R6.out 1 _ rfl
        have b2 := row_cell R6.out 2 _ rfl
        have CS := Lib.hid (show Calls Tryz.prog 11 #[t2.val E1 m1 k1, t2.val E2 m2 k2] y2 fun e w' => e = .returned (.bool true) ∧ Below y2.heap.size y2 w' by
          have h := ex_Same t2.sz t2 t2 (Nat.le_refl _) E1 m1 k1 E2 m2 k2 y2 (Lib.hid (HT1.out.kept HD6.out)) HT2
          rw [sameT_self] at h
          exact h)
        clear hf r1
        go_wp2_with fail
        refine CS.out.mono ?_
        rintro e w9 ⟨rfl, hB9⟩
        have HB9 := Lib.hid (below_then HB6.out hB9)
        clear hB9
        go_wp2
        go_ret
        exact ⟨rfl, HB9.out⟩
    · have z2 : (f1 != 0) = true := by simpa using hf
      clear hf
      go_wp2
      go_ret
      exact ⟨rfl, HB6.out⟩
  · have z1 : (el != 0) = true := by simpa using hel
    clear hel
    go_wp2
    go_ret
    exact ⟨rfl, HB3.out⟩
end Go.Proofs.YtkpjhjoopdbkaaaGreatDoor
