/- Joined: Plain: how deep a parser must go for an expression's text; what a parser made is right, and goes no deeper. Plain: what a parser made, written, cut and read again. Printed by gen_pqB.py. -/
import Derived.Test.YtkpjhjoopdbkaaaGreatDoorG33
namespace Go.Proofs.YtkpjhjoopdbkaaaGreatDoor
/-- A kid's need, where operations that bind less than s are bracketed. -/
def kidNeed (l : List (Int × Int × Nat × Nat)) (j : Nat) (s : Int) : Nat :=
  match l[j]? with
  | none => 0
  | some (k, n, u, x) => if k = 5 ∧ ¬ strI n < s then x else u
/-- What a part needs where no operation is read, and where one is. -/
def needN (k n : Int) (l : List (Int × Int × Nat × Nat)) : Nat × Nat :=
  if k = 3 ∨ k = 4 then (kidNeed l 0 9 + 1, kidNeed l 0 9 + 1)
  else if k = 5 then (max (kidNeed l 0 (strI n)) (kidNeed l 1 (strI n + 1) + 1) + 1, max (kidNeed l 0 (strI n)) (kidNeed l 1 (strI n + 1) + 1))
  else if k = 6 then (max (kidNeed l 0 0) (max (kidNeed l 1 0) (kidNeed l 2 0)) + 1, max (kidNeed l 0 0) (max (kidNeed l 1 0) (kidNeed l 2 0)) + 1)
  else (1, 1)
mutual
def needT : Tr → Nat × Nat
  | .mk k n l => needN k n (needL l)
def needL : List Tr → List (Int × Int × Nat × Nat)
  | [] => []
  | t :: r => (t.kind, t.num, (needT t).1, (needT t).2) :: needL r
end
theorem needT_eq (t : Tr) : needT t = needN t.kind t.num (needL t.kids) := by
  obtain ⟨k, n, l⟩ := t
  rw [needT]; rfl
theorem needL_get : ∀ (l : List Tr) (j : Nat), j < l.length → (needL l)[j]? = some ((l.getD j default).kind, (l.getD j default).num, (needT (l.getD j default)).1, (needT (l.getD j default)).2)
  | [], j, h => by simp at h
  | t :: r, 0, _ => by rw [needL]; rfl
  | t :: r, j + 1, h => by
    rw [needL]
    exact needL_get r j (by simpa using h)
theorem kidNeed_at {l : List Tr} {j : Nat} (h : j < l.length) (s : Int) : kidNeed (needL l) j s = if (l.getD j default).kind = 5 ∧ ¬ strI (l.getD j default).num < s then (needT (l.getD j default)).2 else (needT (l.getD j default)).1 := by
  unfold kidNeed
  rw [needL_get l j h]
theorem need_op {t : Tr} (h : t.kind = 5) : (needT t).1 = (needT t).2 + 1 ∧ 1 ≤ (needT t).2 := by
  rw [needT_eq, h]
  unfold needN
  rw [if_neg (by decide), if_pos rfl]
  refine ⟨rfl, ?_⟩
  show 1 ≤ max _ _
  omega
theorem need_part {t : Tr} (h : t.kind ≠ 5) : (needT t).1 = (needT t).2 ∧ 1 ≤ (needT t).2 := by
  rw [needT_eq]
  unfold needN
  by_cases h3 : t.kind = 3 ∨ t.kind = 4
  · rw [if_pos h3]; exact ⟨rfl, by show 1 ≤ _ + 1; omega⟩
  · rw [if_neg h3, if_neg h]
    by_cases h6 : t.kind = 6
    · rw [if_pos h6]; exact ⟨rfl, by show 1 ≤ _ + 1; omega⟩
    · rw [if_neg h6]; exact ⟨rfl, Nat.le_refl _⟩
theorem need_pos (t : Tr) : (needT t).2 ≤ (needT t).1 ∧ 1 ≤ (needT t).2 := by
  by_cases h : t.kind = 5
  · have := need_op h; omega
  · have := need_part h; omega
theorem kidNeed_le {l : List Tr} {j : Nat} {s : Int} {B : Nat} (h : j < l.length) (h1 : (l.getD j default).kind = 5 → ¬ strI (l.getD j default).num < s → (needT (l.getD j default)).2 ≤ B) (h2 : ¬ ((l.getD j default).kind = 5 ∧ ¬ strI (l.getD j default).num < s) → (needT (l.getD j default)).1 ≤ B) : kidNeed (needL l) j s ≤ B := by
  rw [kidNeed_at h]
  split
  · rename_i q; exact h1 q.1 q.2
  · rename_i q; exact h2 q
/-- Numbers as a parser makes them. -/
def numN (k n : Int) : Bool := if k = 1 then decide (0 ≤ n ∧ n ≤ 9223372036854775807) else if k = 2 ∨ k = 5 then true else decide (n = 0)
mutual
def readT : Tr → Bool
  | .mk k n l => numN k n && readL l
def readL : List Tr → Bool
  | [] => true
  | t :: r => readT t && readL r
end
theorem readT_eq (t : Tr) : readT t = (numN t.kind t.num && readL t.kids) := by
  obtain ⟨k, n, l⟩ := t
  rw [readT]; rfl
theorem readL_at : ∀ {l : List Tr} {j : Nat}, readL l = true → j < l.length → readT (l.getD j default) = true
  | [], _, _, h => by simp at h
  | t :: r, 0, h, _ => by rw [readL, Bool.and_eq_true] at h; exact h.1
  | t :: r, j + 1, h, hj => by
    rw [readL, Bool.and_eq_true] at h
    exact show readT (r.getD j default) = true from readL_at h.2 (by simpa using hj)
theorem readT_kid {t : Tr} (h : readT t = true) {j : Nat} (hj : j < t.kids.length) : readT (t.kids.getD j default) = true := by
  rw [readT_eq, Bool.and_eq_true] at h
  exact readL_at h.2 hj
theorem readT_num {t : Tr} (h : readT t = true) (hk : t.kind = 1) : 0 ≤ t.num ∧ t.num ≤ 9223372036854775807 := by
  rw [readT_eq, Bool.and_eq_true] at h
  have h1 := h.1
  unfold numN at h1
  rw [if_pos hk] at h1
  exact of_decide_eq_true h1
mutual
theorem read_clean : ∀ t : Tr, readT t = true → cleanT t = t
  | .mk k n l, h => by
    rw [readT, Bool.and_eq_true] at h
    rw [cleanT, read_cleanL l h.2]
    have h1 := h.1
    unfold numN at h1
    by_cases k1 : k = 1
    · rw [if_pos (.inl k1)]
    · by_cases k2 : k = 2 ∨ k = 5
      · rw [if_pos (.inr k2)]
      · rw [if_neg k1, if_neg k2] at h1
        rw [if_neg (by omega), of_decide_eq_true h1]
theorem read_cleanL : ∀ l : List Tr, readL l = true → cleanL l = l
  | [], _ => by rw [cleanL]
  | t :: r, h => by
    rw [readL, Bool.and_eq_true] at h
    rw [cleanL, read_clean t h.1, read_cleanL r h.2]
end
/-- What a parser makes of an expression, of so many variables. -/
structure Good_ (V : Nat) (t : Tr) : Prop where
  parts : partsT V t = true
  read : readT t = true
mutual
theorem parts_more {V W : Nat} (h : V ≤ W) : ∀ t : Tr, partsT V t = true → partsT W t = true
    | .mk k n l, g => by
      rw [partsT, Bool.and_eq_true] at g ⊢
      refine ⟨?_, parts_moreL h l g.2⟩
      have g1 := g.1
      unfold okN at g1 ⊢
      simp only [Bool.and_eq_true, decide_eq_true_eq, Bool.not_eq_true', Bool.and_eq_false_imp, Bool.or_eq_false_iff, decide_eq_false_iff_not] at g1 ⊢
      refine ⟨⟨g1.1.1, fun q => ?_⟩, g1.2⟩
      have := g1.1.2 q
      omega
theorem parts_moreL {V W : Nat} (h : V ≤ W) : ∀ l : List Tr, partsL V l = true → partsL W l = true
    | [], _ => by rw [partsL]
    | t :: r, g => by
      rw [partsL, Bool.and_eq_true] at g ⊢
      exact ⟨parts_more h t g.1, parts_moreL h r g.2⟩
end
theorem Good_.more {V W : Nat} (h : V ≤ W) {t : Tr} (g : Good_ V t) : Good_ W t := ⟨parts_more h t g.parts, g.read⟩
theorem good_num {V : Nat} {n : Int} (h : 0 ≤ n ∧ n ≤ 9223372036854775807) : Good_ V (.mk 1 n []) := by
  refine ⟨by rw [partsT, partsL]; simp [okN, kidsN], ?_⟩
  rw [readT, readL]
  unfold numN
  rw [if_pos rfl, decide_eq_true h]; rfl
theorem good_var {V : Nat} {n : Int} (h : 0 ≤ n ∧ n < V) : Good_ V (.mk 2 n []) := by
  refine ⟨?_, by rw [readT, readL]; rfl⟩
  rw [partsT, partsL]
  unfold okN kidsN
  simp
  omega
theorem good_turn {V : Nat} {k : Int} (hk : k = 3 ∨ k = 4) {t : Tr} (h : Good_ V t) : Good_ V (.mk k 0 [t]) := by
  rcases hk with rfl | rfl
  · refine ⟨?_, ?_⟩
    · rw [partsT, partsL, partsL, h.parts]; simp [okN, kidsN]
    · rw [readT, readL, readL, h.read]; rfl
  · refine ⟨?_, ?_⟩
    · rw [partsT, partsL, partsL, h.parts]; simp [okN, kidsN]
    · rw [readT, readL, readL, h.read]; rfl
theorem good_if {V : Nat} {a b c : Tr} (ha : Good_ V a) (hb : Good_ V b) (hc : Good_ V c) : Good_ V (.mk 6 0 [a, b, c]) := by
  refine ⟨?_, ?_⟩
  · rw [partsT, partsL, partsL, partsL, partsL, ha.parts, hb.parts, hc.parts]; simp [okN, kidsN]
  · rw [readT, readL, readL, readL, readL, ha.read, hb.read, hc.read]; rfl
theorem good_bin {V : Nat} {n : Int} (hn : knownB n = true) {a b : Tr} (ha : Good_ V a) (hb : Good_ V b) : Good_ V (.mk 5 n [a, b]) := by
  refine ⟨?_, ?_⟩
  · rw [partsT, partsL, partsL, partsL, ha.parts, hb.parts]; simp [okN, kidsN, hn]
  · rw [readT, readL, readL, readL, ha.read, hb.read]; rfl
theorem idx_lt (x : ByteArray) : ∀ (l : List ByteArray) (i : Nat), Lib.idxFromS l x i < ((i + l.length : Nat) : Int) ∧ (0 ≤ Lib.idxFromS l x i → (i : Int) ≤ Lib.idxFromS l x i)
  | [], i => by rw [Lib.idxFromS]; simp; omega
  | y :: l, i => by
    have h := idx_lt x l (i + 1)
    rw [Lib.idxFromS]
    split
    · simp; omega
    · refine ⟨?_, fun q => ?_⟩
      · have := h.1; simp only [List.length_cons]; omega
      · have := h.2 q; omega
theorem find_lt (l : List ByteArray) (x : ByteArray) : findN l x < (l.length : Int) := by
  have := (idx_lt x l 0).1
  unfold findN Lib.idxOfS
  rw [Nat.zero_add] at this
  exact this
theorem op_known {x : ByteArray} (h : isOp x = true) : knownB (opN x) = true := by
  unfold isOp at h
  have h0 := of_decide_eq_true h
  have h1 := find_lt signStrs x
  unfold findN at h1
  have e : signStrs.length = 11 := by kernel_rfl
  rw [e] at h1
  unfold opN knownB
  rw [if_neg (by omega)]
  simp; omega
theorem op_str {n : Int} (h : knownB n = true) : 1 ≤ strI n ∧ strI n ≤ 5 := (op_facts h).2.2
section
variable {K : List Kt} {V : Nat}
/-- What was read where no operation is. -/
structure PU (K : List Kt) (V f : Nat) (s : Ps) (r : Tr × Ps) : Prop where
  good : Good_ V r.1
  need : (needT r.1).1 ≤ f
  size : s.at_ + sizeT r.1 ≤ r.2.at_
/-- What was read where operations are that bind more than st. -/
structure PX (K : List Kt) (V f : Nat) (st : Int) (s : Ps) (r : Tr × Ps) : Prop where
  good : Good_ V r.1
  need : (needT r.1).2 ≤ f
  loose : r.1.kind = 5 → ¬ st < strI r.1.num → (needT r.1).1 ≤ f
  stop : signB K st r.2 = false
  size : s.at_ + sizeT r.1 ≤ r.2.at_
theorem size_one (k n : Int) (a : Tr) : sizeT (.mk k n [a]) = sizeT a + 1 := by rw [sizeT, sizeL, sizeL]
theorem size_two (k n : Int) (a b : Tr) : sizeT (.mk k n [a, b]) = sizeT a + sizeT b + 1 := by rw [sizeT, sizeL, sizeL, sizeL]; omega
theorem size_three (k n : Int) (a b c : Tr) : sizeT (.mk k n [a, b, c]) = sizeT a + sizeT b + sizeT c + 1 := by rw [sizeT, sizeL, sizeL, sizeL, sizeL]; omega
theorem size_none (k n : Int) : sizeT (.mk k n []) = 1 := by rw [sizeT, sizeL]
theorem good_op {t : Tr} (h : Good_ V t) (h5 : t.kind = 5) : knownB t.num = true := by
  have hp := h.parts
  rw [partsT_eq, Bool.and_eq_true] at hp
  rcases ok_cases hp.1 with ⟨z, _⟩ | ⟨z, _⟩ | ⟨z, _⟩ | ⟨z, _⟩ | ⟨_, _, hk⟩ | ⟨z, _⟩
  · omega
  · omega
  · omega
  · omega
  · exact hk
  · omega
theorem need_loop {f : Nat} (ix : ∀ st s, s.at_ ≤ K.length → s.vars.length = V → ((exprsP K f).2 st s).2.err = 0 → PX K V f st s ((exprsP K f).2 st s)) (st : Int) (s0 : Ps) :
    ∀ (n : Nat) (e : Tr) (s : Ps), s.at_ ≤ K.length → s.vars.length = V → Good_ V e → (needT e).2 ≤ f + 1 → (e.kind = 5 → (needT e).1 ≤ f + 1 ∨ (signB K (strI e.num) s = false ∧ st < strI e.num)) → s0.at_ + sizeT e ≤ s.at_ → K.length + 1 ≤ s.at_ + n → (loopP K (exprsP K f).2 st n e s).2.err = 0 → PX K V (f + 1) st s0 (loopP K (exprsP K f).2 st n e s)
  | 0, e, s, h1, _, _, _, _, _, h7, _ => by omega
  | n + 1, e, s, h1, h2, h3, h4, h5, h6, h7, he => by
    rw [loopP] at he ⊢
    rcases hs : signB K st s with _ | _
    · rw [if_neg (by decide)]
      exact ⟨h3, h4, fun q1 q2 => (h5 q1).resolve_right fun q => q2 q.2, hs, h6⟩
    · rw [if_pos rfl]
      rw [hs, if_pos rfl] at he
      have hl := (sign_lt hs).2
      have hm := (mv_exprs (K := K) f).2 (strI (opN (seesP K s))) (stepP s)
      have hst : (stepP s).at_ ≤ K.length := hl
      have hin := hm.in_ hst
      have hle := hm.le
      have hsa : (stepP s).at_ = s.at_ + 1 := rfl
      obtain ⟨r, hr⟩ : ∃ r, r = (exprsP K f).2 (strI (opN (seesP K s))) (stepP s) := ⟨_, rfl⟩
      rw [← hr] at he hm hin hle ⊢
      have herr : r.2.err = 0 := by
        rcases Decidable.em (r.2.err = 0) with q | q
        · exact q
        · rw [loop_stuck _ _ _ q] at he; exact he
      have hP := ix (strI (opN (seesP K s))) (stepP s) hst h2 (by rw [← hr]; exact herr)
      rw [← hr] at hP
      unfold signB at hs
      rw [Bool.and_eq_true] at hs
      have hkn := op_known hs.1
      have hlt := of_decide_eq_true hs.2
      obtain ⟨m, hm'⟩ : ∃ m, m = opN (seesP K s) := ⟨_, rfl⟩
      rw [← hm'] at hP hkn hlt hr he ⊢
      have hsz := hP.size
      refine need_loop ix st s0 n (.mk 5 m [e, r.1]) r.2 hin (by rw [hm.vars]; exact h2) (good_bin hkn h3 hP.good) ?_ (fun _ => .inr ⟨hP.stop, hlt⟩) (by rw [size_two]; omega) (by omega) he
      rw [needT]
      unfold needN
      rw [if_neg (by decide), if_pos rfl]
      show max (kidNeed (needL [e, r.1]) 0 (strI m)) (kidNeed (needL [e, r.1]) 1 (strI m + 1) + 1) ≤ f + 1
      have k0 : kidNeed (needL [e, r.1]) 0 (strI m) ≤ f + 1 := by
        refine kidNeed_le (by simp) (fun _ _ => h4) fun q => ?_
        show (needT e).1 ≤ f + 1
        by_cases k5 : e.kind = 5
        · rcases h5 k5 with q2 | ⟨q2, _⟩
          · exact q2
          · exfalso
            apply q
            refine ⟨k5, fun q3 => ?_⟩
            unfold signB at q2
            rw [hs.1, Bool.true_and, decide_eq_false_iff_not, ← hm'] at q2
            exact q2 q3
        · have := need_part k5
          omega
      have k1 : kidNeed (needL [e, r.1]) 1 (strI m + 1) ≤ f := by
        refine kidNeed_le (by simp) (fun _ _ => hP.need) fun q => ?_
        show (needT r.1).1 ≤ f
        by_cases k5 : r.1.kind = 5
        · refine hP.loose k5 fun q3 => q ⟨k5, fun q4 => ?_⟩
          have q5 : strI r.1.num < strI m + 1 := q4
          omega
        · have := need_part k5
          have := hP.need
          omega
      omega
theorem numbV_ok {s : Ps} (h : numB K s = true) : 0 ≤ numbV K s ∧ numbV K s ≤ 9223372036854775807 := by
  unfold numbV
  rw [if_pos h]
  refine ⟨num_nonneg _, ?_⟩
  unfold numB at h
  rw [Bool.and_eq_true] at h
  unfold numV
  rw [if_pos h.2]
  have h2 := h.2
  unfold numOk at h2
  rw [Bool.and_eq_true] at h2
  exact of_decide_eq_true h2.2
theorem numbS_ok {s : Ps} (h : (numbS K s).err = 0) : numB K s = true ∧ numbS K s = stepP s := by
  unfold numbS at h ⊢
  split at h
  · rename_i q; exact ⟨q, if_pos q⟩
  · exact absurd h (wrong_err (by decide))
theorem knownS_ok {find : ByteArray → Int} {s : Ps} (h : (knownS K find s).err = 0) : nameB K s = true ∧ 0 ≤ find (nameV K s) ∧ knownS K find s = stepP s ∧ knownV K find s = find (nameV K s) := by
  unfold knownS at h
  split at h
  · rename_i q
    split at h
    · exact absurd h (wrong_err (by decide))
    · rename_i q2
      refine ⟨q, by omega, by unfold knownS; rw [if_pos q, if_neg q2], ?_⟩
      unfold knownV
      rw [q, decide_eq_true (by omega)]; rfl
  · exact absurd h (wrong_err (by decide))
theorem wantP_ok {x : ByteArray} {s : Ps} (h : (wantP K x s).err = 0) : takeB K x s = true ∧ wantP K x s = stepP s := by
  unfold wantP at h ⊢
  split at h
  · rename_i q; exact ⟨q, if_pos q⟩
  · exact absurd h (wrong_err (by decide))
theorem pa_need : ∀ f : Nat, (∀ s, s.at_ ≤ K.length → s.vars.length = V → ((exprsP K f).1 s).2.err = 0 → PU K V f s ((exprsP K f).1 s)) ∧ ∀ st s, s.at_ ≤ K.length → s.vars.length = V → ((exprsP K f).2 st s).2.err = 0 → PX K V f st s ((exprsP K f).2 st s)
  | 0 => ⟨fun s _ _ h => absurd h (wrong_err (by decide)), fun _ s _ _ h => absurd h (wrong_err (by decide))⟩
  | f + 1 => by
    obtain ⟨iu, ix⟩ := pa_need f
    have U : ∀ s, s.at_ ≤ K.length → s.vars.length = V → ((exprsP K (f + 1)).1 s).2.err = 0 → PU K V (f + 1) s ((exprsP K (f + 1)).1 s) := by
      intro s h1 h2 he
      have e0 : (exprsP K (f + 1)).1 s = unaryP K (exprsP K f).2 (exprsP K f).1 s := rfl
      rw [e0] at he ⊢
      unfold unaryP at he ⊢
      -- a sign ahead
      have turn : ∀ k : Int, k = 3 ∨ k = 4 → ∀ x : ByteArray, x ≠ ByteArray.empty → takeB K x s = true → ((exprsP K f).1 (stepP s)).2.err = 0 → PU K V (f + 1) s (.mk k 0 [((exprsP K f).1 (stepP s)).1], ((exprsP K f).1 (stepP s)).2) := by
        intro k hk x hx ht he
        have hl := (take_lt hx ht).2
        have P := iu (stepP s) hl h2 he
        obtain ⟨r, hr⟩ : ∃ r, r = (exprsP K f).1 (stepP s) := ⟨_, rfl⟩
        rw [← hr] at P ⊢
        have hsz := P.size
        have hsa : (stepP s).at_ = s.at_ + 1 := rfl
        refine ⟨good_turn hk P.good, ?_, by show s.at_ + sizeT (.mk k 0 [r.1]) ≤ r.2.at_; rw [size_one]; omega⟩
        show (needT (.mk k 0 [r.1])).1 ≤ f + 1
        rw [needT]
        unfold needN
        rw [if_pos hk]
        show kidNeed (needL [r.1]) 0 9 + 1 ≤ f + 1
        have k0 : kidNeed (needL [r.1]) 0 9 ≤ f := by
          refine kidNeed_le (by simp) (fun q1 q2 => absurd ?_ q2) fun _ => P.need
          have := op_str (good_op P.good q1)
          show strI r.1.num < 9
          omega
        omega
      split
      · rename_i q
        rw [if_pos q] at he
        exact turn 3 (.inl rfl) minusT minus_ne q he
      rename_i q1
      rw [if_neg q1] at he
      split
      · rename_i q
        rw [if_pos q] at he
        exact turn 4 (.inr rfl) _ (by decide) q he
      rename_i q2
      rw [if_neg q2] at he
      split
      · rename_i q
        rw [if_pos q] at he
        have hl : (stepP s).at_ ≤ K.length := (take_lt (by decide) q).2
        have hsa : (stepP s).at_ = s.at_ + 1 := rfl
        have ea : ((exprsP K f).2 0 (stepP s)).2.err = 0 := want_back (by decide) he
        have P := ix 0 (stepP s) hl h2 ea
        have hw := wantP_ok he
        obtain ⟨r, hr⟩ : ∃ r, r = (exprsP K f).2 0 (stepP s) := ⟨_, rfl⟩
        rw [← hr] at P hw ⊢
        have hsz := P.size
        have hnd := P.need
        refine ⟨P.good, ?_, ?_⟩
        · show (needT r.1).1 ≤ f + 1
          by_cases k5 : r.1.kind = 5
          · have := need_op k5; omega
          · have := need_part k5; omega
        · show s.at_ + sizeT r.1 ≤ (wantP K ⟨#[41]⟩ r.2).at_
          rw [hw.2]
          show _ ≤ r.2.at_ + 1
          omega
      rename_i q3
      rw [if_neg q3] at he
      split
      · rename_i q
        rw [if_pos q] at he
        have hl : (stepP s).at_ ≤ K.length := (take_lt (by decide) q).2
        have hsa : (stepP s).at_ = s.at_ + 1 := rfl
        unfold choiceP at he ⊢
        simp only at he ⊢
        obtain ⟨s1, e1⟩ : ∃ y, y = wantP K ⟨#[40]⟩ (stepP s) := ⟨_, rfl⟩
        rw [← e1] at he ⊢
        obtain ⟨a, ha⟩ : ∃ y, y = (exprsP K f).2 0 s1 := ⟨_, rfl⟩
        rw [← ha] at he ⊢
        obtain ⟨s2, e2⟩ : ∃ y, y = wantP K ⟨#[44]⟩ a.2 := ⟨_, rfl⟩
        rw [← e2] at he ⊢
        obtain ⟨b, hb⟩ : ∃ y, y = (exprsP K f).2 0 s2 := ⟨_, rfl⟩
        rw [← hb] at he ⊢
        obtain ⟨s3, e3⟩ : ∃ y, y = wantP K ⟨#[44]⟩ b.2 := ⟨_, rfl⟩
        rw [← e3] at he ⊢
        obtain ⟨c, hc⟩ : ∃ y, y = (exprsP K f).2 0 s3 := ⟨_, rfl⟩
        rw [← hc] at he ⊢
        have gx : Good K ((exprsP K f).2 0) := ⟨fun s h => (exprs_stuck f s h).2 0, fun s => (mv_exprs f).2 0 s⟩
        have ec : c.2.err = 0 := want_back (by decide) he
        have r3 : s3.err = 0 := gx.back (by rw [← hc]; exact ec)
        have eb : b.2.err = 0 := want_back (x := ⟨#[44]⟩) (by decide) (by rw [← e3]; exact r3)
        have r2 : s2.err = 0 := gx.back (by rw [← hb]; exact eb)
        have ea : a.2.err = 0 := want_back (x := ⟨#[44]⟩) (by decide) (by rw [← e2]; exact r2)
        have r1 : s1.err = 0 := gx.back (by rw [← ha]; exact ea)
        have w1 := (wantP_ok (K := K) (x := ⟨#[40]⟩) (s := stepP s) (by rw [← e1]; exact r1)).2
        rw [← e1] at w1
        have w2 := (wantP_ok (K := K) (x := ⟨#[44]⟩) (s := a.2) (by rw [← e2]; exact r2)).2
        rw [← e2] at w2
        have w3 := (wantP_ok (K := K) (x := ⟨#[44]⟩) (s := b.2) (by rw [← e3]; exact r3)).2
        rw [← e3] at w3
        have w4 := (wantP_ok he).2
        have l1 : s1.at_ ≤ K.length := by rw [e1]; exact (mv_want (by decide) _).in_ hl
        have la : a.2.at_ ≤ K.length := by rw [ha]; exact (gx.mv s1).in_ l1
        have l2 : s2.at_ ≤ K.length := by rw [e2]; exact (mv_want (by decide) a.2).in_ la
        have lb : b.2.at_ ≤ K.length := by rw [hb]; exact (gx.mv s2).in_ l2
        have l3 : s3.at_ ≤ K.length := by rw [e3]; exact (mv_want (by decide) b.2).in_ lb
        have v1 : s1.vars.length = V := by rw [w1]; exact h2
        have va : a.2.vars.length = V := by rw [ha, (gx.mv s1).vars]; exact v1
        have v2 : s2.vars.length = V := by rw [w2]; exact va
        have vb : b.2.vars.length = V := by rw [hb, (gx.mv s2).vars]; exact v2
        have v3 : s3.vars.length = V := by rw [w3]; exact vb
        have Pa := ix 0 s1 l1 v1 (by rw [← ha]; exact ea)
        have Pb := ix 0 s2 l2 v2 (by rw [← hb]; exact eb)
        have Pc := ix 0 s3 l3 v3 (by rw [← hc]; exact ec)
        rw [← ha] at Pa
        rw [← hb] at Pb
        rw [← hc] at Pc
        have t1 := Pa.size
        have t2 := Pb.size
        have t3 := Pc.size
        have a1 : s1.at_ = s.at_ + 1 + 1 := by rw [w1]; rfl
        have a2 : s2.at_ = a.2.at_ + 1 := by rw [w2]; rfl
        have a3 : s3.at_ = b.2.at_ + 1 := by rw [w3]; rfl
        have nd : ∀ t : Tr, Good_ V t → (needT t).2 ≤ f → ∀ l : List Tr, ∀ j, j < l.length → l.getD j default = t → kidNeed (needL l) j 0 ≤ f := by
          intro t g h l j hj e
          refine kidNeed_le hj (fun _ _ => by rw [e]; exact h) fun q => ?_
          rw [e] at q ⊢
          by_cases k5 : t.kind = 5
          · exfalso
            apply q
            have := op_str (good_op g k5)
            exact ⟨k5, by omega⟩
          · have := need_part k5; omega
        refine ⟨good_if Pa.good Pb.good Pc.good, ?_, ?_⟩
        · show (needT (.mk 6 0 [a.1, b.1, c.1])).1 ≤ f + 1
          rw [needT]
          unfold needN
          rw [if_neg (by decide), if_neg (by decide), if_pos rfl]
          show max (kidNeed (needL [a.1, b.1, c.1]) 0 0) (max (kidNeed (needL [a.1, b.1, c.1]) 1 0) (kidNeed (needL [a.1, b.1, c.1]) 2 0)) + 1 ≤ f + 1
          have n0 := nd a.1 Pa.good Pa.need [a.1, b.1, c.1] 0 (by simp) rfl
          have n1 := nd b.1 Pb.good Pb.need [a.1, b.1, c.1] 1 (by simp) rfl
          have n2 := nd c.1 Pc.good Pc.need [a.1, b.1, c.1] 2 (by simp) rfl
          omega
        · show s.at_ + sizeT (.mk 6 0 [a.1, b.1, c.1]) ≤ (wantP K ⟨#[41]⟩ c.2).at_
          rw [size_three, w4]
          show _ ≤ c.2.at_ + 1
          omega
      rename_i q4
      rw [if_neg q4] at he
      split
      · rename_i q
        rw [if_pos q] at he
        obtain ⟨n1, n2⟩ := numbS_ok he
        refine ⟨good_num (numbV_ok n1), ?_, ?_⟩
        · show (needT (.mk 1 _ [])).1 ≤ f + 1
          rw [needT]
          show 1 ≤ f + 1
          omega
        · show s.at_ + sizeT (.mk 1 _ []) ≤ (numbS K s).at_
          rw [size_none, n2]; exact Nat.le_refl _
      · rename_i q
        rw [if_neg q] at he
        obtain ⟨n1, n2, n3, n4⟩ := knownS_ok he
        have hf := find_lt s.vars (nameV K s)
        rw [h2] at hf
        refine ⟨?_, ?_, ?_⟩
        · show Good_ V (.mk 2 (knownV K (findVar s) s) [])
          rw [n4]
          exact good_var ⟨n2, hf⟩
        · show (needT (.mk 2 _ [])).1 ≤ f + 1
          rw [needT]
          show 1 ≤ f + 1
          omega
        · show s.at_ + sizeT (.mk 2 _ []) ≤ (knownS K (findVar s) s).at_
          rw [size_none, n3]; exact Nat.le_refl _
    refine ⟨U, fun st s h1 h2 he => ?_⟩
    have e : ((exprsP K (f + 1)).2 st s) = loopP K (exprsP K f).2 st (K.length + 1) ((exprsP K (f + 1)).1 s).1 ((exprsP K (f + 1)).1 s).2 := rfl
    have he2 : ((exprsP K (f + 1)).1 s).2.err = 0 := by
      rcases Decidable.em (((exprsP K (f + 1)).1 s).2.err = 0) with q | q
      · exact q
      · rw [e, loop_stuck _ _ _ q] at he; exact he
    rw [e] at he ⊢
    have P := U s h1 h2 he2
    have hm := (mv_exprs (K := K) (f + 1)).1 s
    refine need_loop ix st s (K.length + 1) _ _ (hm.in_ h1) (by rw [hm.vars]; exact h2) P.good ?_ (fun _ => .inl P.need) P.size (by omega) he
    have := (need_pos ((exprsP K (f + 1)).1 s).1).1
    have := P.need
    omega
/-- An expression that was read. -/
theorem expr_need {st : Int} {s : Ps} (h1 : s.at_ ≤ K.length) (he : (exprP K st s).2.err = 0) : Good_ s.vars.length (exprP K st s).1 ∧ (needT (exprP K st s).1).2 ≤ 40 ∧ s.at_ + sizeT (exprP K st s).1 ≤ (exprP K st s).2.at_ := by
  have P := (pa_need (K := K) (V := s.vars.length) 40).2 st s h1 rfl he
  exact ⟨P.good, P.need, P.size⟩
end
end Go.Proofs.YtkpjhjoopdbkaaaGreatDoor
namespace Go.Proofs.YtkpjhjoopdbkaaaGreatDoor
theorem cut_read {names : List ByteArray} (hN : NmOk names) : ∀ (N : Nat) (t : Tr), t.sz ≤ N → partsT names.length t = true → readT t = true → Cut (textT names t) (toksT names t)
  | 0, t, hN, _, _ => by have := t.sz_pos; omega
  | N + 1, t, hsz, hp, hR => by
    have IH : ∀ j, j < t.kids.length → ∀ s, Cut (kidS (textL names t.kids) j s) (kidK (toksL names t.kids) j s) := fun j hj s => by
      rw [partsT_eq, Bool.and_eq_true] at hp
      have hk := Tr.kid_lt hj
      exact cut_kid hj (cut_read hN N _ (by omega) (partsL_at hp.2 hj) (readT_kid hR hj)) s
    rw [partsT_eq, Bool.and_eq_true] at hp
    have hi2 := readT_num hR
    rw [textT_eq, toksT_eq]
    obtain ⟨k, hk⟩ : ∃ k, k = t.kind := ⟨_, rfl⟩
    obtain ⟨n, hn⟩ : ∃ n, n = t.num := ⟨_, rfl⟩
    rw [← hk, ← hn] at hp ⊢
    rw [← hk, ← hn] at hi2
    rcases ok_cases hp.1 with ⟨rfl, hm⟩ | ⟨rfl, hm, n0, n1⟩ | ⟨rfl, hm⟩ | ⟨rfl, hm⟩ | ⟨rfl, hm, hkn⟩ | ⟨rfl, hm⟩
    · have hi2 := hi2 rfl
      have n0 : 0 ≤ n := hi2.1
      obtain ⟨o1, _⟩ := itoa_num n0 hi2.2
      have e : textN names 1 n (textL names t.kids) = Lib.itoa n := by unfold textN decP; rw [if_pos rfl, if_neg (by omega)]
      have e2 : toksN names 1 n (toksL names t.kids) = [(2, ⟨(Lib.itoa n).toArray⟩)] := by unfold toksN; rw [if_pos rfl]
      rw [e, e2]
      refine ⟨fun r hr => by rw [lxK_num o1 hr, map_one], ?_⟩
      rcases hu : Lib.itoa n with _ | ⟨c, q⟩
      · rw [hu] at o1; cases o1
      · refine ⟨c, q, rfl, ?_⟩
        rw [hu] at o1
        intro e
        subst e
        simp [numOk, allDigits, isDigit] at o1
    · have hlt : n.toNat < names.length := by omega
      have hmem : names.getD n.toNat ⟨#[]⟩ ∈ names := by rw [List.getD, List.getElem?_eq_getElem hlt]; exact List.getElem_mem hlt
      obtain ⟨o1, _⟩ := hN.ok _ hmem
      obtain ⟨x, hx⟩ : ∃ x, x = names.getD n.toNat ⟨#[]⟩ := ⟨_, rfl⟩
      have e : textN names 2 n (textL names t.kids) = x.data.toList := by unfold textN nameS; rw [if_neg (by decide), if_pos rfl, if_pos ⟨n0, n1⟩, ← hx]
      have e2 : toksN names 2 n (toksL names t.kids) = [(1, x)] := by unfold toksN; rw [if_neg (by decide), if_pos rfl, ← hx]
      rw [e, e2]
      rw [← hx] at o1
      refine ⟨fun r hr => by rw [lxK_name o1 hr, map_one, show (⟨x.data.toList.toArray⟩ : ByteArray) = x by simp], ?_⟩
      rcases hu : x.data.toList with _ | ⟨c, q⟩
      · rw [hu] at o1; cases o1
      · refine ⟨c, q, rfl, ?_⟩
        rw [hu] at o1
        intro e
        subst e
        simp [nameOk, isLetter] at o1
    · have e : textN names 3 n (textL names t.kids) = 45 :: kidS (textL names t.kids) 0 9 := by unfold textN; rw [if_neg (by decide), if_neg (by decide), if_pos rfl]; rfl
      have e2 : toksN names 3 n (toksL names t.kids) = (3, ⟨#[45]⟩) :: kidK (toksL names t.kids) 0 9 := by unfold toksN; rw [if_neg (by decide), if_neg (by decide), if_pos rfl]
      have c0 := IH 0 (by omega) 9
      rw [e, e2]
      refine ⟨fun r hr => ?_, 45, _, rfl, by decide⟩
      rw [List.cons_append, lxK_sign _ (by simp), c0.1 r hr, map_cons_app]
    · have e : textN names 4 n (textL names t.kids) = 33 :: kidS (textL names t.kids) 0 9 := by unfold textN; rw [if_neg (by decide), if_neg (by decide), if_neg (by decide), if_pos rfl]; rfl
      have e2 : toksN names 4 n (toksL names t.kids) = (3, ⟨#[33]⟩) :: kidK (toksL names t.kids) 0 9 := by unfold toksN; rw [if_neg (by decide), if_neg (by decide), if_neg (by decide), if_pos rfl]
      have c0 := IH 0 (by omega) 9
      rw [e, e2]
      refine ⟨fun r hr => ?_, 33, _, rfl, by decide⟩
      obtain ⟨c, q, hc, hne⟩ := c0.2
      rw [List.cons_append, lxK_not (by rw [hc]; intro q' e; injection e with e1 _; exact hne e1), c0.1 r hr, map_cons_app]
    · have e : textN names 5 n (textL names t.kids) = kidS (textL names t.kids) 0 (strI n) ++ (32 :: ((signOf n).data.toList ++ 32 :: kidS (textL names t.kids) 1 (strI n + 1))) := by
        unfold textN; rw [if_neg (by decide), if_neg (by decide), if_neg (by decide), if_neg (by decide), if_pos rfl]; simp
      have e2 : toksN names 5 n (toksL names t.kids) = kidK (toksL names t.kids) 0 (strI n) ++ (3, signOf n) :: kidK (toksL names t.kids) 1 (strI n + 1) := by
        unfold toksN; rw [if_neg (by decide), if_neg (by decide), if_neg (by decide), if_neg (by decide), if_pos rfl]
      have c0 := IH 0 (by omega) (strI n)
      have c1 := IH 1 (by omega) (strI n + 1)
      rw [e, e2]
      refine ⟨fun r hr => ?_, ?_⟩
      · rw [List.append_assoc, List.cons_append, List.append_assoc, List.cons_append, c0.1 _ (safe_of _ (by decide)), lxK_blank (by decide), lxK_op hkn, c1.1 r hr, map_cons_app, map_app_app]
      · obtain ⟨c, q, hc, hne⟩ := c0.2
        exact ⟨c, _, by rw [hc]; rfl, hne⟩
    · have e : textN names 6 n (textL names t.kids) = [105, 102] ++ (40 :: (kidS (textL names t.kids) 0 0 ++ (44 :: 32 :: (kidS (textL names t.kids) 1 0 ++ (44 :: 32 :: (kidS (textL names t.kids) 2 0 ++ [41])))))) := by
        unfold textN; rw [if_neg (by decide), if_neg (by decide), if_neg (by decide), if_neg (by decide), if_neg (by decide), if_pos rfl]; simp
      have e2 : toksN names 6 n (toksL names t.kids) = (1, ⟨#[105, 102]⟩) :: (3, ⟨#[40]⟩) :: (kidK (toksL names t.kids) 0 0 ++ (3, ⟨#[44]⟩) :: (kidK (toksL names t.kids) 1 0 ++ (3, ⟨#[44]⟩) :: (kidK (toksL names t.kids) 2 0 ++ [(3, ⟨#[41]⟩)]))) := by
        unfold toksN; rw [if_neg (by decide), if_neg (by decide), if_neg (by decide), if_neg (by decide), if_neg (by decide), if_pos rfl]
      have c0 := IH 0 (by omega) 0
      have c1 := IH 1 (by omega) 0
      have c2 := IH 2 (by omega) 0
      rw [e, e2]
      refine ⟨fun r hr => ?_, 105, _, rfl, by decide⟩
      rw [show [105, 102] ++ (40 :: (kidS (textL names t.kids) 0 0 ++ (44 :: 32 :: (kidS (textL names t.kids) 1 0 ++ (44 :: 32 :: (kidS (textL names t.kids) 2 0 ++ [41])))))) ++ r = [105, 102] ++ (40 :: (kidS (textL names t.kids) 0 0 ++ (44 :: 32 :: (kidS (textL names t.kids) 1 0 ++ (44 :: 32 :: (kidS (textL names t.kids) 2 0 ++ (41 :: r))))))) by simp]
      rw [lxK_name (u := [105, 102]) (by decide) (safe_of _ (by decide)), lxK_sign _ (by simp), c0.1 _ (safe_of _ (by decide)), lxK_sign _ (by simp), lxK_blank (by decide), c1.1 _ (safe_of _ (by decide)), lxK_sign _ (by simp), lxK_blank (by decide), c2.1 _ (safe_of _ (by decide)), lxK_sign r (by simp)]
      cases lxK r <;> simp
theorem read_short {names : List ByteArray} (hN : NmOk names) : ∀ (N : Nat) (t : Tr), t.sz ≤ N → partsT names.length t = true → readT t = true → (textT names t).length + 2 ≤ 34 * sizeT t
  | 0, t, _, _, _ => by have := t.sz_pos; omega
  | N + 1, t, hsz, hp, hR => by
    have IH : ∀ j, j < t.kids.length → ∀ s, (kidS (textL names t.kids) j s).length ≤ 34 * sizeT (t.kids.getD j default) := fun j hj s => by
      rw [partsT_eq, Bool.and_eq_true] at hp
      have hk := Tr.kid_lt hj
      have h1 := read_short hN N _ (by omega) (partsL_at hp.2 hj) (readT_kid hR hj)
      have h2 := kid_short names hj s
      omega
    rw [partsT_eq, Bool.and_eq_true] at hp
    have hi2 := readT_num hR
    have hs : sizeT t = sizeL t.kids + 1 := by obtain ⟨k, n, q⟩ := t; rw [sizeT]; rfl
    obtain ⟨_, s1, s2, s3⟩ := sizeL_at t.kids
    rw [textT_eq]
    obtain ⟨k, hk⟩ : ∃ k, k = t.kind := ⟨_, rfl⟩
    obtain ⟨n, hn⟩ : ∃ n, n = t.num := ⟨_, rfl⟩
    rw [← hk, ← hn] at hp ⊢
    rw [← hk, ← hn] at hi2
    unfold textN
    rcases ok_cases hp.1 with ⟨rfl, hm⟩ | ⟨rfl, hm, n0, n1⟩ | ⟨rfl, hm⟩ | ⟨rfl, hm⟩ | ⟨rfl, hm, hkn⟩ | ⟨rfl, hm⟩
    · have hi2 := hi2 rfl
      have n0 : 0 ≤ n := hi2.1
      have := dec_len (show I64 n from ⟨by omega, hi2.2⟩)
      rw [if_pos rfl]
      unfold decP
      rw [if_neg (by omega)]
      omega
    · have hlt : n.toNat < names.length := by omega
      have hmem : names.getD n.toNat ⟨#[]⟩ ∈ names := by rw [List.getD, List.getElem?_eq_getElem hlt]; exact List.getElem_mem hlt
      obtain ⟨o1, _⟩ := hN.ok _ hmem
      rw [if_neg (by decide), if_pos rfl]
      unfold nameS
      rw [if_pos ⟨n0, n1⟩]
      unfold nameOk at o1
      simp only [Bool.and_eq_true, decide_eq_true_eq] at o1
      have := o1.1.1.2
      omega
    · have h0 := IH 0 (by omega) 9
      have := s1 hm
      rw [if_neg (by decide), if_neg (by decide), if_pos rfl]
      simp only [List.length_append, List.length_cons, List.length_nil]
      omega
    · have h0 := IH 0 (by omega) 9
      have := s1 hm
      rw [if_neg (by decide), if_neg (by decide), if_neg (by decide), if_pos rfl]
      simp only [List.length_append, List.length_cons, List.length_nil]
      omega
    · have h0 := IH 0 (by omega) (strI n)
      have h1 := IH 1 (by omega) (strI n + 1)
      have := s2 hm
      have hsg := sign_len n
      rw [if_neg (by decide), if_neg (by decide), if_neg (by decide), if_neg (by decide), if_pos rfl]
      simp only [List.length_append, List.length_cons, List.length_nil]
      omega
    · have h0 := IH 0 (by omega) 0
      have h1 := IH 1 (by omega) 0
      have h2 := IH 2 (by omega) 0
      have := s3 hm
      rw [if_neg (by decide), if_neg (by decide), if_neg (by decide), if_neg (by decide), if_neg (by decide), if_pos rfl]
      simp only [List.length_append, List.length_cons, List.length_nil]
      omega
theorem spine2 {K : List Kt} {names : List ByteArray} (hN : NmOk names) : ∀ (N : Nat) (t : Tr), t.sz ≤ N → partsT names.length t = true → readT t = true → ∀ F, (needT t).2 ≤ F → Spine K names t F
  | 0, t, hsz, _, _, _, _ => by have := t.sz_pos; omega
  | N + 1, t, hsz, hp, hR, F, hF => by
    have IH : ∀ j, j < t.kids.length → ∀ F, (needT (t.kids.getD j default)).2 ≤ F → Spine K names (t.kids.getD j default) F := fun j hj F hF => by
      rw [partsT_eq, Bool.and_eq_true] at hp
      have hk := Tr.kid_lt hj
      exact spine2 hN N _ (by omega) (partsL_at hp.2 hj) (readT_kid hR hj) F hF
    -- a kid's operation is known
    have KN : ∀ j, j < t.kids.length → (t.kids.getD j default).kind = 5 → 1 ≤ strI (t.kids.getD j default).num ∧ strI (t.kids.getD j default).num ≤ 5 := fun j hj h5 => by
      rw [partsT_eq, Bool.and_eq_true] at hp
      have h := partsL_at hp.2 hj
      rw [partsT_eq, Bool.and_eq_true] at h
      rcases ok_cases h.1 with ⟨q, _⟩ | ⟨q, _⟩ | ⟨q, _⟩ | ⟨q, _⟩ | ⟨_, _, hk⟩ | ⟨q, _⟩
      · omega
      · omega
      · omega
      · omega
      · exact (op_facts hk).2.2
      · omega
    have NP := fun j => need_pos (t.kids.getD j default)
    have KB : ∀ j, j < t.kids.length → ∀ s B, kidNeed (needL t.kids) j s ≤ B → ((t.kids.getD j default).kind = 5 ∧ ¬ strI (t.kids.getD j default).num < s → (needT (t.kids.getD j default)).2 ≤ B) ∧ (¬ ((t.kids.getD j default).kind = 5 ∧ ¬ strI (t.kids.getD j default).num < s) → (needT (t.kids.getD j default)).1 ≤ B) := fun j hj s B h => by
      rw [kidNeed_at hj] at h
      exact ⟨fun q => by rw [if_pos q] at h; exact h, fun q => by rw [if_neg q] at h; exact h⟩
    have hF0 := (need_pos t).2
    have hND := needT_eq t
    rw [partsT_eq, Bool.and_eq_true] at hp
    have hi2 := readT_num hR
    obtain ⟨G, rfl⟩ : ∃ G, F = G + 1 := ⟨F - 1, by omega⟩
    have hT := toksT_eq names t
    have hC := cleanT_eq t
    obtain ⟨k, hk⟩ : ∃ k, k = t.kind := ⟨_, rfl⟩
    obtain ⟨n, hn⟩ : ∃ n, n = t.num := ⟨_, rfl⟩
    rw [← hk, ← hn] at hp hT hC hND
    rw [← hk, ← hn] at hi2
    -- it is enough to read a part
    have enough : k ≠ 5 → (∀ s r, Hd_ K names s (toksT names t) r → (exprsP K (G + 1)).1 s = (cleanT t, adv s (toksT names t).length)) → Spine K names t (G + 1) := fun h5 hu =>
      ⟨fun _ => hu, fun st s r h _ => ⟨G, rfl, un_loop (hu s r h)⟩⟩
    rcases ok_cases hp.1 with ⟨rfl, hm⟩ | ⟨rfl, hm, n0, n1⟩ | ⟨rfl, hm⟩ | ⟨rfl, hm⟩ | ⟨rfl, hm, hkn⟩ | ⟨rfl, hm⟩
    · -- a number
      refine enough (by decide) fun s r h => ?_
      have hi2 := hi2 rfl
      have n0 : 0 ≤ n := hi2.1
      obtain ⟨o1, o2⟩ := itoa_num n0 hi2.2
      have e2 : toksN names 1 n (toksL names t.kids) = [(2, ⟨(Lib.itoa n).toArray⟩)] := by unfold toksN; rw [if_pos rfl]
      rw [hT, e2] at h ⊢
      rw [hC, List.length_eq_zero_iff.1 hm, if_pos (.inl rfl)]
      have hs := sees_num h
      have hnx := h.next
      have hb : numB K s = true := by
        unfold numB; rw [hnx]
        simp [o1]
      show unaryP K (exprsP K G).2 (exprsP K G).1 s = _
      unfold unaryP
      rw [take_no (z := minusT) hs (by decide), take_no (z := ⟨#[33]⟩) hs (by decide), take_no (z := ⟨#[40]⟩) hs (by decide), take_no (z := ⟨#[105, 102]⟩) hs (by decide)]
      simp only [Bool.false_eq_true, if_false]
      rw [if_pos (by rw [hnx])]
      have hv : numbV K s = n := by unfold numbV; rw [if_pos hb, hnx]; simpa using o2
      have hss : numbS K s = stepP s := by unfold numbS; rw [if_pos hb]
      rw [hv, hss]
      rfl
    · -- a variable
      refine enough (by decide) fun s r h => ?_
      have hlt : n.toNat < names.length := by omega
      have hmem : names.getD n.toNat ⟨#[]⟩ ∈ names := by rw [List.getD, List.getElem?_eq_getElem hlt]; exact List.getElem_mem hlt
      obtain ⟨_, o2⟩ := hN.ok _ hmem
      have hf := find_at hN.nodup hlt
      obtain ⟨x, hx⟩ : ∃ x, x = names.getD n.toNat ⟨#[]⟩ := ⟨_, rfl⟩
      rw [← hx] at o2 hf
      have e2 : toksN names 2 n (toksL names t.kids) = [(1, x)] := by unfold toksN; rw [if_neg (by decide), if_pos rfl, ← hx]
      rw [hT, e2] at h ⊢
      rw [hC, List.length_eq_zero_iff.1 hm, if_pos (.inr (.inl rfl))]
      have hs := sees_name o2 h
      have hnx := h.next
      show unaryP K (exprsP K G).2 (exprsP K G).1 s = _
      unfold unaryP
      rw [take_no (z := minusT) hs (by decide), take_no (z := ⟨#[33]⟩) hs (by decide), take_no (z := ⟨#[40]⟩) hs (by decide), take_no (z := ⟨#[105, 102]⟩) hs (by decide)]
      simp only [Bool.false_eq_true, if_false]
      rw [if_neg (by rw [hnx]; simp)]
      have hb : nameB K s = true := by unfold nameB; rw [hnx]; simp [o2]
      have hv : nameV K s = x := by unfold nameV; rw [if_pos hb, hnx]
      have hfv : findVar s (nameV K s) = n := by unfold findVar; rw [h.vars, hv, hf]; omega
      have e1 : knownV K (findVar s) s = n := by unfold knownV; rw [hfv, hb, decide_eq_true n0]; rfl
      have e3 : knownS K (findVar s) s = stepP s := by unfold knownS; rw [if_pos hb, hfv, if_neg (by omega)]
      rw [e1, e3]
      rfl
    · -- minus
      refine enough (by decide) fun s r h => ?_
      have hnd : needT t = (kidNeed (needL t.kids) 0 9 + 1, kidNeed (needL t.kids) 0 9 + 1) := by rw [hND]; unfold needN; rw [if_pos (by decide)]
      rw [hnd] at hF
      have e2 : toksN names 3 n (toksL names t.kids) = (3, ⟨#[45]⟩) :: kidK (toksL names t.kids) 0 9 := by unfold toksN; rw [if_neg (by decide), if_neg (by decide), if_pos rfl]
      rw [hT, e2] at h ⊢
      have hj : 0 < t.kids.length := by omega
      have b0 : (needT (t.kids.getD 0 default)).1 ≤ G := (KB 0 hj 9 G (by have h9 : kidNeed (needL t.kids) 0 9 + 1 ≤ G + 1 := hF; omega)).2 fun q => q.2 (by have := KN 0 hj q.1; omega)
      have np := NP 0
      have hu := kid_unary (K := K) (names := names) (F := G) hj (σ := 9) (fun q => ⟨by have := KN 0 hj q; omega, by have := KN 0 hj q; omega⟩) (by omega) (fun _ => IH 0 hj G (by omega)) (fun q => IH 0 hj (G - 1) (by have := need_op q; omega)) h.step
      have hs := sees_sign h
      show unaryP K (exprsP K G).2 (exprsP K G).1 s = _
      unfold unaryP
      rw [if_pos (show takeB K minusT s = true from take_yes hs), hu, hC, if_neg (by decide), cleanL_map, list_one hm]
      simp only [step_adv, List.length_cons, List.map_cons, List.map_nil]
      rfl
    · -- not
      refine enough (by decide) fun s r h => ?_
      have hnd : needT t = (kidNeed (needL t.kids) 0 9 + 1, kidNeed (needL t.kids) 0 9 + 1) := by rw [hND]; unfold needN; rw [if_pos (by decide)]
      rw [hnd] at hF
      have e2 : toksN names 4 n (toksL names t.kids) = (3, ⟨#[33]⟩) :: kidK (toksL names t.kids) 0 9 := by unfold toksN; rw [if_neg (by decide), if_neg (by decide), if_neg (by decide), if_pos rfl]
      rw [hT, e2] at h ⊢
      have hj : 0 < t.kids.length := by omega
      have b0 : (needT (t.kids.getD 0 default)).1 ≤ G := (KB 0 hj 9 G (by have h9 : kidNeed (needL t.kids) 0 9 + 1 ≤ G + 1 := hF; omega)).2 fun q => q.2 (by have := KN 0 hj q.1; omega)
      have np := NP 0
      have hu := kid_unary (K := K) (names := names) (F := G) hj (σ := 9) (fun q => ⟨by have := KN 0 hj q; omega, by have := KN 0 hj q; omega⟩) (by omega) (fun _ => IH 0 hj G (by omega)) (fun q => IH 0 hj (G - 1) (by have := need_op q; omega)) h.step
      have hs := sees_sign h
      show unaryP K (exprsP K G).2 (exprsP K G).1 s = _
      unfold unaryP
      rw [take_no (z := minusT) hs (by decide), if_neg (by decide), if_pos (take_yes hs), hu, hC, if_neg (by decide), cleanL_map, list_one hm]
      simp only [step_adv, List.length_cons, List.map_cons, List.map_nil]
      rfl
    · -- an operation
      refine ⟨fun h => absurd hk.symm h, fun st s r h hc => ⟨G, rfl, ?_⟩⟩
      obtain ⟨hst, hse⟩ := hc hk.symm
      rw [← hn] at hst hse
      have e2 : toksN names 5 n (toksL names t.kids) = kidK (toksL names t.kids) 0 (strI n) ++ (3, signOf n) :: kidK (toksL names t.kids) 1 (strI n + 1) := by
        unfold toksN; rw [if_neg (by decide), if_neg (by decide), if_neg (by decide), if_neg (by decide), if_pos rfl]
      rw [hT, e2] at h hse ⊢
      obtain ⟨f1, f2, f3, f4⟩ := op_facts hkn
      have j0 : 0 < t.kids.length := by omega
      have j1 : 1 < t.kids.length := by omega
      have hnd : (needT t).2 = max (kidNeed (needL t.kids) 0 (strI n)) (kidNeed (needL t.kids) 1 (strI n + 1) + 1) := by rw [hND]; unfold needN; rw [if_neg (by decide), if_pos rfl]
      have B0 := KB 0 j0 (strI n) (G + 1) (by omega)
      have B1 := KB 1 j1 (strI n + 1) G (by omega)
      have p0 := NP 0
      have p1 := NP 1
      have a0 := IH 0 j0
      have a1 := IH 1 j1
      have k0 := KN 0 j0
      have k1 := KN 1 j1
      obtain ⟨la, hla⟩ : ∃ l, l = kidK (toksL names t.kids) 0 (strI n) := ⟨_, rfl⟩
      obtain ⟨lb, hlb⟩ : ∃ l, l = kidK (toksL names t.kids) 1 (strI n + 1) := ⟨_, rfl⟩
      have hla2 := kidK_at (names := names) j0 (strI n)
      have hlb2 := kidK_at (names := names) j1 (strI n + 1)
      rw [← hla] at h hse hla2 ⊢
      rw [← hlb] at h hse hlb2 ⊢
      -- the left kid
      have hL : (exprsP K (G + 1)).2 st s = loopP K (exprsP K G).2 st (K.length + 1) (cleanT (t.kids.getD 0 default)) (adv s la.length) := by
        by_cases q : (t.kids.getD 0 default).kind = 5 ∧ ¬ strI (t.kids.getD 0 default).num < strI n
        · rw [if_neg (fun z => q.2 z.2)] at hla2
          rw [hla2] at h ⊢
          have hs1 : seesP K (adv s (toksT names (t.kids.getD 0 default)).length) = signOf n := sees_sign h.go
          have hsg : signB K (strI (t.kids.getD 0 default).num) (adv s (toksT names (t.kids.getD 0 default)).length) = false := by
            unfold signB
            rw [hs1, f2, decide_eq_false q.2, Bool.and_false]
          obtain ⟨G', eG, e⟩ := (a0 (G + 1) (B0.1 q)).ex st s _ h.app (fun _ => ⟨by omega, hsg⟩)
          obtain rfl : G' = G := by omega
          exact e
        · have hu := kid_unary (K := K) (names := names) (F := G + 1) j0 (σ := strI n) (fun z => ⟨by
              rcases Decidable.em (strI (t.kids.getD 0 default).num < strI n) with y | y
              · exact y
              · exact absurd ⟨z, y⟩ q, by have := k0 z; omega⟩) (by omega) (fun _ => a0 (G + 1) (by have := B0.2 q; omega)) (fun z => a0 (G + 1 - 1) (by have := B0.2 q; have := need_op z; omega)) (s := s) (by rw [← hla]; exact h.app)
          rw [← hla] at hu
          rw [un_loop hu]
      rw [hL]
      -- the operation
      have h1 := h.go
      have hs1 := sees_sign h1
      have hsg : signB K st (adv s la.length) = true := by
        unfold signB
        rw [hs1, f1, f2, decide_eq_true hst]; rfl
      have h2 := h1.step
      rw [loopP, hsg, if_pos rfl, hs1, f2]
      -- the right kid
      have hend : adv (stepP (adv s la.length)) lb.length = adv s (la ++ (3, signOf n) :: lb).length := by
        rw [adv_step, adv_adv, List.length_append, List.length_cons]
        congr 1
        omega
      have hse2 : signB K (strI n) (adv (stepP (adv s la.length)) lb.length) = false := by rw [hend]; exact hse
      have hRt : (exprsP K G).2 (strI n) (stepP (adv s la.length)) = (cleanT (t.kids.getD 1 default), adv (stepP (adv s la.length)) lb.length) := by
        obtain ⟨g, rfl⟩ : ∃ g, G = g + 1 := ⟨G - 1, by
          rcases Decidable.em ((t.kids.getD 1 default).kind = 5 ∧ ¬ strI (t.kids.getD 1 default).num < strI n + 1) with y | y
          · have := B1.1 y; omega
          · have := B1.2 y; omega⟩
        by_cases q : (t.kids.getD 1 default).kind = 5 ∧ ¬ strI (t.kids.getD 1 default).num < strI n + 1
        · rw [if_neg (fun z => q.2 z.2)] at hlb2
          rw [hlb2] at h2 hse2 ⊢
          obtain ⟨g', eg, e⟩ := (a1 (g + 1) (B1.1 q)).ex (strI n) _ _ h2 (fun _ => ⟨by have := q.2; omega, sign_mono hse2 (by have := q.2; omega)⟩)
          rw [e]
          exact loop_end hse2 _ _
        · have hu := kid_unary (K := K) (names := names) (F := g + 1) j1 (σ := strI n + 1) (fun z => ⟨by
              rcases Decidable.em (strI (t.kids.getD 1 default).num < strI n + 1) with y | y
              · exact y
              · exact absurd ⟨z, y⟩ q, by have := k1 z; omega⟩) (by omega) (fun _ => a1 (g + 1) (by have := B1.2 q; omega)) (fun z => a1 (g + 1 - 1) (by have := B1.2 q; have := need_op z; omega)) (s := stepP (adv s la.length)) (by rw [← hlb]; exact h2)
          rw [← hlb] at hu
          rw [un_loop hu]
          exact loop_end hse2 _ _
      rw [hRt]
      simp only
      have hle := h.le (by simp)
      have hcl : cleanT t = .mk 5 n [cleanT (t.kids.getD 0 default), cleanT (t.kids.getD 1 default)] := by
        rw [hC, if_pos (.inr (.inr rfl)), cleanL_map, list_two hm]; rfl
      rw [hend, ← hcl]
      refine loop_fuel (fun st s => (mv_exprs G).2 st s) st _ _ _ _ hle ?_ (by omega)
      show K.length + 1 ≤ s.at_ + (la ++ (3, signOf n) :: lb).length + K.length
      rw [List.length_append, List.length_cons]
      omega
    · -- a choice
      refine enough (by decide) fun s r h => ?_
      have e2 : toksN names 6 n (toksL names t.kids) = (1, ⟨#[105, 102]⟩) :: (3, ⟨#[40]⟩) :: (kidK (toksL names t.kids) 0 0 ++ (3, ⟨#[44]⟩) :: (kidK (toksL names t.kids) 1 0 ++ (3, ⟨#[44]⟩) :: (kidK (toksL names t.kids) 2 0 ++ [(3, ⟨#[41]⟩)]))) := by
        unfold toksN; rw [if_neg (by decide), if_neg (by decide), if_neg (by decide), if_neg (by decide), if_neg (by decide), if_pos rfl]
      have j0 : 0 < t.kids.length := by omega
      have j1 : 1 < t.kids.length := by omega
      have j2 : 2 < t.kids.length := by omega
      have sb := fun x => strI_bd x
      have q0 : kidK (toksL names t.kids) 0 0 = toksT names (t.kids.getD 0 default) := by rw [kidK_at j0, if_neg (fun z => by have := sb (t.kids.getD 0 default).num; omega)]
      have q1 : kidK (toksL names t.kids) 1 0 = toksT names (t.kids.getD 1 default) := by rw [kidK_at j1, if_neg (fun z => by have := sb (t.kids.getD 1 default).num; omega)]
      have q2 : kidK (toksL names t.kids) 2 0 = toksT names (t.kids.getD 2 default) := by rw [kidK_at j2, if_neg (fun z => by have := sb (t.kids.getD 2 default).num; omega)]
      rw [hT, e2, q0, q1, q2] at h ⊢
      have hnd : (needT t).2 = max (kidNeed (needL t.kids) 0 0) (max (kidNeed (needL t.kids) 1 0) (kidNeed (needL t.kids) 2 0)) + 1 := by rw [hND]; unfold needN; rw [if_neg (by decide), if_neg (by decide), if_pos rfl]
      have B : ∀ j, j < t.kids.length → kidNeed (needL t.kids) j 0 ≤ G → (needT (t.kids.getD j default)).2 ≤ G := fun j hj h => by
        have KBj := KB j hj 0 G h
        by_cases y : (t.kids.getD j default).kind = 5 ∧ ¬ strI (t.kids.getD j default).num < 0
        · exact KBj.1 y
        · have := KBj.2 y
          have := NP j
          omega
      have d0 := B 0 j0 (by omega)
      have d1 := B 1 j1 (by omega)
      have d2 := B 2 j2 (by omega)
      have hs := sees_word (by decide +kernel) h
      show unaryP K (exprsP K G).2 (exprsP K G).1 s = _
      unfold unaryP
      rw [take_no (z := minusT) hs (by decide), take_no (z := ⟨#[33]⟩) hs (by decide), take_no (z := ⟨#[40]⟩) hs (by decide), if_neg (by decide), if_neg (by decide), if_neg (by decide), if_pos (take_yes hs)]
      unfold choiceP
      simp only
      have h1 := h.step
      rw [want_sign h1]
      have h2 := h1.step
      rw [kid_expr (st := 0) (IH 0 j0 G (by omega)) (fun z => by have := KN 0 j0 z; omega) (show isOp ⟨#[44]⟩ = false by decide +kernel) h2]
      simp only
      have h3 := h2.go
      rw [want_sign h3]
      have h4 := h3.step
      rw [kid_expr (st := 0) (IH 1 j1 G (by omega)) (fun z => by have := KN 1 j1 z; omega) (show isOp ⟨#[44]⟩ = false by decide +kernel) h4]
      simp only
      have h5 := h4.go
      rw [want_sign h5]
      have h6 := h5.step
      rw [kid_expr (st := 0) (IH 2 j2 G (by omega)) (fun z => by have := KN 2 j2 z; omega) (show isOp ⟨#[41]⟩ = false by decide +kernel) h6]
      simp only
      have h7 := h6.go
      rw [want_sign h7, hC, if_neg (by decide), cleanL_map, list_three hm]
      simp only [step_adv, adv_step, adv_adv, List.map_cons, List.map_nil]
      congr 2
      simp only [List.length_cons, List.length_append, List.length_nil]
      omega
/-- What a parser made, read again. -/
theorem expr_back {K : List Kt} {names : List ByteArray} (hN : NmOk names) {t : Tr} (h : Good_ names.length t) (hd : (needT t).2 ≤ 40) {s : Ps} {y : ByteArray} {l r : List Kt} (hy : isOp y = false) (hh : Hd_ K names s (toksT names t ++ (3, y) :: l) r) : exprP K 0 s = (t, adv s (toksT names t).length) := by
  have S := spine2 (K := K) hN t.sz t (Nat.le_refl _) h.parts h.read 40 hd
  have e := kid_expr (st := 0) S (fun q => by have := op_str (good_op h q); omega) hy hh
  rw [read_clean t h.read] at e
  exact e
end Go.Proofs.YtkpjhjoopdbkaaaGreatDoor
