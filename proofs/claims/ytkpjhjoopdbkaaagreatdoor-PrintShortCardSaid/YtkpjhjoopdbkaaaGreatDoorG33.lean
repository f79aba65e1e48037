/- Joined: Plain: texts cut into kinds and texts, places left out; pieces ahead of tails. Plain: an expression's text, cut into tokens. Plain: an expression's tokens, parsed. -/
import Derived.Test.YtkpjhjoopdbkaaaGreatDoorG32
import Derived.Lib.ItoaNum
import Derived.Test.YtkpjhjoopdbkaaaGreatDoorG25
import Derived.Test.YtkpjhjoopdbkaaaGreatDoorG03
namespace Go.Proofs.YtkpjhjoopdbkaaaGreatDoor
/-- The tokens' kinds and texts, if there is no error. -/
def lxO (R : List Tok × Nat × Int) : Option (List Kt) := if R.2.2 = 0 then some (ktOf R.1) else none
def lxK (r : List UInt8) : Option (List Kt) := lxO (lexO (r.length + 1) 0 r)
theorem lxO_moved (d : Nat) (R : List Tok × Nat × Int) : lxO (moved d R) = lxO R := by
  unfold lxO moved
  simp only [kt_move]
theorem lxK_any {f k : Nat} {r : List UInt8} (h : r.length < f) : lxO (lexO f k r) = lxK r := by
  have e := lexO_move k f 0 r
  rw [Nat.zero_add] at e
  rw [e, lxO_moved, lxK, lexO_fuel f (r.length + 1) 0 r h (by omega)]
theorem lxK_lexR {l : List UInt8} (h : l.length ≤ 16384) : lxO (lexR l) = lxK l := by rw [lexR_O l h]; rfl
theorem lxK_nil : lxK [] = some [] := by kernel_rfl
theorem lxK_blank {b : UInt8} (hb : isBlank b = true) (r : List UInt8) : lxK (b :: r) = lxK r := by
  unfold lxK
  rw [show (b :: r).length + 1 = (r.length + 1) + 1 by simp, lexO_blank hb]
  exact lxK_any (by omega)
theorem lxO_glue1 (t : Tok) (R : List Tok × Nat × Int) : lxO (glue1 t R) = (lxO R).map ((t.kind, t.text) :: ·) := by
  unfold lxO glue1
  by_cases h : R.2.2 = 0
  · rw [if_pos h, if_pos rfl, if_pos h]; rfl
  · rw [if_neg h, if_neg h, if_neg h]; rfl
theorem lxK_step {c : UInt8} {q : List UInt8} (hb : isBlank c = false) (h35 : c ≠ 35) (he : nxE (c :: q) = 0) : lxK (c :: q) = (lxK ((c :: q).drop (nxN (c :: q)))).map ((nxK (c :: q), (⟨((c :: q).take (nxN (c :: q))).toArray⟩ : ByteArray)) :: ·) := by
  unfold lxK
  rw [lexO_step (skipC_stop hb h35) (by simp) he, lxO_glue1]
  have hp := nx_pos c q
  rw [lxK_any (by rw [List.length_drop]; omega)]
  rfl
/-- A piece that its tail leaves alone. -/
theorem lxK_piece {u r : List UInt8} {k : Int} (hu : u ≠ []) (hb : isBlank (u.getD 0 0) = false) (h35 : u.getD 0 0 ≠ 35) (hk : nxK (u ++ r) = k) (hn : nxN (u ++ r) = u.length) (he : nxE (u ++ r) = 0) : lxK (u ++ r) = (lxK r).map ((k, (⟨u.toArray⟩ : ByteArray)) :: ·) := by
  rcases u with _ | ⟨c, x⟩
  · exact absurd rfl hu
  · have h := lxK_step (c := c) (q := x ++ r) hb h35 he
    rw [show c :: (x ++ r) = (c :: x) ++ r from rfl, hk, hn, List.drop_left' rfl, List.take_left' rfl] at h
    exact h
/-- What follows a name, or a number. -/
def Safe (r : List UInt8) : Prop := ∀ c q, r = c :: q → isNamed c = false
theorem safe_of {c : UInt8} (q : List UInt8) (h : isNamed c = false) : Safe (c :: q) := fun c' q' e => by injection e with e1 e2; rw [← e1]; exact h
theorem takeWhile_safe {p : UInt8 → Bool} {u r : List UInt8} (hr : ∀ c q, r = c :: q → p c = false) : (u ++ r).takeWhile p = u.takeWhile p ∧ (u ++ r).dropWhile p = u.dropWhile p ++ r := by
  rcases r with _ | ⟨b, y⟩
  · simp
  · exact ⟨takeWhile_blank (hr b y rfl) u y, dropWhile_blank (hr b y rfl) u y⟩
theorem lxK_name {u r : List UInt8} (h : nameOk u = true) (hr : Safe r) : lxK (u ++ r) = (lxK r).map ((1, (⟨u.toArray⟩ : ByteArray)) :: ·) := by
  rcases u with _ | ⟨c, x⟩
  · cases h
  have h' := h
  unfold nameOk at h
  rw [getD_cons] at h
  simp only [Bool.and_eq_true, decide_eq_true_eq] at h
  obtain ⟨⟨⟨_, h2⟩, h1⟩, h3⟩ := h
  have t1 := (takeWhile_all h3).1
  have t2 := (takeWhile_safe (u := c :: x) hr).1
  have e0 : ((c :: x) ++ r).getD 0 0 = c := rfl
  have hl : 97 ≤ c.toNat ∧ c.toNat ≤ 122 ∨ 65 ≤ c.toNat ∧ c.toNat ≤ 90 := by simpa [isLetter] using h1
  refine lxK_piece (by simp) ?_ ?_ ?_ ?_ ?_
  · rw [getD_cons]; simp only [isBlank, decide_eq_false_iff_not]; omega
  · rw [getD_cons]; intro e; rw [e] at hl; simp at hl
  · unfold nxK; rw [e0, if_pos h1, t2, t1, if_neg (by omega)]
  · unfold nxN; rw [e0, if_pos h1, t2, t1]
  · unfold nxE; rw [e0, if_pos h1, t2, t1, if_neg (by omega)]
theorem safe_digit {r : List UInt8} (hr : Safe r) : ∀ c q, r = c :: q → isDigit c = false := fun c q e => by
  have h := hr c q e
  rcases hd : isDigit c with _ | _
  · rfl
  · rw [named_digit hd] at h; cases h
theorem lxK_num {u r : List UInt8} (h : numOk u = true) (hr : Safe r) : lxK (u ++ r) = (lxK r).map ((2, (⟨u.toArray⟩ : ByteArray)) :: ·) := by
  rcases u with _ | ⟨c, x⟩
  · cases h
  have hk := h
  simp only [numOk, Bool.and_eq_true, decide_eq_true_eq, Bool.not_eq_true', Bool.and_eq_false_imp, decide_eq_false_iff_not] at h
  obtain ⟨⟨⟨_, h1⟩, h2⟩, _⟩ := h
  obtain ⟨t1, t2⟩ := takeWhile_all (p := isDigit) h2
  have hd : isDigit c = true := by unfold allDigits at h2; simp at h2; exact h2.1
  have hl : ¬ isLetter c = true := fun hl => by rw [letter_no_digit hl] at hd; cases hd
  have hd2 : 48 ≤ c.toNat ∧ c.toNat ≤ 57 := by simpa [isDigit] using hd
  obtain ⟨s1, s2⟩ := takeWhile_safe (u := c :: x) (safe_digit hr)
  have s3 : (r.takeWhile isNamed).length = 0 := by
    rcases r with _ | ⟨b, y⟩
    · rfl
    · rw [List.takeWhile_cons_of_neg (by rw [hr b y rfl]; simp)]; rfl
  have e0 : ((c :: x) ++ r).getD 0 0 = c := rfl
  have e6 : ((c :: x) ++ r)[0]? = (c :: x)[0]? := rfl
  refine lxK_piece (by simp) ?_ ?_ ?_ ?_ ?_
  · rw [getD_cons]; simp only [isBlank, decide_eq_false_iff_not]; omega
  · rw [getD_cons]; intro e; rw [e] at hd2; simp at hd2
  · unfold nxK; rw [e0, if_neg hl, if_pos hd]
  · unfold nxN; rw [e0, if_neg hl, if_pos hd, s1, t1]
  · unfold nxE; rw [e0, if_neg hl, if_pos hd]
    unfold numE; rw [s1, s2, t1, t2, e6, List.nil_append, s3, if_neg (by omega), if_neg (fun h => h1 h.1 (by simpa using h.2)), if_pos hk]
/-- A sign of one byte, whatever follows. -/
theorem lxK_sign {c : UInt8} (r : List UInt8) (hc : c = 40 ∨ c = 41 ∨ c = 44 ∨ c = 45 ∨ c = 59 ∨ c = 58 ∨ c = 123 ∨ c = 125 ∨ c = 42) : lxK (c :: r) = (lxK r).map ((3, (⟨#[c]⟩ : ByteArray)) :: ·) := by
  rcases hc with rfl | rfl | rfl | rfl | rfl | rfl | rfl | rfl | rfl <;> exact lxK_piece (u := [_]) (by simp) (by decide) (by decide) rfl rfl rfl
theorem lxK_not {r : List UInt8} (h : ∀ q, r ≠ 61 :: q) : lxK (33 :: r) = (lxK r).map ((3, (⟨#[33]⟩ : ByteArray)) :: ·) := by
  have h3 : anyTwo ([33] ++ r) = false := by
    rcases r with _ | ⟨d, y⟩
    · rfl
    · have hd : d ≠ 61 := fun e => h y (by rw [e])
      rw [List.cons_append, List.nil_append, anyTwo_two]
      have g := hd.symm
      simp [anyTwo, twoSigns, Lib.hasPrefix, List.isPrefixOf, g]
  refine lxK_piece (u := [33]) (by simp) (by decide) (by decide) rfl ?_ ?_
  · unfold nxN; rw [h3]; rfl
  · unfold nxE sgE; rw [h3]; rfl
/-- A sign of an operation, and a blank. -/
theorem lxK_op {n : Int} (hn : knownB n = true) (r : List UInt8) : lxK ((signOf n).data.toList ++ 32 :: r) = (lxK r).map ((3, signOf n) :: ·) := by
  have hn2 : 1 ≤ n ∧ n ≤ 11 := by simpa [knownB] using hn
  have key : ∀ m : Nat, m < 12 → 1 ≤ m → (signOf m).data.toList ≠ [] ∧ isBlank ((signOf m).data.toList.getD 0 0) = false ∧ (signOf m).data.toList.getD 0 0 ≠ 35 ∧ nxK (signOf m).data.toList = 3 ∧ nxN (signOf m).data.toList = (signOf m).data.toList.length ∧ nxE (signOf m).data.toList = 0 := by decide +kernel
  obtain ⟨m, rfl⟩ : ∃ m : Nat, n = m := ⟨n.toNat, by omega⟩
  obtain ⟨k1, k2, k3, k4, k5, k6⟩ := key m (by omega) (by omega)
  obtain ⟨u, hu⟩ : ∃ u, u = (signOf m).data.toList := ⟨_, rfl⟩
  rw [← hu] at k1 k2 k3 k4 k5 k6 ⊢
  rcases u with _ | ⟨c, x⟩
  · exact absurd rfl k1
  obtain ⟨b1, b2, b3⟩ := nx_blank (b := 32) (by decide) c x r
  rw [lxK_piece (by simp) k2 k3 (b1.trans k4) (b2.trans k5) (b3.trans k6), lxK_blank (by decide)]
  rw [hu, show (⟨(signOf m).data.toList.toArray⟩ : ByteArray) = signOf m by simp]
/-- Decimals are numbers. -/
theorem numF_app : ∀ (l m : List UInt8) (n : Int), numF n (l ++ m) = numF (numF n l) m
  | [], m, n => rfl
  | c :: l, m, n => by rw [List.cons_append, numF, numF, numF_app l m]
theorem digit_of {d : Nat} (h : d < 10) : isDigit (UInt8.ofNat (48 + d)) = true ∧ (UInt8.ofNat (48 + d)).toNat = 48 + d ∧ (UInt8.ofNat (48 + d) = 48 ↔ d = 0) := by
  have key : ∀ d : Fin 10, isDigit (UInt8.ofNat (48 + d.val)) = true ∧ (UInt8.ofNat (48 + d.val)).toNat = 48 + d.val ∧ (UInt8.ofNat (48 + d.val) = 48 ↔ d.val = 0) := by decide +kernel
  exact key ⟨d, h⟩
theorem dec_num : ∀ (u : Nat), allDigits (Lib.decDigits u) = true ∧ numF 0 (Lib.decDigits u) = (u : Int) ∧ Lib.decDigits u ≠ [] ∧ (u ≠ 0 → (Lib.decDigits u).head? ≠ some 48) := by
  intro u
  induction u using Nat.strongRecOn with
  | _ u ih =>
    rw [Lib.decDigits]
    split
    · rename_i h
      obtain ⟨d1, d2, d3⟩ := digit_of h
      refine ⟨by unfold allDigits; rw [List.all_cons, d1]; rfl, ?_, by simp, fun h0 => ?_⟩
      · simp only [numF, d2]; omega
      · simp only [List.head?_cons]
        intro e
        injection e with e
        exact h0 (d3.1 e)
    · rename_i h
      obtain ⟨i1, i2, i3, i4⟩ := ih (u / 10) (by omega)
      obtain ⟨d1, d2, d3⟩ := digit_of (show u % 10 < 10 by omega)
      refine ⟨?_, ?_, by simp, fun _ => ?_⟩
      · unfold allDigits at i1 ⊢
        rw [List.all_append, i1, List.all_cons, d1]; rfl
      · rw [numF_app, i2]
        simp only [numF, d2]; omega
      · have h10 := i4 (by omega)
        rcases hl : Lib.decDigits (u / 10) with _ | ⟨c, x⟩
        · exact absurd hl i3
        · rw [hl] at h10; exact h10
theorem itoa_num {n : Int} (h0 : 0 ≤ n) (h1 : n ≤ 9223372036854775807) : numOk (Lib.itoa n) = true ∧ numV (Lib.itoa n) = n := by
  have e : Lib.itoa n = Lib.decDigits n.toNat := by unfold Lib.itoa; rw [if_neg (by omega)]
  obtain ⟨i1, i2, i3, i4⟩ := dec_num n.toNat
  rw [e]
  have hv : numF 0 (Lib.decDigits n.toNat) = n := by rw [i2]; omega
  have hz : ¬ (1 < (Lib.decDigits n.toNat).length ∧ (Lib.decDigits n.toNat).head? = some 48) := by
    rintro ⟨a, b⟩
    by_cases hn : n.toNat = 0
    · rw [hn] at a; exact absurd a (by decide +kernel)
    · exact i4 hn b
  have hok : numOk (Lib.decDigits n.toNat) = true := by
    simp only [numOk, Bool.and_eq_true, decide_eq_true_eq, Bool.not_eq_true', Bool.and_eq_false_imp, decide_eq_false_iff_not]
    exact ⟨⟨⟨i3, fun a b => hz ⟨a, b⟩⟩, i1⟩, by rw [hv]; exact h1⟩
  exact ⟨hok, by unfold numV; rw [if_pos hok, hv]⟩
end Go.Proofs.YtkpjhjoopdbkaaaGreatDoor
namespace Go.Proofs.YtkpjhjoopdbkaaaGreatDoor
/-- A kid's tokens. -/
def kidK (l : List (Int × Int × List Kt)) (j : Nat) (s : Int) : List Kt :=
  match l[j]? with
  | none => []
  | some (k, n, x) => if k = 5 ∧ strI n < s then ((3, ⟨#[40]⟩) : Kt) :: (x ++ [(3, ⟨#[41]⟩)]) else x
def toksN (names : List ByteArray) (k n : Int) (l : List (Int × Int × List Kt)) : List Kt :=
  if k = 1 then [(2, ⟨(Lib.itoa n).toArray⟩)]
  else if k = 2 then [(1, names.getD n.toNat ⟨#[]⟩)]
  else if k = 3 then (3, ⟨#[45]⟩) :: kidK l 0 9
  else if k = 4 then (3, ⟨#[33]⟩) :: kidK l 0 9
  else if k = 5 then kidK l 0 (strI n) ++ (3, signOf n) :: kidK l 1 (strI n + 1)
  else if k = 6 then (1, ⟨#[105, 102]⟩) :: (3, ⟨#[40]⟩) :: (kidK l 0 0 ++ (3, ⟨#[44]⟩) :: (kidK l 1 0 ++ (3, ⟨#[44]⟩) :: (kidK l 2 0 ++ [(3, ⟨#[41]⟩)])))
  else []
mutual
def toksT (names : List ByteArray) : Tr → List Kt
  | .mk k n l => toksN names k n (toksL names l)
def toksL (names : List ByteArray) : List Tr → List (Int × Int × List Kt)
  | [] => []
  | t :: r => (t.kind, t.num, toksT names t) :: toksL names r
end
theorem toksT_eq (names : List ByteArray) (t : Tr) : toksT names t = toksN names t.kind t.num (toksL names t.kids) := by
  obtain ⟨k, n, l⟩ := t
  rw [toksT]; rfl
theorem toksL_get (names : List ByteArray) : ∀ (l : List Tr) (j : Nat), j < l.length → (toksL names l)[j]? = some ((l.getD j default).kind, (l.getD j default).num, toksT names (l.getD j default))
  | [], j, h => by simp at h
  | t :: r, 0, _ => by rw [toksL]; rfl
  | t :: r, j + 1, h => by
    rw [toksL]
    exact toksL_get names r j (by simpa using h)
theorem kidK_at {names : List ByteArray} {l : List Tr} {j : Nat} (h : j < l.length) (s : Int) : kidK (toksL names l) j s = if (l.getD j default).kind = 5 ∧ strI (l.getD j default).num < s then ((3, ⟨#[40]⟩) : Kt) :: (toksT names (l.getD j default) ++ [(3, ⟨#[41]⟩)]) else toksT names (l.getD j default) := by
  unfold kidK
  rw [toksL_get names l j h]
/-- Names as variables have them. -/
structure NmOk (names : List ByteArray) : Prop where
  ok : ∀ n ∈ names, nameOk n.data.toList = true ∧ isWord n = false
  nodup : names.Nodup
theorem partsL_at {vars : Int} : ∀ {l : List Tr} {j : Nat}, partsL vars l = true → j < l.length → partsT vars (l.getD j default) = true
  | [], _, _, h => by simp at h
  | t :: r, 0, h, _ => by rw [partsL_cons, Bool.and_eq_true] at h; exact h.1
  | t :: r, j + 1, h, hj => by
    rw [partsL_cons, Bool.and_eq_true] at h
    exact show partsT vars (r.getD j default) = true from partsL_at h.2 (by simpa using hj)
/-- A right part: its kind and its kids. -/
theorem ok_cases {vars k n : Int} {m : Nat} (h : okN vars k n m = true) : (k = 1 ∧ m = 0) ∨ (k = 2 ∧ m = 0 ∧ 0 ≤ n ∧ n < vars) ∨ (k = 3 ∧ m = 1) ∨ (k = 4 ∧ m = 1) ∨ (k = 5 ∧ m = 2 ∧ knownB n = true) ∨ (k = 6 ∧ m = 3) := by
  unfold okN at h
  simp only [Bool.and_eq_true, decide_eq_true_eq] at h
  obtain ⟨⟨h1, h2⟩, h3⟩ := h
  unfold kidsN at h1
  by_cases k1 : k = 1
  · subst k1; simp at h1; omega
  by_cases k2 : k = 2
  · subst k2
    simp at h1 h2
    omega
  by_cases k3 : k = 3
  · subst k3; simp at h1; omega
  by_cases k4 : k = 4
  · subst k4; simp at h1; omega
  by_cases k5 : k = 5
  · subst k5
    simp at h1 h3
    exact .inr (.inr (.inr (.inr (.inl ⟨rfl, by omega, h3⟩))))
  by_cases k6 : k = 6
  · subst k6; simp at h1; omega
  · rw [if_neg (by omega), if_neg (by omega), if_neg k5, if_neg k6] at h1
    omega
/-- A tree that lies somewhere in memory: its numbers are numbers. -/
def Real (t : Tr) : Prop := ∃ w A m c, TrAt w A m c t
theorem Real.kid {t : Tr} (h : Real t) {j : Nat} (hj : j < t.kids.length) : Real (t.kids.getD j default) := by
  obtain ⟨w, A, m, c, h⟩ := h
  have hl := h.len.1
  obtain ⟨b, off, _, A', m', c', hk⟩ := h.kid (j := j) (by omega)
  exact ⟨w, A', m', c', hk.tr⟩
theorem Real.num {t : Tr} (h : Real t) : I64 t.kind ∧ I64 t.num := by
  obtain ⟨w, A, m, c, h⟩ := h
  obtain ⟨k, n, l⟩ := t
  rw [TrAt] at h
  exact ⟨h.1, h.2.1⟩
theorem map_cons_app (o : Option (List Kt)) (t : Kt) (l : List Kt) : (o.map (l ++ ·)).map (t :: ·) = o.map ((t :: l) ++ ·) := by
  cases o <;> rfl
theorem map_app_app (o : Option (List Kt)) (l m : List Kt) : (o.map (m ++ ·)).map (l ++ ·) = o.map ((l ++ m) ++ ·) := by
  cases o <;> simp
theorem map_one (o : Option (List Kt)) (t : Kt) : o.map (t :: ·) = o.map ([t] ++ ·) := by cases o <;> rfl
/-- What an expression's text is cut into, whatever safe stands behind. -/
def Cut (u : List UInt8) (K : List Kt) : Prop := (∀ r, Safe r → lxK (u ++ r) = (lxK r).map (K ++ ·)) ∧ ∃ c q, u = c :: q ∧ c ≠ 61
theorem cut_kid {names : List ByteArray} {l : List Tr} {j : Nat} (hj : j < l.length) (h : Cut (textT names (l.getD j default)) (toksT names (l.getD j default))) (s : Int) : Cut (kidS (textL names l) j s) (kidK (toksL names l) j s) := by
  rw [kidS_at hj, kidK_at hj]
  split
  · refine ⟨fun r hr => ?_, 40, _, rfl, by decide⟩
    rw [show [40] ++ textT names (l.getD j default) ++ [41] ++ r = 40 :: (textT names (l.getD j default) ++ (41 :: r)) by simp]
    rw [lxK_sign _ (.inl rfl), h.1 _ (safe_of r (by decide)), lxK_sign r (.inr (.inl rfl))]
    cases lxK r <;> simp
  · exact h
/-- A text that is not too long. -/
theorem kid_short (names : List ByteArray) {l : List Tr} {j : Nat} (hj : j < l.length) (s : Int) : (kidS (textL names l) j s).length ≤ (textT names (l.getD j default)).length + 2 := by
  rw [kidS_at hj]
  split
  · simp
  · omega
theorem sizeL_at : ∀ (l : List Tr), (∀ j, j < l.length → 0 < sizeT (l.getD j default)) ∧ (l.length = 1 → sizeL l = sizeT (l.getD 0 default)) ∧ (l.length = 2 → sizeL l = sizeT (l.getD 0 default) + sizeT (l.getD 1 default)) ∧ (l.length = 3 → sizeL l = sizeT (l.getD 0 default) + sizeT (l.getD 1 default) + sizeT (l.getD 2 default)) := by
  intro l
  refine ⟨fun j _ => by obtain ⟨k, n, q⟩ := l.getD j default; rw [sizeT]; omega, ?_, ?_, ?_⟩
  · intro h
    match l, h with
    | [a], _ => rw [sizeL, sizeL]; rfl
  · intro h
    match l, h with
    | [a, b], _ => rw [sizeL, sizeL, sizeL]; rfl
  · intro h
    match l, h with
    | [a, b, c], _ => rw [sizeL, sizeL, sizeL, sizeL]; show sizeT a + (sizeT b + (sizeT c + 0)) = sizeT a + sizeT b + sizeT c; omega
end Go.Proofs.YtkpjhjoopdbkaaaGreatDoor
namespace Go.Proofs.YtkpjhjoopdbkaaaGreatDoor
mutual
def cleanT : Tr → Tr
  | .mk k n l => .mk k (if k = 1 ∨ k = 2 ∨ k = 5 then n else 0) (cleanL l)
def cleanL : List Tr → List Tr
  | [] => []
  | t :: r => cleanT t :: cleanL r
end
theorem cleanT_eq (t : Tr) : cleanT t = .mk t.kind (if t.kind = 1 ∨ t.kind = 2 ∨ t.kind = 5 then t.num else 0) (cleanL t.kids) := by
  obtain ⟨k, n, l⟩ := t
  rw [cleanT]; rfl
theorem cleanL_map : ∀ l : List Tr, cleanL l = l.map cleanT
  | [] => by rw [cleanL]; rfl
  | t :: r => by rw [cleanL, cleanL_map r]; rfl
theorem idx_nodup : ∀ (l : List ByteArray) (i n : Nat), l.Nodup → n < l.length → Lib.idxFromS l (l.getD n ⟨#[]⟩) i = ((i + n : Nat) : Int)
  | [], _, _, _, h => by simp at h
  | x :: l, i, 0, _, _ => by
    rw [Lib.idxFromS, if_pos (show x = (x :: l).getD 0 ⟨#[]⟩ from rfl)]; simp
  | x :: l, i, n + 1, hd, h => by
    obtain ⟨h1, h2⟩ := List.nodup_cons.1 hd
    have hn : n < l.length := by simpa using h
    have e : (x :: l).getD (n + 1) ⟨#[]⟩ = l.getD n ⟨#[]⟩ := rfl
    rw [e, Lib.idxFromS, if_neg, idx_nodup l (i + 1) n h2 hn]
    · congr 1; omega
    · intro q
      apply h1
      rw [q, List.getD, List.getElem?_eq_getElem hn]
      exact List.getElem_mem hn
theorem find_at {names : List ByteArray} (hd : names.Nodup) {n : Nat} (h : n < names.length) : findN names (names.getD n ⟨#[]⟩) = (n : Int) := by
  unfold findN Lib.idxOfS
  rw [idx_nodup names 0 n hd h, Nat.zero_add]
def adv (s : Ps) (n : Nat) : Ps := { s with at_ := s.at_ + n }
theorem adv_adv (s : Ps) (a b : Nat) : adv (adv s a) b = adv s (a + b) := by unfold adv; rw [Nat.add_assoc]
theorem adv_step (s : Ps) (a : Nat) : stepP (adv s a) = adv s (a + 1) := rfl
theorem step_adv (s : Ps) (a : Nat) : adv (stepP s) a = adv s (a + 1) := by unfold adv stepP; simp only; rw [Nat.add_assoc, Nat.add_comm 1 a]
/-- The tokens go on so at the parser. -/
structure Hd_ (K : List Kt) (names : List ByteArray) (s : Ps) (l r : List Kt) : Prop where
  err : s.err = 0
  vars : s.vars = names
  drop : K.drop s.at_ = l ++ r
section
variable {K : List Kt} {names : List ByteArray} {s : Ps} {l m r : List Kt} {x : Kt}
theorem Hd_.next (h : Hd_ K names s (x :: l) r) : nextP K s = x := by
  unfold nextP
  rw [if_pos h.err]
  have e : (K.drop s.at_)[0]? = K[s.at_]? := by rw [List.getElem?_drop, Nat.add_zero]
  rw [h.drop] at e
  rw [List.getD, ← e]; rfl
theorem Hd_.lt (h : Hd_ K names s (x :: l) r) : s.at_ < K.length := by
  have e := congrArg List.length h.drop
  rw [List.length_drop] at e
  simp at e
  omega
theorem Hd_.app (h : Hd_ K names s (l ++ m) r) : Hd_ K names s l (m ++ r) := ⟨h.err, h.vars, by rw [h.drop, List.append_assoc]⟩
theorem Hd_.past (h : Hd_ K names s l r) : Hd_ K names (adv s l.length) [] r := ⟨h.err, h.vars, by
  show K.drop (s.at_ + l.length) = r
  rw [← List.drop_drop, h.drop, List.drop_left' rfl]⟩
theorem Hd_.go (h : Hd_ K names s (l ++ m) r) : Hd_ K names (adv s l.length) m r := by
  have := h.app.past
  exact ⟨this.err, this.vars, this.drop⟩
theorem Hd_.step (h : Hd_ K names s (x :: l) r) : Hd_ K names (stepP s) l r := (show Hd_ K names s ([x] ++ l) r from h).go
theorem Hd_.more (h : Hd_ K names s [] (x :: r)) : Hd_ K names s [x] r := ⟨h.err, h.vars, h.drop⟩
theorem Hd_.move (h : Hd_ K names s l (m ++ r)) : Hd_ K names s (l ++ m) r := ⟨h.err, h.vars, by rw [h.drop, List.append_assoc]⟩
theorem Hd_.le (h : Hd_ K names s l r) (hn : l ≠ []) : s.at_ + l.length ≤ K.length := by
  have e := congrArg List.length h.drop
  rw [List.length_drop, List.length_append] at e
  have : 0 < l.length := List.length_pos_iff.2 hn
  omega
theorem sees_sign {y : ByteArray} (h : Hd_ K names s ((3, y) :: l) r) : seesP K s = y := by unfold seesP; rw [h.next]; exact if_pos (.inl rfl)
theorem sees_word {y : ByteArray} (hw : isWord y = true) (h : Hd_ K names s ((1, y) :: l) r) : seesP K s = y := by unfold seesP; rw [h.next]; exact if_pos (.inr ⟨rfl, hw⟩)
theorem sees_num {y : ByteArray} (h : Hd_ K names s ((2, y) :: l) r) : seesP K s = ByteArray.empty := by unfold seesP; rw [h.next]; exact if_neg (by simp)
theorem sees_name {y : ByteArray} (hw : isWord y = false) (h : Hd_ K names s ((1, y) :: l) r) : seesP K s = ByteArray.empty := by unfold seesP; rw [h.next]; exact if_neg (by simp [hw])
theorem want_sign {y : ByteArray} (h : Hd_ K names s ((3, y) :: l) r) : wantP K y s = stepP s := by
  unfold wantP takeB
  rw [sees_sign h, decide_eq_true rfl]; rfl
theorem take_no {y z : ByteArray} (h : seesP K s = y) (hz : y ≠ z) : takeB K z s = false := by unfold takeB; rw [h, decide_eq_false hz]
theorem take_yes {y : ByteArray} (h : seesP K s = y) : takeB K y s = true := by unfold takeB; rw [h, decide_eq_true rfl]
theorem sign_no {y : ByteArray} (h : seesP K s = y) (hy : isOp y = false) (st : Int) : signB K st s = false := by unfold signB; rw [h, hy]; rfl
theorem sign_mono {a b : Int} (h : signB K a s = false) (hab : a ≤ b) : signB K b s = false := by
  unfold signB at h ⊢
  rcases hi : isOp (seesP K s) with _ | _
  · rfl
  · rw [hi, Bool.true_and, decide_eq_false_iff_not] at h
    rw [Bool.true_and, decide_eq_false_iff_not]
    omega
theorem loop_end {ex : Int → Ps → Tr × Ps} {st : Int} (h : signB K st s = false) (n : Nat) (e : Tr) : loopP K ex st n e s = (e, s) := by
  cases n with
  | zero => rfl
  | succ n => rw [loopP, h]; rfl
theorem loop_fuel {ex : Int → Ps → Tr × Ps} (g : ∀ st s, Mv K s (ex st s).2) (st : Int) : ∀ (n m : Nat) (e : Tr) (s : Ps), s.at_ ≤ K.length → K.length + 1 ≤ s.at_ + n → K.length + 1 ≤ s.at_ + m → loopP K ex st n e s = loopP K ex st m e s
  | 0, _, _, s, h, h1, _ => by omega
  | n + 1, 0, _, s, h, _, h2 => by omega
  | n + 1, m + 1, e, s, h, h1, h2 => by
    rw [loopP, loopP]
    split
    · rename_i q
      have hl := (sign_lt q).2
      have hm := g (strI (opN (seesP K s))) (stepP s)
      have e1 : (stepP s).at_ = s.at_ + 1 := rfl
      have h3 := hm.le
      exact loop_fuel g st n m _ _ (hm.in_ hl) (by omega) (by omega)
    · rfl
end
theorem op_facts {n : Int} (h : knownB n = true) : isOp (signOf n) = true ∧ opN (signOf n) = n ∧ 1 ≤ strI n ∧ strI n ≤ 5 := by
  have hn2 : 1 ≤ n ∧ n ≤ 11 := by simpa [knownB] using h
  have key : ∀ m : Nat, m < 12 → 1 ≤ m → isOp (signOf m) = true ∧ opN (signOf m) = (m : Int) ∧ 1 ≤ strI m ∧ strI m ≤ 5 := by decide +kernel
  obtain ⟨m, rfl⟩ : ∃ m : Nat, n = m := ⟨n.toNat, by omega⟩
  exact key m (by omega) (by omega)
theorem list_one {l : List Tr} (h : l.length = 1) : l = [l.getD 0 default] := by
  match l, h with
  | [a], _ => rfl
theorem list_two {l : List Tr} (h : l.length = 2) : l = [l.getD 0 default, l.getD 1 default] := by
  match l, h with
  | [a, b], _ => rfl
theorem list_three {l : List Tr} (h : l.length = 3) : l = [l.getD 0 default, l.getD 1 default, l.getD 2 default] := by
  match l, h with
  | [a, b, c], _ => rfl
section
variable {K : List Kt} {names : List ByteArray}
/-- A tree's tokens are parsed, so deep. -/
structure Spine (K : List Kt) (names : List ByteArray) (t : Tr) (F : Nat) : Prop where
  un : t.kind ≠ 5 → ∀ s r, Hd_ K names s (toksT names t) r → (exprsP K F).1 s = (cleanT t, adv s (toksT names t).length)
  ex : ∀ st s r, Hd_ K names s (toksT names t) r → (t.kind = 5 → st < strI t.num ∧ signB K (strI t.num) (adv s (toksT names t).length) = false) → ∃ G, F = G + 1 ∧ (exprsP K F).2 st s = loopP K (exprsP K G).2 st (K.length + 1) (cleanT t) (adv s (toksT names t).length)
theorem un_loop {G : Nat} {st : Int} {s : Ps} {r : Tr × Ps} (h : (exprsP K (G + 1)).1 s = r) : (exprsP K (G + 1)).2 st s = loopP K (exprsP K G).2 st (K.length + 1) r.1 r.2 := by rw [← h]; rfl
/-- An expression ahead of a sign that is none of an operation. -/
theorem kid_expr {t : Tr} {F : Nat} {st : Int} {s : Ps} {y : ByteArray} {l r : List Kt} (S : Spine K names t F) (h5 : t.kind = 5 → st < strI t.num) (hy : isOp y = false) (h : Hd_ K names s (toksT names t ++ (3, y) :: l) r) : (exprsP K F).2 st s = (cleanT t, adv s (toksT names t).length) := by
  have hs := sees_sign h.go
  obtain ⟨G, rfl, e⟩ := S.ex st s _ h.app (fun k => ⟨h5 k, sign_no hs hy _⟩)
  rw [e]
  exact loop_end (sign_no hs hy st) _ _
theorem unary_paren {G : Nat} {s : Ps} {l r : List Kt} (h : Hd_ K names s ((3, ⟨#[40]⟩) :: l) r) : (exprsP K (G + 1)).1 s = (((exprsP K G).2 0 (stepP s)).1, wantP K ⟨#[41]⟩ ((exprsP K G).2 0 (stepP s)).2) := by
  show unaryP K (exprsP K G).2 (exprsP K G).1 s = _
  have hs := sees_sign h
  unfold unaryP
  rw [take_no (z := minusT) hs (by decide), take_no (z := ⟨#[33]⟩) hs (by decide), take_yes hs]
  rfl
/-- A kid where no operation is read. -/
theorem kid_unary {L : List Tr} {j : Nat} (hj : j < L.length) {F : Nat} {σ : Int} (hk : (L.getD j default).kind = 5 → strI (L.getD j default).num < σ ∧ 0 < strI (L.getD j default).num) (hF : 0 < F) (S1 : (L.getD j default).kind ≠ 5 → Spine K names (L.getD j default) F) (S2 : (L.getD j default).kind = 5 → Spine K names (L.getD j default) (F - 1)) {s : Ps} {r : List Kt} (h : Hd_ K names s (kidK (toksL names L) j σ) r) :
    (exprsP K F).1 s = (cleanT (L.getD j default), adv s (kidK (toksL names L) j σ).length) := by
  rw [kidK_at hj] at h ⊢
  obtain ⟨t, ht⟩ : ∃ t, t = L.getD j default := ⟨_, rfl⟩
  rw [← ht] at hk h S1 S2 ⊢
  by_cases h5 : t.kind = 5
  · obtain ⟨k1, k2⟩ := hk h5
    rw [if_pos ⟨h5, k1⟩] at h ⊢
    obtain ⟨G, rfl⟩ : ∃ G, F = G + 1 := ⟨F - 1, by omega⟩
    have hx := kid_expr (st := 0) (S2 h5) (fun _ => k2) (show isOp ⟨#[41]⟩ = false by decide +kernel) h.step
    rw [unary_paren h]
    rw [show G + 1 - 1 = G from rfl] at hx
    rw [hx]
    simp only
    rw [want_sign h.step.go, step_adv, adv_step]
    congr 2
    simp
  · rw [if_neg (fun q => h5 q.1)] at h ⊢
    exact (S1 h5).un h5 s r h
end
end Go.Proofs.YtkpjhjoopdbkaaaGreatDoor
