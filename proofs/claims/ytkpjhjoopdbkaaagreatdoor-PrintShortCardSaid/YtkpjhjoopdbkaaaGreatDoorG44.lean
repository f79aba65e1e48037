/- Joined: Plain: a net's tokens, parsed again: parts of a net. -/
import Derived.Test.YtkpjhjoopdbkaaaGreatDoorG42
namespace Go.Proofs.YtkpjhjoopdbkaaaGreatDoor
/-- The parser stands ahead of l. -/
structure At_ (K : List Kt) (s : Ps) (l : List Kt) : Prop where
  err : s.err = 0
  drop : K.drop s.at_ = l
/-- From s on to s', which stands ahead of l; nothing else turned. -/
def Go_ (K : List Kt) (s s' : Ps) (l : List Kt) : Prop := ∃ n, s' = { s with at_ := n } ∧ At_ K s' l
section
variable {K : List Kt} {s : Ps} {l m : List Kt} {x : ByteArray}
theorem At_.hd (h : At_ K s (l ++ m)) : Hd_ K s.vars s l m := ⟨h.err, rfl, h.drop⟩
theorem At_.one {y : Kt} (h : At_ K s (y :: l)) : Hd_ K s.vars s (y :: l) [] := ⟨h.err, rfl, by rw [List.append_nil]; exact h.drop⟩
theorem Go_.at_ {s' : Ps} (h : Go_ K s s' l) : At_ K s' l := by obtain ⟨_, _, h⟩ := h; exact h
theorem Go_.refl (h : At_ K s l) : Go_ K s s l := ⟨s.at_, rfl, h⟩
theorem Go_.trans {s' s'' : Ps} (h : Go_ K s s' l) (k : Go_ K s' s'' m) : Go_ K s s'' m := by
  obtain ⟨n, e, _⟩ := h
  obtain ⟨n', e', h'⟩ := k
  exact ⟨n', by rw [e', e], h'⟩
theorem Go_.vars {s' : Ps} (h : Go_ K s s' l) : s'.vars = s.vars := by obtain ⟨n, e, _⟩ := h; rw [e]
theorem Go_.cols {s' : Ps} (h : Go_ K s s' l) : s'.cols = s.cols := by obtain ⟨n, e, _⟩ := h; rw [e]
theorem Go_.pls {s' : Ps} (h : Go_ K s s' l) : s'.pls = s.pls := by obtain ⟨n, e, _⟩ := h; rw [e]
theorem At_.len (h : At_ K s l) : l.length ≤ K.length := by
  rw [← h.drop, List.length_drop]; omega
theorem at_step {y : Kt} (h : At_ K s (y :: l)) : Go_ K s (stepP s) l := by
  have h1 := h.one.step
  refine ⟨s.at_ + 1, rfl, h1.err, ?_⟩
  have := h1.drop
  rw [List.append_nil] at this
  exact this
theorem At_.sign {y : ByteArray} (h : At_ K s ((3, y) :: l)) : seesP K s = y := sees_sign h.one
theorem At_.word {y : ByteArray} (h : At_ K s ((1, y) :: l)) (hw : isWord y = true) : seesP K s = y := sees_word hw h.one
theorem At_.name (h : At_ K s ((1, x) :: l)) (hx : nmB x) : seesP K s = ByteArray.empty := sees_name hx.2 h.one
theorem At_.num {y : ByteArray} (h : At_ K s ((2, y) :: l)) : seesP K s = ByteArray.empty := sees_num h.one
theorem rd_want {y : ByteArray} (h : At_ K s ((3, y) :: l)) : Go_ K s (wantP K y s) l := by
  rw [want_sign h.one]; exact at_step h
theorem rd_wantw {y : ByteArray} (h : At_ K s ((1, y) :: l)) (hw : isWord y = true) : Go_ K s (wantP K y s) l := by
  have e : wantP K y s = stepP s := by unfold wantP takeB; rw [h.word hw, decide_eq_true rfl]; rfl
  rw [e]; exact at_step h
theorem rd_nm (hx : nmB x) (h : At_ K s ((1, x) :: l)) : nameB K s = true ∧ nameV K s = x := by
  have hn := h.one.next
  have hb : nameB K s = true := by unfold nameB; rw [hn]; simp [hx.2]
  exact ⟨hb, by unfold nameV; rw [if_pos hb, hn]⟩
theorem rd_fresh {has : ByteArray → Bool} (hx : nmB x) (h : At_ K s ((1, x) :: l)) (hh : has x = false) : Go_ K s (freshS K has s) l ∧ nameV K s = x := by
  obtain ⟨hb, hv⟩ := rd_nm hx h
  have e : freshS K has s = stepP s := by
    unfold freshS
    rw [hb, hv, hh, Bool.true_and, if_neg (by decide)]
    have e1 : nameQ K s = s := by unfold nameQ; rw [if_pos hb]
    rw [e1]
    unfold freshQ
    rw [if_pos h.err]
  rw [e]
  exact ⟨at_step h, hv⟩
theorem rd_known {find : ByteArray → Int} (hx : nmB x) (h : At_ K s ((1, x) :: l)) (hf : 0 ≤ find x) : Go_ K s (knownS K find s) l ∧ knownV K find s = find x := by
  obtain ⟨hb, hv⟩ := rd_nm hx h
  have e : knownS K find s = stepP s := by
    unfold knownS
    rw [if_pos hb, hv, if_neg (by omega)]
  rw [e]
  refine ⟨at_step h, ?_⟩
  unfold knownV
  rw [hb, hv, decide_eq_true hf]; rfl
theorem rd_num {n : Int} (hn : inN n) (h : At_ K s (nuK n ++ l)) : numbV K s = n ∧ Go_ K s (numbS K s) l := by
  have h' : At_ K s ((2, itoaB n) :: l) := h
  have hnx := h'.one.next
  obtain ⟨o1, o2⟩ := itoa_num hn.1 hn.2
  have hb : numB K s = true := by unfold numB; rw [hnx]; simp only [itoaB_bytes, o1]; rfl
  refine ⟨by unfold numbV; rw [if_pos hb, hnx]; simp only [itoaB_bytes, o2], ?_⟩
  unfold numbS
  rw [if_pos hb]
  exact at_step h'
theorem rd_int {n : Int} (hn : inI n) (h : At_ K s (inK n ++ l)) : integerV K s = n ∧ Go_ K s (integerS K s) l := by
  unfold inI at hn
  unfold inK at h
  split at h
  · rename_i q
    have h' : At_ K s ((3, ⟨#[45]⟩) :: (nuK (-n) ++ l)) := h
    have ht : takeB K minusT s = true := take_yes h'.sign
    have hg := at_step h'
    obtain ⟨r1, r2⟩ := rd_num (n := -n) (by unfold inN; omega) hg.at_
    unfold integerV integerS
    rw [if_pos ht, if_pos ht, r1]
    exact ⟨by omega, hg.trans r2⟩
  · rename_i q
    have ht : takeB K minusT s = false := take_no (show seesP K s = ByteArray.empty from At_.num (y := itoaB n) h) (by decide)
    unfold integerV integerS
    rw [if_neg (by rw [ht]; decide), if_neg (by rw [ht]; decide)]
    exact rd_num (by unfold inN; omega) h
theorem comma_len {α : Type} (k : α → List Kt) (hk : ∀ x, k x ≠ []) : ∀ l : List α, l.length ≤ (commaK (l.map k)).length
  | [] => Nat.zero_le _
  | [a] => by
    show 1 ≤ (k a).length
    exact List.length_pos_iff.2 (hk a)
  | a :: b :: r => by
    have ih := comma_len k hk (b :: r)
    show _ ≤ (k a ++ (([(3, ⟨#[44]⟩)] : List Kt) ++ commaK (k b :: r.map k))).length
    have e : commaK ((b :: r).map k) = commaK (k b :: r.map k) := rfl
    rw [e] at ih
    simp only [List.length_append, List.length_cons, List.length_nil] at ih ⊢
    omega
theorem rd_names : ∀ (names : List ByteArray) (n : Nat) (acc : List ByteArray) (s : Ps), names ≠ [] → (∀ x ∈ names, nmB x) → names.length ≤ n → At_ K s (commaK (names.map fun x => [(1, x)]) ++ ((3, ⟨#[59]⟩) :: l)) → ∃ s', namesP K n acc s = (acc ++ names, s') ∧ Go_ K s s' ((3, ⟨#[59]⟩) :: l)
  | [], _, _, _, h, _, _, _ => absurd rfl h
  | [a], 0, _, _, _, _, h, _ => by simp at h
  | a :: b :: r, 0, _, _, _, _, h, _ => by simp at h
  | [a], n + 1, acc, s, _, hx, _, h => by
    have h' : At_ K s ((1, a) :: ((3, ⟨#[59]⟩) :: l)) := h
    obtain ⟨g, v⟩ := rd_fresh (has := nobody) (hx a (by simp)) h' rfl
    have ht : takeB K ⟨#[44]⟩ (freshS K nobody s) = false := take_no g.at_.sign (by decide)
    refine ⟨freshS K nobody s, ?_, g⟩
    rw [namesP, if_neg (by rw [ht]; decide), v]
  | a :: b :: r, n + 1, acc, s, _, hx, hl, h => by
    have h' : At_ K s ((1, a) :: ((3, ⟨#[44]⟩) :: (commaK ((b :: r).map fun x => [(1, x)]) ++ ((3, ⟨#[59]⟩) :: l)))) := by
      have e : commaK ((a :: b :: r).map fun x => ([(1, x)] : List Kt)) = [(1, a)] ++ ([(3, ⟨#[44]⟩)] ++ commaK ((b :: r).map fun x => [(1, x)])) := rfl
      rw [e] at h
      simpa using h
    obtain ⟨g, v⟩ := rd_fresh (has := nobody) (hx a (by simp)) h' rfl
    have ht : takeB K ⟨#[44]⟩ (freshS K nobody s) = true := take_yes g.at_.sign
    have g2 := g.trans (at_step g.at_)
    obtain ⟨s', e, g3⟩ := rd_names (b :: r) n (acc ++ [a]) (stepP (freshS K nobody s)) (by simp) (fun x q => hx x (List.mem_cons_of_mem _ q)) (by simp at hl ⊢; omega) g2.at_
    refine ⟨s', ?_, g2.trans g3⟩
    rw [namesP, if_pos ht, v, e]
    simp
theorem find_pre {pre : List ByteArray} (hd : pre.Nodup) {k : Int} (h : 0 ≤ k ∧ k < (pre.length : Int)) : findN pre (pre.getD k.toNat ⟨#[]⟩) = k := by
  rw [find_at hd (by omega)]; omega
theorem getD_map_name {α : Type} [Inhabited α] (f : α → ByteArray) (l : List α) {k : Nat} (h : k < l.length) (d : ByteArray) : (l.map f).getD k d = f (l.getD k default) := by
  rw [List.getD, List.getD, List.getElem?_map, List.getElem?_eq_getElem h]; rfl
theorem getD_pre {α : Type} [Inhabited α] (l r : List α) {k : Nat} (h : k < l.length) : (l ++ r).getD k default = l.getD k default := by
  rw [List.getD, List.getD, List.getElem?_append_left h]
theorem find_col {pre rest : List Col} (hd : (pre.map (·.name)).Nodup) {k : Int} (h : 0 ≤ k ∧ k < (pre.length : Int)) : findN (pre.map (·.name)) (colB (pre ++ rest) k) = k := by
  have e := (colB_at (L := pre ++ rest) (k := k) ⟨h.1, by rw [List.length_append]; omega⟩).1
  rw [e, getD_pre _ _ (by omega), ← getD_map_name (·.name) pre (by omega) ⟨#[]⟩]
  exact find_pre hd (by rw [List.length_map]; exact h)
theorem find_pl {pre : List Pl} (hd : (pre.map (·.name)).Nodup) {k : Int} (h : 0 ≤ k ∧ k < (pre.length : Int)) : findN (pre.map (·.name)) (plB pre k) = k := by
  have e := (plB_at (L := pre) (k := k) h).1
  rw [e, ← getD_map_name (·.name) pre (by omega) ⟨#[]⟩]
  exact find_pre hd (by rw [List.length_map]; exact h)
theorem had_no {l : List ByteArray} {x : ByteArray} (h : x ∉ l) : hadT (findN l) x = false := by
  unfold hadT
  exact decide_eq_false fun q => h ((Lib.idxOfS_nonneg_iff l x).1 q)
theorem nodup_mid {α : Type} (f : α → ByteArray) {pre rest : List α} {c : α} (h : ((pre ++ c :: rest).map f).Nodup) : f c ∉ pre.map f ∧ (pre.map f).Nodup := by
  rw [List.map_append, List.map_cons] at h
  unfold List.Nodup at h
  rw [List.pairwise_append] at h
  refine ⟨fun q => h.2.2 _ q (f c) (by simp) rfl, h.1⟩
/-- A colour. -/
theorem rd_colour {B : Nat} {pre rest : List Col} {c : Col} (hs : s.cols = pre) (nd : ((pre ++ c :: rest).map (·.name)).Nodup) (nm : ∀ k : Int, 0 ≤ k ∧ k < (pre.length : Int) → nmB (colB (pre ++ c :: rest) k)) (g : ColG B pre.length c) (h : At_ K s ((1, c.name) :: ((3, ⟨#[61]⟩) :: (memK (pre ++ c :: rest) c ++ ((3, ⟨#[59]⟩) :: l))))) :
    ∃ s', colourS K s = { s' with cols := pre ++ [c] } ∧ Go_ K s s' l := by
  obtain ⟨nd1, nd2⟩ := nodup_mid (fun z : Col => z.name) nd
  have hh : hadT (findCol s) c.name = false := by
    show hadT (findN (s.cols.map (·.name))) c.name = false
    rw [hs]; exact had_no nd1
  obtain ⟨g1, v1⟩ := rd_fresh (has := hadT (findCol s)) g.name h hh
  have g2 := g1.trans (rd_want g1.at_)
  have hlen := g2.at_.len
  obtain ⟨y, hy⟩ : ∃ y, y = wantP K ⟨#[61]⟩ (freshS K (hadT (findCol s)) s) := ⟨_, rfl⟩
  rw [← hy] at g2
  have hyc : y.cols = pre := g2.cols.trans hs
  have key : ∃ z, colourK K (Col.named c.name) y = (c, z) ∧ Go_ K y z ((3, ⟨#[59]⟩) :: l) := by
    have ha := g2.at_
    unfold memK at ha
    unfold colourK
    rcases g.kind with ⟨k, h1, h2, h3, h4, h5⟩ | ⟨k, h1, h2, h3, h4, h5, h6, h7⟩ | ⟨k, h1, h2, h3, h4, h5⟩
    · rw [if_pos k] at ha
      have ha' : At_ K y ((1, ⟨#[105, 110, 116]⟩) :: (inK c.lo ++ ((3, ⟨#[46, 46]⟩) :: (inK c.hi ++ ((3, ⟨#[59]⟩) :: l))))) := by simpa using ha
      rw [if_pos (take_yes (ha'.word (by decide +kernel)))]
      have b1 := at_step ha'
      obtain ⟨r1, b2⟩ := rd_int h1 b1.at_
      have b3 := rd_want b2.at_
      obtain ⟨r2, b4⟩ := rd_int h2 b3.at_
      refine ⟨_, ?_, ((b1.trans b2).trans b3).trans b4⟩
      rw [r1, r2]
      obtain ⟨a0, a1, a2, a3, a4, a5, a6⟩ := c
      simp only at k h3 h4 h5
      subst k h3 h4 h5
      rfl
    · rw [if_neg (by omega), if_pos k] at ha
      have ha' : At_ K y ((1, ⟨#[101, 110, 117, 109]⟩) :: (commaK (c.names.map fun x => [(1, x)]) ++ ((3, ⟨#[59]⟩) :: l))) := by simpa using ha
      have hse := ha'.word (by decide +kernel)
      rw [if_neg (by rw [take_no hse (by decide)]; decide), if_pos (take_yes hse)]
      have b1 := at_step ha'
      have hcl := comma_len (fun x : ByteArray => ([(1, x)] : List Kt)) (by simp) c.names
      have hll := b1.at_.len
      rw [List.length_append] at hll
      obtain ⟨z, e, b2⟩ := rd_names c.names (K.length + 1) [] (stepP y) h1 h2 (by omega) b1.at_
      rw [e]
      refine ⟨z, ?_, b1.trans b2⟩
      obtain ⟨a0, a1, a2, a3, a4, a5, a6⟩ := c
      simp only at k h4 h5 h6 h7
      subst k h4 h5 h6 h7
      rfl
    · rw [if_neg (by omega), if_neg (by omega)] at ha
      have ha' : At_ K y ((1, ⟨#[112, 97, 105, 114]⟩) :: ((1, colB (pre ++ c :: rest) c.first) :: ((3, ⟨#[44]⟩) :: ((1, colB (pre ++ c :: rest) c.then_) :: ((3, ⟨#[59]⟩) :: l))))) := by simpa using ha
      have hse := ha'.word (by decide +kernel)
      rw [if_neg (by rw [take_no hse (by decide)]; decide), if_neg (by rw [take_no hse (by decide)]; decide), if_pos (take_yes hse)]
      have b1 := at_step ha'
      have f1 : findCol (stepP y) (colB (pre ++ c :: rest) c.first) = c.first := by
        show findN (y.cols.map (·.name)) _ = _
        rw [hyc]; exact find_col nd2 h1
      obtain ⟨b2, r1⟩ := rd_known (find := findCol (stepP y)) (nm _ h1) b1.at_ (by rw [f1]; exact h1.1)
      have b3 := rd_want b2.at_
      obtain ⟨u, hu⟩ : ∃ u, u = wantP K ⟨#[44]⟩ (knownS K (findCol (stepP y)) (stepP y)) := ⟨_, rfl⟩
      rw [← hu] at b3 ⊢
      have huc : u.cols = pre := ((b1.trans b2).trans b3).cols.trans hyc
      have f2 : findCol u (colB (pre ++ c :: rest) c.then_) = c.then_ := by
        show findN (u.cols.map (·.name)) _ = _
        rw [huc]; exact find_col nd2 h2
      obtain ⟨b4, r2⟩ := rd_known (find := findCol u) (nm _ h2) b3.at_ (by rw [f2]; exact h2.1)
      refine ⟨_, ?_, ((b1.trans b2).trans b3).trans b4⟩
      rw [r1, r2, f1, f2]
      obtain ⟨a0, a1, a2, a3, a4, a5, a6⟩ := c
      simp only at k h3 h4 h5
      subst k h3 h4 h5
      rfl
  obtain ⟨z, e, g3⟩ := key
  have g4 := (g2.trans g3).trans (rd_want g3.at_)
  refine ⟨wantP K ⟨#[59]⟩ z, ?_, g4⟩
  unfold colourS
  simp only
  rw [v1, ← hy, e]
  simp only
  rw [g4.cols, hs]
theorem bump_end {m n : Int} : ∀ {c : Row}, (∀ q ∈ c, q.1 < m) → bumpC m n c = c ++ [(m, min n 1048576)]
  | [], _ => by rw [bumpC]; rfl
  | (x, v) :: r, h => by
    have h1 := h (x, v) (by simp)
    simp only at h1
    rw [bumpC, if_neg (by omega), if_neg (by omega), bump_end fun q hq => h q (by simp [hq])]
    rfl
theorem rd_star {n : Int} (hn : inN n) (h : At_ K s ((3, ⟨#[42]⟩) :: (nuK n ++ l))) : starV K s = n ∧ Go_ K s (starS K s) l := by
  have ht : takeB K ⟨#[42]⟩ s = true := take_yes h.sign
  have g := at_step h
  obtain ⟨r1, r2⟩ := rd_num hn g.at_
  unfold starV starS
  rw [if_pos ht, if_pos ht]
  exact ⟨r1, g.trans r2⟩
theorem pairK_ne (q : Int × Int) : pairK q ≠ [] := by unfold pairK nuK; simp
theorem rd_counts : ∀ (ps : Row) (n : Nat) (c : Row) (s : Ps), ps ≠ [] → Srt ps → (∀ q ∈ ps, inN q.1 ∧ 1 ≤ q.2 ∧ q.2 ≤ 1048576) → (∀ q ∈ c, ∀ p ∈ ps, q.1 < p.1) → ps.length ≤ n → At_ K s (commaK (ps.map pairK) ++ ((3, ⟨#[59]⟩) :: l)) → ∃ s', countsP K n c s = (c ++ ps, s') ∧ Go_ K s s' ((3, ⟨#[59]⟩) :: l)
  | [], _, _, _, h, _, _, _, _, _ => absurd rfl h
  | [a], 0, _, _, _, _, _, _, h, _ => by simp at h
  | a :: b :: r, 0, _, _, _, _, _, _, h, _ => by simp at h
  | [a], n + 1, c, s, _, _, hx, hc, _, h => by
    have ha := hx a (by simp)
    have h' : At_ K s (nuK a.1 ++ ((3, ⟨#[42]⟩) :: (nuK a.2 ++ ((3, ⟨#[59]⟩) :: l)))) := by
      have e : commaK ([a].map pairK) = pairK a := rfl
      rw [e] at h
      unfold pairK at h
      simpa using h
    obtain ⟨v1, g1⟩ := rd_num ha.1 h'
    obtain ⟨v2, g2⟩ := rd_star (n := a.2) (by unfold inN; omega) g1.at_
    have g3 := g1.trans g2
    have ht : takeB K ⟨#[44]⟩ (starS K (numbS K s)) = false := take_no g3.at_.sign (by decide)
    refine ⟨_, ?_, g3⟩
    rw [countsP]
    rw [if_neg (by rw [ht]; decide), v1, v2, bump_end fun q hq => hc q hq a (by simp)]
    congr 2
    obtain ⟨a1, a2⟩ := a
    simp only at ha ⊢
    congr 2
    omega
  | a :: b :: r, n + 1, c, s, _, hs, hx, hc, hl, h => by
    have ha := hx a (by simp)
    have h' : At_ K s (nuK a.1 ++ ((3, ⟨#[42]⟩) :: (nuK a.2 ++ ((3, ⟨#[44]⟩) :: (commaK ((b :: r).map pairK) ++ ((3, ⟨#[59]⟩) :: l)))))) := by
      have e : commaK ((a :: b :: r).map pairK) = pairK a ++ ([(3, ⟨#[44]⟩)] ++ commaK ((b :: r).map pairK)) := rfl
      rw [e] at h
      unfold pairK at h ⊢
      simpa using h
    obtain ⟨v1, g1⟩ := rd_num ha.1 h'
    obtain ⟨v2, g2⟩ := rd_star (n := a.2) (by unfold inN; omega) g1.at_
    have g3 := g1.trans g2
    have ht : takeB K ⟨#[44]⟩ (starS K (numbS K s)) = true := take_yes g3.at_.sign
    have g4 := g3.trans (at_step g3.at_)
    obtain ⟨s1, s2⟩ := List.pairwise_cons.1 hs
    have hb : bumpC a.1 a.2 c = c ++ [a] := by
      rw [bump_end fun q hq => hc q hq a (by simp)]
      obtain ⟨a1, a2⟩ := a
      simp only at ha ⊢
      congr 3
      omega
    obtain ⟨s', e, g5⟩ := rd_counts (b :: r) n (c ++ [a]) (stepP (starS K (numbS K s))) (by simp) s2 (fun q hq => hx q (List.mem_cons_of_mem _ hq)) (fun q hq p hp => by
      rcases List.mem_append.1 hq with z | z
      · exact hc q z p (List.mem_cons_of_mem _ hp)
      · rw [List.mem_singleton.1 z]; exact s1 p hp) (by simp at hl ⊢; omega) g4.at_
    refine ⟨s', ?_, g4.trans g5⟩
    rw [countsP]
    rw [if_pos ht, v1, v2, hb, e]
    simp
/-- A place. -/
theorem rd_place {B : Nat} {L : List Col} {pre rest : List Pl} {p : Pl} (hs : s.pls = pre) (hc : s.cols = L) (ndc : (L.map (·.name)).Nodup) (nm : ∀ k : Int, 0 ≤ k ∧ k < (L.length : Int) → nmB (colB L k)) (nd : ((pre ++ p :: rest).map (·.name)).Nodup) (g : PlG B L.length p) (h : At_ K s ((1, p.name) :: ((3, ⟨#[58]⟩) :: ((1, colB L p.colour) :: (firstK p ++ ((3, ⟨#[59]⟩) :: l)))))) :
    ∃ s', placeS K s = { s' with pls := pre ++ [p] } ∧ Go_ K s s' l := by
  obtain ⟨nd1, nd2⟩ := nodup_mid (fun z : Pl => z.name) nd
  have hh : hadT (findPl s) p.name = false := by
    show hadT (findN (s.pls.map (·.name))) p.name = false
    rw [hs]; exact had_no nd1
  obtain ⟨g1, v1⟩ := rd_fresh (has := hadT (findPl s)) g.name h hh
  have g2 := g1.trans (rd_want g1.at_)
  obtain ⟨y, hy⟩ : ∃ y, y = wantP K ⟨#[58]⟩ (freshS K (hadT (findPl s)) s) := ⟨_, rfl⟩
  rw [← hy] at g2
  have hyc : y.cols = L := g2.cols.trans hc
  have f1 : findCol y (colB L p.colour) = p.colour := by
    show findN (y.cols.map (·.name)) _ = _
    rw [hyc]
    have := find_col (pre := L) (rest := []) ndc g.colour
    rw [List.append_nil] at this
    exact this
  obtain ⟨g3, v3⟩ := rd_known (find := findCol y) (nm _ g.colour) g2.at_ (by rw [f1]; exact g.colour.1)
  obtain ⟨u, hu⟩ : ∃ u, u = knownS K (findCol y) y := ⟨_, rfl⟩
  rw [← hu] at g3
  have key : ∃ z, firstC K u = (p.first, z) ∧ Go_ K u z ((3, ⟨#[59]⟩) :: l) := by
    have ha := g3.at_
    unfold firstK at ha
    unfold firstC
    by_cases q : p.first = []
    · rw [if_pos q] at ha
      have ha' : At_ K u ((3, ⟨#[59]⟩) :: l) := ha
      rw [if_neg (by rw [take_no ha'.sign (by decide)]; decide), q]
      exact ⟨u, rfl, Go_.refl ha'⟩
    · rw [if_neg q] at ha
      have ha' : At_ K u ((3, ⟨#[61]⟩) :: (commaK (p.first.map pairK) ++ ((3, ⟨#[59]⟩) :: l))) := ha
      rw [if_pos (take_yes ha'.sign)]
      have b1 := at_step ha'
      have hcl := comma_len pairK pairK_ne p.first
      have hll := b1.at_.len
      rw [List.length_append] at hll
      obtain ⟨z, e, b2⟩ := rd_counts p.first (K.length + 1) [] (stepP u) q g.srt g.first (fun q hq => absurd hq (by simp)) (by omega) b1.at_
      rw [e]
      exact ⟨z, rfl, b1.trans b2⟩
  obtain ⟨z, e, g4⟩ := key
  have g5 := ((g2.trans g3).trans g4).trans (rd_want g4.at_)
  refine ⟨wantP K ⟨#[59]⟩ z, ?_, g5⟩
  unfold placeS
  simp only
  rw [v1, ← hy, ← hu, e, v3, f1]
  simp only
  rw [g5.pls, hs]
  have hfl : (p.first.filter fun q => decide (0 < q.2)) = p.first := List.filter_eq_self.2 fun q hq => decide_eq_true (by have := (g.first q hq).2.1; omega)
  rw [hfl]
end
end Go.Proofs.YtkpjhjoopdbkaaaGreatDoor
