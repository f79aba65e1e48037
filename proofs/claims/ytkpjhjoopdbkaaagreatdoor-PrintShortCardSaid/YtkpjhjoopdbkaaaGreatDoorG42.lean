/- Joined: Plain: what a parser made of a net. Plain: a net's text, cut into tokens. -/
import Derived.Test.YtkpjhjoopdbkaaaGreatDoorG40
import Derived.Test.YtkpjhjoopdbkaaaGreatDoorG20
import Derived.Test.YtkpjhjoopdbkaaaGreatDoorG16
import Derived.Test.YtkpjhjoopdbkaaaGreatDoorG37
namespace Go.Proofs.YtkpjhjoopdbkaaaGreatDoor
def nmB (x : ByteArray) : Prop := nameOk x.data.toList = true ∧ isWord x = false
def inI (n : Int) : Prop := -9223372036854775807 ≤ n ∧ n ≤ 9223372036854775807
def inN (n : Int) : Prop := 0 ≤ n ∧ n ≤ 9223372036854775807
/-- A colour, behind so many. -/
structure ColG (B i : Nat) (c : Col) : Prop where
  name : nmB c.name
  kind : (c.kind = 1 ∧ inI c.lo ∧ inI c.hi ∧ c.names = [] ∧ c.first = 0 ∧ c.then_ = 0) ∨ (c.kind = 2 ∧ c.names ≠ [] ∧ (∀ x ∈ c.names, nmB x) ∧ c.names.length ≤ B ∧ c.lo = 0 ∧ c.hi = 0 ∧ c.first = 0 ∧ c.then_ = 0) ∨ (c.kind = 3 ∧ (0 ≤ c.first ∧ c.first < (i : Int)) ∧ (0 ≤ c.then_ ∧ c.then_ < (i : Int)) ∧ c.lo = 0 ∧ c.hi = 0 ∧ c.names = [])
/-- A place, of so many colours. -/
structure PlG (B C : Nat) (p : Pl) : Prop where
  name : nmB p.name
  colour : 0 ≤ p.colour ∧ p.colour < (C : Int)
  srt : Srt p.first
  first : ∀ q ∈ p.first, inN q.1 ∧ 1 ≤ q.2 ∧ q.2 ≤ 1048576
  len : p.first.length ≤ B
structure ArG (B P V : Nat) (a : Ar) : Prop where
  place : 0 ≤ a.place ∧ a.place < (P : Int)
  good : Good_ V a.expr
  need : (needT a.expr).2 ≤ 40
  size : sizeT a.expr ≤ B
structure TkG (B C P : Nat) (t : Tk) : Prop where
  name : nmB t.name
  vars : ∀ v ∈ t.vars, nmB v.name ∧ 0 ≤ v.colour ∧ v.colour < (C : Int)
  vnd : (t.vars.map (·.name)).Nodup
  guard : Good_ t.vars.length t.guard
  gneed : (needT t.guard).2 ≤ 40
  gsize : sizeT t.guard ≤ B
  join : 1 ≤ t.join ∧ t.join ≤ 3
  split : 1 ≤ t.split ∧ t.split ≤ 3
  ins : ∀ a ∈ t.ins, ArG B P t.vars.length a
  outs : ∀ a ∈ t.outs, ArG B P t.vars.length a
  cancel : ∀ k ∈ t.cancel, 0 ≤ k ∧ k < (P : Int)
  after : inN t.after
  m0 : inN t.m0
  m1 : inN t.m1
  m2 : inN t.m2
structure TkL (B : Nat) (t : Tk) : Prop where
  vars : t.vars.length ≤ B
  ins : t.ins.length ≤ B
  outs : t.outs.length ≤ B
  cancel : t.cancel.length ≤ B
/-- What a parser has. -/
structure NtG (B : Nat) (s : Ps) : Prop where
  cols : ∀ i, i < s.cols.length → ColG B i (s.cols.getD i default)
  cnd : (s.cols.map (·.name)).Nodup
  pls : ∀ p ∈ s.pls, PlG B s.cols.length p
  pnd : (s.pls.map (·.name)).Nodup
  tks : ∀ t ∈ s.tks, TkG B s.cols.length s.pls.length t ∧ TkL B t
  tnd : (s.tks.map (·.name)).Nodup
theorem NtG.same {B : Nat} {s z : Ps} (h : NtG B s) (h1 : z.cols = s.cols) (h2 : z.pls = s.pls) (h3 : z.tks = s.tks) : NtG B z :=
  ⟨by rw [h1]; exact h.cols, by rw [h1]; exact h.cnd, by rw [h1, h2]; exact h.pls, by rw [h2]; exact h.pnd, by rw [h1, h2, h3]; exact h.tks, by rw [h3]; exact h.tnd⟩
theorem nodup_snoc {l : List ByteArray} {x : ByteArray} (h : l.Nodup) (hx : x ∉ l) : (l ++ [x]).Nodup := by
  unfold List.Nodup at h ⊢
  rw [List.pairwise_append]
  refine ⟨h, List.pairwise_singleton _ _, fun a ha b hb e => ?_⟩
  rw [List.mem_singleton] at hb
  exact hx (by rw [← hb, ← e]; exact ha)
theorem getD_snoc {α : Type} [Inhabited α] (l : List α) (x : α) {i : Nat} (h : i < (l ++ [x]).length) : (i < l.length ∧ (l ++ [x]).getD i default = l.getD i default) ∨ (i = l.length ∧ (l ++ [x]).getD i default = x) := by
  rcases Nat.lt_or_ge i l.length with q | q
  · left
    refine ⟨q, ?_⟩
    rw [List.getD, List.getElem?_append_left q]; rfl
  · right
    have : i = l.length := by simp at h; omega
    subst this
    refine ⟨rfl, ?_⟩
    rw [List.getD, List.getElem?_append_right (Nat.le_refl _), Nat.sub_self]; rfl
theorem had_not {l : List ByteArray} {x : ByteArray} (h : hadT (findN l) x = false) : x ∉ l := by
  intro q
  unfold hadT at h
  exact of_decide_eq_false h ((Lib.idxOfS_nonneg_iff l x).2 q)
theorem ArG.more {B P V W : Nat} {a : Ar} (h : ArG B P V a) (hw : V ≤ W) : ArG B P W a := ⟨h.place, h.good.more hw, h.need, h.size⟩
theorem TkG.more {B C D P Q : Nat} {t : Tk} (h : TkG B C P t) (hc : C ≤ D) (hp : P ≤ Q) : TkG B D Q t :=
  ⟨h.name, fun v hv => by have := h.vars v hv; exact ⟨this.1, this.2.1, by omega⟩, h.vnd, h.guard, h.gneed, h.gsize, h.join, h.split,
    fun a ha => by have := h.ins a ha; exact ⟨⟨this.place.1, by have := this.place.2; omega⟩, this.good, this.need, this.size⟩,
    fun a ha => by have := h.outs a ha; exact ⟨⟨this.place.1, by have := this.place.2; omega⟩, this.good, this.need, this.size⟩,
    fun k hk => by have := h.cancel k hk; omega, h.after, h.m0, h.m1, h.m2⟩
theorem PlG.more {B C D : Nat} {p : Pl} (h : PlG B C p) (hc : C ≤ D) : PlG B D p := ⟨h.name, by have := h.colour; omega, h.srt, h.first, h.len⟩
section
variable {K : List Kt}
theorem name_nm (hK : ∀ x ∈ K, x.1 = 1 → nameOk x.2.data.toList = true) {s : Ps} (h : nameB K s = true) : nmB (nameV K s) := by
  have hl := name_lt h
  have hv : nameV K s = (nextP K s).2 := by unfold nameV; rw [if_pos h]
  have hn : nextP K s = K[s.at_]'hl.2 := by unfold nextP; rw [if_pos hl.1, List.getD, List.getElem?_eq_getElem hl.2]; rfl
  unfold nameB at h
  rw [Bool.and_eq_true, decide_eq_true_iff, Bool.not_eq_true'] at h
  rw [hv]
  refine ⟨?_, h.2⟩
  have h1 := h.1
  rw [hn] at h1 ⊢
  exact hK _ (List.getElem_mem hl.2) h1
theorem freshS_ok {has : ByteArray → Bool} {s : Ps} (h : (freshS K has s).err = 0) : nameB K s = true ∧ has (nameV K s) = false ∧ freshS K has s = stepP s ∧ s.err = 0 := by
  have key : ∀ z : Ps, (freshQ z).err = 0 → z.err = 0 ∧ freshQ z = stepP z := by
    intro z hz
    unfold freshQ at hz ⊢
    split at hz
    · rename_i q; exact ⟨q, if_pos q⟩
    · rename_i q; exact absurd hz q
  unfold freshS at h ⊢
  obtain ⟨k1, k2⟩ := key _ h
  rw [k2]
  split at k1
  · exact absurd k1 (wrong_err (by decide))
  · rename_i q
    have hn := name_err k1
    have e : nameQ K s = s := by unfold nameQ; rw [if_pos hn]
    rw [if_neg q, e]
    rw [e] at k1
    refine ⟨hn, ?_, rfl, k1⟩
    rw [hn, Bool.true_and] at q
    simpa using q
theorem numbS_err {s : Ps} (h : (numbS K s).err = 0) : s.err = 0 := (num_lt (numbS_ok h).1).1
theorem numb_in {s : Ps} (h : (numbS K s).err = 0) : inN (numbV K s) := numbV_ok (numbS_ok h).1
theorem integerS_ok {s : Ps} (h : (integerS K s).err = 0) : s.err = 0 ∧ inI (integerV K s) := by
  unfold integerS at h
  unfold integerV
  split at h
  · rename_i q
    rw [if_pos q]
    have h1 := numb_in h
    refine ⟨(take_lt minus_ne q).1, ?_⟩
    unfold inN at h1
    unfold inI
    omega
  · rename_i q
    rw [if_neg q]
    have h1 := numb_in h
    refine ⟨numbS_err h, ?_⟩
    unfold inN at h1
    unfold inI
    omega
theorem known_in {l : List ByteArray} {find : ByteArray → Int} {s : Ps} (e : find = findN l) (h : (knownS K find s).err = 0) : (0 ≤ knownV K find s ∧ knownV K find s < (l.length : Int)) ∧ s.err = 0 := by
  obtain ⟨h1, h2, h3, h4⟩ := knownS_ok h
  rw [h4]
  refine ⟨⟨h2, ?_⟩, (name_lt h1).1⟩
  rw [e]
  exact find_lt l _
theorem namesP_ok (hK : ∀ x ∈ K, x.1 = 1 → nameOk x.2.data.toList = true) : ∀ (n : Nat) (l : List ByteArray) (s : Ps), (∀ x ∈ l, nmB x) → (n = 0 → l ≠ []) → (namesP K n l s).2.err = 0 →
    (namesP K n l s).1 ≠ [] ∧ (∀ x ∈ (namesP K n l s).1, nmB x) ∧ (namesP K n l s).1.length + s.at_ ≤ l.length + (namesP K n l s).2.at_ ∧ s.err = 0
  | 0, l, s, h1, h2, he => ⟨h2 rfl, h1, Nat.le_refl _, he⟩
  | n + 1, l, s, h1, _, he => by
    unfold namesP at he ⊢
    have hm : nameB K s = true → ∀ x ∈ l ++ [nameV K s], nmB x := fun hn x hx => by
      rcases List.mem_append.1 hx with q | q
      · exact h1 x q
      · rw [List.mem_singleton.1 q]; exact name_nm hK hn
    split
    · rename_i q
      rw [if_pos q] at he
      obtain ⟨f1, f2, f3, f4⟩ := freshS_ok (take_lt (by decide) q).1
      obtain ⟨i1, i2, i3, i4⟩ := namesP_ok hK n (l ++ [nameV K s]) (stepP (freshS K nobody s)) (hm f1) (fun _ => by simp) he
      refine ⟨i1, i2, ?_, f4⟩
      rw [f3] at i3 ⊢
      have ea : (stepP (stepP s)).at_ = s.at_ + 2 := rfl
      rw [ea, List.length_append, List.length_singleton] at i3
      omega
    · rename_i q
      rw [if_neg q] at he
      obtain ⟨f1, f2, f3, f4⟩ := freshS_ok he
      refine ⟨by simp, hm f1, ?_, f4⟩
      show (l ++ [nameV K s]).length + s.at_ ≤ l.length + (freshS K nobody s).at_
      rw [f3, List.length_append, List.length_singleton]
      have ea : (stepP s).at_ = s.at_ + 1 := rfl
      omega
theorem colourK_ok (hK : ∀ x ∈ K, x.1 = 1 → nameOk x.2.data.toList = true) {x : ByteArray} (hx : nmB x) {s : Ps} (he : (colourK K (Col.named x) s).2.err = 0) : ColG K.length s.cols.length (colourK K (Col.named x) s).1 ∧ s.err = 0 := by
  unfold colourK at he ⊢
  split
  · rename_i q
    rw [if_pos q] at he
    have i1 := integerS_ok (K := K) he
    have i0 := integerS_ok (K := K) (want_back (by decide) i1.1)
    exact ⟨⟨hx, .inl ⟨rfl, i0.2, i1.2, rfl, rfl, rfl⟩⟩, (take_lt (by decide) q).1⟩
  rename_i q1
  rw [if_neg q1] at he
  split
  · rename_i q
    rw [if_pos q] at he
    obtain ⟨n1, n2, n3, _⟩ := namesP_ok hK (K.length + 1) [] (stepP s) (by simp) (fun h => absurd h (by omega)) he
    have m := (mv_names (K := K) (K.length + 1) [] (stepP s)).in_ (take_lt (by decide) q).2
    refine ⟨⟨hx, .inr (.inl ⟨rfl, n1, n2, ?_, rfl, rfl, rfl, rfl⟩)⟩, (take_lt (by decide) q).1⟩
    simp only [List.length_nil] at n3
    show (namesP K (K.length + 1) [] (stepP s)).1.length ≤ K.length
    omega
  rename_i q2
  rw [if_neg q2] at he
  split
  · rename_i q
    rw [if_pos q] at he
    obtain ⟨z, hz⟩ : ∃ z, z = wantP K ⟨#[44]⟩ (knownS K (findCol (stepP s)) (stepP s)) := ⟨_, rfl⟩
    rw [← hz] at he ⊢
    have k2 := known_in (find := findCol z) (l := z.cols.map (·.name)) rfl he
    have e1 : (knownS K (findCol (stepP s)) (stepP s)).err = 0 := want_back (x := ⟨#[44]⟩) (K := K) (by decide) (by rw [← hz]; exact k2.2)
    have k1 := known_in (find := findCol (stepP s)) (l := (stepP s).cols.map (·.name)) rfl e1
    have hc : z.cols = s.cols := by rw [hz, (mv_want (K := K) (by decide) _).cols, (mv_known (K := K) _ _).cols]; rfl
    have hc2 : (stepP s).cols = s.cols := rfl
    rw [List.length_map, hc] at k2
    rw [List.length_map, hc2] at k1
    exact ⟨⟨hx, .inr (.inr ⟨rfl, k1.1, k2.1, rfl, rfl, rfl⟩)⟩, (take_lt (by decide) q).1⟩
  · rename_i q
    rw [if_neg q] at he
    exact absurd he (wrong_err (by decide))
theorem colourS_ok (hK : ∀ x ∈ K, x.1 = 1 → nameOk x.2.data.toList = true) {s : Ps} (g : NtG K.length s) (he : (colourS K s).err = 0) : NtG K.length (colourS K s) ∧ s.err = 0 := by
  unfold colourS at he ⊢
  simp only at he ⊢
  obtain ⟨y, hy⟩ : ∃ y, y = wantP K ⟨#[61]⟩ (freshS K (hadT (findCol s)) s) := ⟨_, rfl⟩
  rw [← hy] at he ⊢
  obtain ⟨r, hr⟩ : ∃ r, r = colourK K (Col.named (nameV K s)) y := ⟨_, rfl⟩
  rw [← hr] at he ⊢
  have e1 : r.2.err = 0 := want_back (x := ⟨#[59]⟩) (K := K) (by decide) he
  have hyc : y.cols = s.cols := by rw [hy, (mv_want (K := K) (by decide) _).cols, (mv_fresh (K := K) _ _).cols]
  have m0 : Mv K s (wantP K ⟨#[59]⟩ r.2) := by
    rw [hr, hy]
    exact (((mv_fresh (K := K) (hadT (findCol s)) s).trans (mv_want (x := ⟨#[61]⟩) (by decide) _)).trans (mv_colourK _ _)).trans (mv_want (by decide) _)
  obtain ⟨z, hz⟩ : ∃ z, z = wantP K ⟨#[59]⟩ r.2 := ⟨_, rfl⟩
  rw [← hz] at m0 ⊢
  -- the name
  have e2 : y.err = 0 := by
    rcases Decidable.em (y.err = 0) with q | q
    · exact q
    · exfalso
      have := (mv_colourK (K := K) (Col.named (nameV K s)) y)
      rw [hr] at e1
      unfold colourK at e1
      rw [take_stuck (by decide) q, take_stuck (by decide) q, take_stuck (by decide) q] at e1
      simp only [Bool.false_eq_true, if_false] at e1
      exact wrong_err (by decide) e1
  have e3 : (freshS K (hadT (findCol s)) s).err = 0 := want_back (x := ⟨#[61]⟩) (K := K) (by decide) (by rw [← hy]; exact e2)
  obtain ⟨f1, f2, f3, f4⟩ := freshS_ok e3
  have hnm := name_nm hK f1
  have hc := (colourK_ok hK hnm (by rw [← hr]; exact e1)).1
  rw [← hr, hyc] at hc
  have hrn : r.1.name = nameV K s := by
    rw [hr]; unfold colourK
    split
    · rfl
    · split
      · rfl
      · split <;> rfl
  have e4 : ({ z with cols := z.cols ++ [r.1] } : Ps).cols = s.cols ++ [r.1] := by show z.cols ++ [r.1] = _; rw [m0.cols]
  refine ⟨⟨?_, ?_, ?_, ?_, ?_, ?_⟩, f4⟩
  · rw [e4]
    intro i hi
    rcases getD_snoc s.cols r.1 hi with ⟨q1, q2⟩ | ⟨q1, q2⟩
    · rw [q2]; exact g.cols i q1
    · rw [q2, q1]; exact hc
  · rw [e4, List.map_append, List.map_singleton, hrn]
    exact nodup_snoc g.cnd (had_not f2)
  · rw [e4]
    intro p hp
    have hp' : p ∈ s.pls := by rw [← m0.pls]; exact hp
    exact (g.pls p hp').more (by simp)
  · show (z.pls.map (·.name)).Nodup
    rw [m0.pls]; exact g.pnd
  · rw [e4]
    intro t ht
    have ht' : t ∈ s.tks := by rw [← m0.tks]; exact ht
    obtain ⟨a, b⟩ := g.tks t ht'
    refine ⟨a.more (by simp) ?_, b⟩
    show s.pls.length ≤ z.pls.length
    rw [m0.pls]; exact Nat.le_refl _
  · show (z.tks.map (·.name)).Nodup
    rw [m0.tks]; exact g.tnd
theorem bump_len (m n : Int) : ∀ c : Row, (bumpC m n c).length ≤ c.length + 1
  | [] => by rw [bumpC]; simp
  | (x, v) :: r => by
    have h := bump_len m n r
    rw [bumpC]
    split
    · simp
    · split
      · simp
      · simp; omega
theorem starS_err {s : Ps} (h : (starS K s).err = 0) : s.err = 0 := by
  unfold starS at h
  split at h
  · rename_i q; exact (take_lt (by decide) q).1
  · exact h
theorem countsP_ok : ∀ (n : Nat) (c : Row) (s : Ps), CntOk c → (∀ p ∈ c, inN p.1) → (countsP K n c s).2.err = 0 →
    CntOk (countsP K n c s).1 ∧ (∀ p ∈ (countsP K n c s).1, inN p.1) ∧ (countsP K n c s).1.length + s.at_ ≤ c.length + (countsP K n c s).2.at_ ∧ s.err = 0
  | 0, c, s, h1, h2, he => ⟨h1, h2, Nat.le_refl _, he⟩
  | n + 1, c, s, h1, h2, he => by
    unfold countsP at he ⊢
    simp only at he ⊢
    obtain ⟨z, hz⟩ : ∃ z, z = starS K (numbS K s) := ⟨_, rfl⟩
    rw [← hz] at he ⊢
    have main : z.err = 0 → CntOk (bumpC (numbV K s) (starV K (numbS K s)) c) ∧ (∀ p ∈ bumpC (numbV K s) (starV K (numbS K s)) c, inN p.1) ∧ s.at_ + 1 ≤ z.at_ ∧ s.err = 0 := fun ez => by
      have en : (numbS K s).err = 0 := starS_err (by rw [← hz]; exact ez)
      have hm := mv_star (K := K) (numbS K s)
      rw [← hz] at hm
      have hle := hm.le
      rw [(numbS_ok en).2] at hle
      refine ⟨h1.bump (starV_lo K _).1, fun p hp => ?_, hle, numbS_err en⟩
      rcases bump_keys c p hp with q | ⟨q, hq, e⟩
      · rw [q]; exact numb_in en
      · rw [← e]; exact h2 q hq
    have hbl := bump_len (numbV K s) (starV K (numbS K s)) c
    split
    · rename_i q
      rw [if_pos q] at he
      obtain ⟨a1, a2, a3, a4⟩ := main (take_lt (by decide) q).1
      obtain ⟨i1, i2, i3, _⟩ := countsP_ok n _ (stepP z) a1 a2 he
      have ea : (stepP z).at_ = z.at_ + 1 := rfl
      exact ⟨i1, i2, by omega, a4⟩
    · rename_i q
      rw [if_neg q] at he
      obtain ⟨a1, a2, a3, a4⟩ := main he
      exact ⟨a1, a2, by show (bumpC (numbV K s) (starV K (numbS K s)) c).length + s.at_ ≤ c.length + z.at_; omega, a4⟩
theorem firstC_ok {s : Ps} (hs : s.at_ ≤ K.length) (he : (firstC K s).2.err = 0) : CntOk (firstC K s).1 ∧ (∀ p ∈ (firstC K s).1, inN p.1) ∧ (firstC K s).1.length ≤ K.length ∧ s.err = 0 := by
  have hm := (mv_first (K := K) s).in_ hs
  unfold firstC at he hm ⊢
  split
  · rename_i q
    rw [if_pos q] at he hm
    obtain ⟨i1, i2, i3, _⟩ := countsP_ok (K.length + 1) [] (stepP s) ⟨List.Pairwise.nil, by simp⟩ (by simp) he
    simp only [List.length_nil] at i3
    exact ⟨i1, i2, by omega, (take_lt (by decide) q).1⟩
  · rename_i q
    rw [if_neg q] at he
    exact ⟨⟨List.Pairwise.nil, by simp⟩, by simp, by simp, he⟩
theorem placeS_ok (hK : ∀ x ∈ K, x.1 = 1 → nameOk x.2.data.toList = true) {s : Ps} (hs : s.at_ ≤ K.length) (g : NtG K.length s) (he : (placeS K s).err = 0) : NtG K.length (placeS K s) ∧ s.err = 0 := by
  unfold placeS at he ⊢
  simp only at he ⊢
  obtain ⟨y, hy⟩ : ∃ y, y = wantP K ⟨#[58]⟩ (freshS K (hadT (findPl s)) s) := ⟨_, rfl⟩
  rw [← hy] at he ⊢
  obtain ⟨r, hr⟩ : ∃ r, r = firstC K (knownS K (findCol y) y) := ⟨_, rfl⟩
  rw [← hr] at he ⊢
  have e1 : r.2.err = 0 := want_back (x := ⟨#[59]⟩) (K := K) (by decide) he
  have my : Mv K s y := by rw [hy]; exact (mv_fresh (K := K) (hadT (findPl s)) s).trans (mv_want (by decide) _)
  have mk : Mv K s (knownS K (findCol y) y) := my.trans (mv_known _ _)
  have m0 : Mv K s (wantP K ⟨#[59]⟩ r.2) := by
    rw [hr]
    exact (mk.trans (mv_first _)).trans (mv_want (by decide) _)
  obtain ⟨z, hz⟩ : ∃ z, z = wantP K ⟨#[59]⟩ r.2 := ⟨_, rfl⟩
  rw [← hz] at m0 ⊢
  obtain ⟨c1, c2, c3, c4⟩ := firstC_ok (K := K) (mk.in_ hs) (by rw [← hr]; exact e1)
  rw [← hr] at c1 c2 c3
  have k1 := known_in (find := findCol y) (l := y.cols.map (·.name)) rfl c4
  rw [List.length_map, my.cols] at k1
  have e3 : (freshS K (hadT (findPl s)) s).err = 0 := want_back (x := ⟨#[58]⟩) (K := K) (by decide) (by rw [← hy]; exact k1.2)
  obtain ⟨f1, f2, f3, f4⟩ := freshS_ok e3
  have hnm := name_nm hK f1
  obtain ⟨p, hp⟩ : ∃ p : Pl, p = ⟨nameV K s, knownV K (findCol y) y, r.1.filter fun q => decide (0 < q.2)⟩ := ⟨_, rfl⟩
  have hpg : PlG K.length s.cols.length p := by
    rw [hp]
    refine ⟨hnm, k1.1, c1.1.sublist List.filter_sublist, fun q hq => ?_, ?_⟩
    · obtain ⟨h1, h2⟩ := List.mem_filter.1 hq
      have h3 := c1.2 q h1
      have h4 := of_decide_eq_true h2
      exact ⟨c2 q h1, by omega, h3.2⟩
    · exact Nat.le_trans (List.length_filter_le _ _) c3
  rw [← hp]
  have e4 : ({ z with pls := z.pls ++ [p] } : Ps).pls = s.pls ++ [p] := by show z.pls ++ [p] = _; rw [m0.pls]
  have e5 : ({ z with pls := z.pls ++ [p] } : Ps).cols = s.cols := m0.cols
  have e6 : ({ z with pls := z.pls ++ [p] } : Ps).tks = s.tks := m0.tks
  refine ⟨⟨?_, ?_, ?_, ?_, ?_, ?_⟩, f4⟩
  · rw [e5]; exact g.cols
  · rw [e5]; exact g.cnd
  · rw [e4, e5]
    intro u hu
    rcases List.mem_append.1 hu with q | q
    · exact g.pls u q
    · rw [List.mem_singleton.1 q]; exact hpg
  · rw [e4, List.map_append, List.map_singleton]
    have : p.name = nameV K s := by rw [hp]
    rw [this]
    exact nodup_snoc g.pnd (had_not f2)
  · rw [e4, e5, e6]
    intro t ht
    obtain ⟨a, b⟩ := g.tks t ht
    exact ⟨a.more (Nat.le_refl _) (by simp), b⟩
  · rw [e6]; exact g.tnd
/-- What reads a task has. -/
structure TsG (B C P : Nat) (u : Ts) : Prop where
  t : TkG B C P u.t
  pv : u.s.vars = u.t.vars.map (·.name)
theorem arcP_ok {s : Ps} (hs : s.at_ ≤ K.length) (he : (arcP K s).2.err = 0) : ArG K.length s.pls.length s.vars.length (arcP K s).1 ∧ s.err = 0 := by
  unfold arcP at he ⊢
  simp only at he ⊢
  obtain ⟨y, hy⟩ : ∃ y, y = wantP K ⟨#[40]⟩ (knownS K (findPl s) s) := ⟨_, rfl⟩
  rw [← hy] at he ⊢
  have my : Mv K s y := by rw [hy]; exact (mv_known (K := K) (findPl s) s).trans (mv_want (by decide) _)
  have e1 : (exprP K 0 y).2.err = 0 := want_back (x := ⟨#[41]⟩) (K := K) (by decide) he
  have hin := my.in_ hs
  have hin2 := (mv_expr (K := K) 0 y).in_ hin
  obtain ⟨g1, g2, g3⟩ := expr_need (K := K) hin e1
  rw [my.vars] at g1
  have e2 : y.err = 0 := by
    rcases Decidable.em (y.err = 0) with q | q
    · exact q
    · rw [show (exprP K 0 y).2 = y from (exprs_stuck 40 y q).2 0] at e1; exact absurd e1 q
  have e3 : (knownS K (findPl s) s).err = 0 := want_back (x := ⟨#[40]⟩) (K := K) (by decide) (by rw [← hy]; exact e2)
  have k1 := known_in (find := findPl s) (l := s.pls.map (·.name)) rfl e3
  rw [List.length_map] at k1
  exact ⟨⟨k1.1, g1, g2, by show sizeT (exprP K 0 y).1 ≤ _; omega⟩, k1.2⟩
theorem kindS_ok {s : Ps} (he : (kindS K s).err = 0) : (1 ≤ kindV K s ∧ kindV K s ≤ 3) ∧ s.err = 0 := by
  unfold kindS at he
  unfold kindV
  split at he
  · rename_i q; rw [if_pos q]; exact ⟨by omega, (take_lt (by decide) q).1⟩
  rename_i q1
  rw [if_neg q1]
  split at he
  · rename_i q; rw [if_pos q]; exact ⟨by omega, (take_lt (by decide) q).1⟩
  rename_i q2
  rw [if_neg q2]
  split at he
  · rename_i q; rw [if_pos q]; exact ⟨by omega, (take_lt (by decide) q).1⟩
  · exact absurd he (wrong_err (by decide))
theorem clauseP_ok (hK : ∀ x ∈ K, x.1 = 1 → nameOk x.2.data.toList = true) {x : ByteArray} {t : Tk} {s : Ps} {r : Tk × Ps} (h : clauseP K x t s = some r) (he : r.2.err = 0) (hs : s.at_ ≤ K.length) (g : TkG K.length s.cols.length s.pls.length t) (pv : s.vars = t.vars.map (·.name)) :
    TkG K.length s.cols.length s.pls.length r.1 ∧ r.2.vars = r.1.vars.map (·.name) := by
  have hvl : s.vars.length = t.vars.length := by rw [pv, List.length_map]
  unfold clauseP at h
  split at h
  · injection h with h
    rw [← h] at he ⊢
    unfold varP at he ⊢
    simp only at he ⊢
    obtain ⟨y, hy⟩ : ∃ y, y = wantP K ⟨#[58]⟩ (freshS K (hadT (findVar s)) s) := ⟨_, rfl⟩
    rw [← hy] at he ⊢
    have my : Mv K s y := by rw [hy]; exact (mv_fresh (K := K) (hadT (findVar s)) s).trans (mv_want (by decide) _)
    have k1 := known_in (find := findCol y) (l := y.cols.map (·.name)) rfl he
    rw [List.length_map, my.cols] at k1
    have e3 : (freshS K (hadT (findVar s)) s).err = 0 := want_back (x := ⟨#[58]⟩) (K := K) (by decide) (by rw [← hy]; exact k1.2)
    obtain ⟨f1, f2, f3, f4⟩ := freshS_ok e3
    have hnm := name_nm hK f1
    have hl : t.vars.length ≤ (t.vars ++ [(⟨nameV K s, knownV K (findCol y) y⟩ : Vr)]).length := by simp
    refine ⟨⟨g.name, fun v hv => ?_, ?_, g.guard.more hl, g.gneed, g.gsize, g.join, g.split, fun a ha => (g.ins a ha).more hl, fun a ha => (g.outs a ha).more hl, g.cancel, g.after, g.m0, g.m1, g.m2⟩, ?_⟩
    · rcases List.mem_append.1 hv with q | q
      · exact g.vars v q
      · rw [List.mem_singleton.1 q]; exact ⟨hnm, k1.1⟩
    · show ((t.vars ++ [(⟨nameV K s, knownV K (findCol y) y⟩ : Vr)]).map (·.name)).Nodup
      rw [List.map_append, List.map_singleton]
      have f2' := had_not f2
      rw [pv] at f2'
      exact nodup_snoc g.vnd f2'
    · show (knownS K (findCol y) y).vars ++ [nameV K s] = (t.vars ++ [(⟨nameV K s, knownV K (findCol y) y⟩ : Vr)]).map (·.name)
      rw [(my.trans (mv_known _ _)).vars, List.map_append, List.map_singleton, pv]
  split at h
  · injection h with h
    rw [← h] at he ⊢
    obtain ⟨g1, g2, g3⟩ := expr_need (K := K) hs he
    have hin2 := (mv_expr (K := K) 0 s).in_ hs
    rw [hvl] at g1
    refine ⟨⟨g.name, g.vars, g.vnd, g1, g2, ?_, g.join, g.split, g.ins, g.outs, g.cancel, g.after, g.m0, g.m1, g.m2⟩, ?_⟩
    · show sizeT (exprP K 0 s).1 ≤ _
      omega
    · show (exprP K 0 s).2.vars = _
      rw [(mv_expr (K := K) 0 s).vars]; exact pv
  split at h
  · injection h with h
    rw [← h] at he ⊢
    refine ⟨⟨g.name, g.vars, g.vnd, g.guard, g.gneed, g.gsize, (kindS_ok he).1, g.split, g.ins, g.outs, g.cancel, g.after, g.m0, g.m1, g.m2⟩, ?_⟩
    show (kindS K s).vars = _
    rw [(mv_kind (K := K) s).vars]; exact pv
  split at h
  · injection h with h
    rw [← h] at he ⊢
    refine ⟨⟨g.name, g.vars, g.vnd, g.guard, g.gneed, g.gsize, g.join, (kindS_ok he).1, g.ins, g.outs, g.cancel, g.after, g.m0, g.m1, g.m2⟩, ?_⟩
    show (kindS K s).vars = _
    rw [(mv_kind (K := K) s).vars]; exact pv
  split at h
  · injection h with h
    rw [← h] at he ⊢
    have ha := (arcP_ok hs he).1
    rw [hvl] at ha
    refine ⟨⟨g.name, g.vars, g.vnd, g.guard, g.gneed, g.gsize, g.join, g.split, fun a hm => ?_, g.outs, g.cancel, g.after, g.m0, g.m1, g.m2⟩, ?_⟩
    · rcases List.mem_append.1 hm with q | q
      · exact g.ins a q
      · rw [List.mem_singleton.1 q]; exact ha
    · show (arcP K s).2.vars = _
      rw [(mv_arc (K := K) s).vars]; exact pv
  split at h
  · injection h with h
    rw [← h] at he ⊢
    have ha := (arcP_ok hs he).1
    rw [hvl] at ha
    refine ⟨⟨g.name, g.vars, g.vnd, g.guard, g.gneed, g.gsize, g.join, g.split, g.ins, fun a hm => ?_, g.cancel, g.after, g.m0, g.m1, g.m2⟩, ?_⟩
    · rcases List.mem_append.1 hm with q | q
      · exact g.outs a q
      · rw [List.mem_singleton.1 q]; exact ha
    · show (arcP K s).2.vars = _
      rw [(mv_arc (K := K) s).vars]; exact pv
  split at h
  · injection h with h
    rw [← h] at he ⊢
    have k1 := known_in (find := findPl s) (l := s.pls.map (·.name)) rfl he
    rw [List.length_map] at k1
    refine ⟨⟨g.name, g.vars, g.vnd, g.guard, g.gneed, g.gsize, g.join, g.split, g.ins, g.outs, fun a hm => ?_, g.after, g.m0, g.m1, g.m2⟩, ?_⟩
    · rcases List.mem_append.1 hm with q | q
      · exact g.cancel a q
      · rw [List.mem_singleton.1 q]; exact k1.1
    · show (knownS K (findPl s) s).vars = _
      rw [(mv_known (K := K) _ s).vars]; exact pv
  split at h
  · injection h with h
    rw [← h] at he ⊢
    refine ⟨⟨g.name, g.vars, g.vnd, g.guard, g.gneed, g.gsize, g.join, g.split, g.ins, g.outs, g.cancel, numb_in he, g.m0, g.m1, g.m2⟩, ?_⟩
    show (numbS K s).vars = _
    rw [(mv_number (K := K) s).vars]; exact pv
  split at h
  · injection h with h
    rw [← h] at he ⊢
    have hm := (mv_many (K := K) t s).vars
    unfold manyP at he hm ⊢
    simp only at he hm ⊢
    have n2 := numb_in he
    have e1 := want_back (K := K) (x := ⟨#[44]⟩) (by decide) (numbS_err he)
    have n1 := numb_in e1
    have e0 := want_back (K := K) (x := ⟨#[44]⟩) (by decide) (numbS_err e1)
    have n0 := numb_in e0
    exact ⟨⟨g.name, g.vars, g.vnd, g.guard, g.gneed, g.gsize, g.join, g.split, g.ins, g.outs, g.cancel, g.after, n0, n1, n2⟩, hm.trans pv⟩
  · cases h
theorem oneP_ok (hK : ∀ x ∈ K, x.1 = 1 → nameOk x.2.data.toList = true) {u : Ts} (he : (oneP K u).s.err = 0) (g : TsG K.length u.s.cols.length u.s.pls.length u) : TsG K.length u.s.cols.length u.s.pls.length (oneP K u) ∧ u.s.err = 0 := by
  unfold oneP at he ⊢
  split at he
  · exact absurd he (wrong_err (by decide))
  · rename_i r h
    split at he
    · exact absurd he (wrong_err (by decide))
    · rename_i q
      rw [if_neg q]
      have hne : seesP K u.s ≠ ByteArray.empty := fun e => by rw [e, clause_empty] at h; cases h
      have hl := sees_lt hne
      have he2 : r.2.err = 0 := want_back (x := ⟨#[59]⟩) (K := K) (by decide) he
      obtain ⟨g1, g2⟩ := clauseP_ok hK h he2 hl.2 g.t g.pv
      refine ⟨⟨g1, ?_⟩, hl.1⟩
      show (wantP K ⟨#[59]⟩ r.2).vars = _
      rw [(mv_want (K := K) (by decide) r.2).vars]; exact g2
theorem clausesP_ok (hK : ∀ x ∈ K, x.1 = 1 → nameOk x.2.data.toList = true) : ∀ (n : Nat) (u : Ts), (clausesP K n u).s.err = 0 → TsG K.length u.s.cols.length u.s.pls.length u → TsB u → TsG K.length u.s.cols.length u.s.pls.length (clausesP K n u) ∧ TsB (clausesP K n u) ∧ u.s.err = 0
  | 0, u, he, g, b => ⟨g, b, he⟩
  | n + 1, u, he, g, b => by
    by_cases h0 : u.s.err = 0
    · rcases ht : takeB K ⟨#[125]⟩ u.s with _ | _
      · rw [clauses_one n u h0 ht] at he ⊢
        have b1 := (one_goes (K := K) u b).1
        have hm := mt_one (K := K) u
        have hu : (oneP K u).s.err = 0 := by
          rcases Decidable.em ((oneP K u).s.err = 0) with q | q
          · exact q
          · rw [clauses_stuck n _ q] at he; exact absurd he q
        have g1 := (oneP_ok hK hu g).1
        have ih := clausesP_ok hK n (oneP K u) he (by rw [hm.cols, hm.pls]; exact g1) b1
        rw [hm.cols, hm.pls] at ih
        exact ⟨ih.1, ih.2.1, h0⟩
      · rw [clauses_take n u h0 ht] at he ⊢
        refine ⟨⟨g.t, g.pv⟩, ?_, h0⟩
        have ea : ({ u with s := stepP u.s } : Ts).s.at_ = u.s.at_ + 1 := rfl
        have h1 := b.had
        have h2 := b.vars
        have h3 := b.ins
        have h4 := b.outs
        have h5 := b.cancel
        have h6 := b.pv
        exact ⟨by rw [ea]; show u.had.length ≤ _; omega, by rw [ea]; show u.t.vars.length ≤ _; omega, by rw [ea]; show u.t.ins.length ≤ _; omega, by rw [ea]; show u.t.outs.length ≤ _; omega, by rw [ea]; show u.t.cancel.length ≤ _; omega, by rw [ea]; show u.s.vars.length ≤ _; omega⟩
    · rw [clauses_stuck _ u h0] at he
      exact absurd he h0
theorem clause_name {x : ByteArray} {t : Tk} {s : Ps} {r : Tk × Ps} (h : clauseP K x t s = some r) : r.1.name = t.name := by
  unfold clauseP at h
  split at h
  · injection h with h; rw [← h]; rfl
  split at h
  · injection h with h; rw [← h]
  split at h
  · injection h with h; rw [← h]
  split at h
  · injection h with h; rw [← h]
  split at h
  · injection h with h; rw [← h]
  split at h
  · injection h with h; rw [← h]
  split at h
  · injection h with h; rw [← h]
  split at h
  · injection h with h; rw [← h]
  split at h
  · injection h with h; rw [← h]; rfl
  · cases h
theorem clauses_name : ∀ (n : Nat) (u : Ts), (clausesP K n u).t.name = u.t.name
  | 0, u => rfl
  | n + 1, u => by
    unfold clausesP
    split
    · split
      · rfl
      · rw [clauses_name n]
        unfold oneP
        split
        · rfl
        · rename_i h
          split
          · rfl
          · exact clause_name h
    · rfl
theorem taskS_ok (hK : ∀ x ∈ K, x.1 = 1 → nameOk x.2.data.toList = true) {s : Ps} (hs : s.at_ ≤ K.length) (g : NtG K.length s) (h1 : 1 ≤ K.length) (he : (taskS K s).err = 0) : NtG K.length (taskS K s) ∧ s.err = 0 := by
  unfold taskS at he ⊢
  simp only at he ⊢
  obtain ⟨v, hv⟩ : ∃ v : Ps, v = { s with vars := [] } := ⟨_, rfl⟩
  obtain ⟨y, hy⟩ : ∃ y, y = wantP K ⟨#[123]⟩ (freshS K (hadT (findTk s)) v) := ⟨_, rfl⟩
  have hvn : nameV K v = nameV K s := by rw [hv]; rfl
  have hvb : nameB K v = nameB K s := by rw [hv]; rfl
  rw [← hv, ← hy] at he ⊢
  have my : Mv K v y := by rw [hy]; exact (mv_fresh (K := K) (hadT (findTk s)) v).trans (mv_want (by decide) _)
  obtain ⟨U, hU⟩ : ∃ U, U = clausesP K (K.length + 1) ⟨Tk.named (nameV K s), [], y⟩ := ⟨_, rfl⟩
  rw [← hU] at he ⊢
  have heU : U.s.err = 0 := he
  have mU := mt_clauses (K := K) (K.length + 1) ⟨Tk.named (nameV K s), [], y⟩
  rw [← hU] at mU
  have hyc : y.cols = s.cols := by rw [my.cols, hv]
  have hyp : y.pls = s.pls := by rw [my.pls, hv]
  have hyt : y.tks = s.tks := by rw [my.tks, hv]
  have hyv : y.vars = [] := by rw [my.vars, hv]
  have hva : v.at_ = s.at_ := by rw [hv]
  have hUc : U.s.cols = s.cols := mU.cols.trans hyc
  have hUp : U.s.pls = s.pls := mU.pls.trans hyp
  have hUt : U.s.tks = s.tks := mU.tks.trans hyt
  have e2 : y.err = 0 := by
    rcases Decidable.em (y.err = 0) with q | q
    · exact q
    · rw [hU, clauses_stuck _ ⟨Tk.named (nameV K s), [], y⟩ q] at heU; exact absurd heU q
  have e3 : (freshS K (hadT (findTk s)) v).err = 0 := want_back (x := ⟨#[123]⟩) (K := K) (by decide) (by rw [← hy]; exact e2)
  obtain ⟨f1, f2, f3, f4⟩ := freshS_ok e3
  rw [hvb] at f1
  rw [hvn] at f2
  have hnm := name_nm hK f1
  have g0 : TsG K.length y.cols.length y.pls.length ⟨Tk.named (nameV K s), [], y⟩ := by
    refine ⟨⟨hnm, by simp [Tk.named], by simp [Tk.named], good_num (by omega), ?_, ?_, by show (1 : Int) ≤ 1 ∧ (1 : Int) ≤ 3; omega, by show (1 : Int) ≤ 1 ∧ (1 : Int) ≤ 3; omega, by simp [Tk.named], by simp [Tk.named], by simp [Tk.named], (show inN 0 by unfold inN; omega), (show inN 0 by unfold inN; omega), (show inN 0 by unfold inN; omega), (show inN 0 by unfold inN; omega)⟩, ?_⟩
    · show (needT (.mk 1 1 [])).2 ≤ 40
      rw [needT]; decide
    · show sizeT (.mk 1 1 []) ≤ _
      rw [size_none]; exact h1
    · show y.vars = _
      rw [hyv]; rfl
  have b0 : TsB ⟨Tk.named (nameV K s), [], y⟩ := ⟨by simp, by simp [Tk.named], by simp [Tk.named], by simp [Tk.named], by simp [Tk.named], by show y.vars.length ≤ _; rw [hyv]; simp⟩
  obtain ⟨c1, c2, _⟩ := clausesP_ok hK (K.length + 1) ⟨Tk.named (nameV K s), [], y⟩ (by rw [← hU]; exact heU) g0 b0
  rw [← hU] at c1 c2
  have c1t : TkG K.length s.cols.length s.pls.length U.t := by have := c1.t; rw [show (⟨Tk.named (nameV K s), [], y⟩ : Ts).s.cols = s.cols from hyc, show (⟨Tk.named (nameV K s), [], y⟩ : Ts).s.pls = s.pls from hyp] at this; exact this
  have hat : U.s.at_ ≤ K.length := mU.in_ (my.in_ (by rw [hva]; exact hs))
  have hnmU : U.t.name = nameV K s := by rw [hU]; exact clauses_name _ _
  have e4 : ({ U.s with tks := U.s.tks ++ [U.t] } : Ps).tks = s.tks ++ [U.t] := by show U.s.tks ++ [U.t] = _; rw [hUt]
  have e5 : ({ U.s with tks := U.s.tks ++ [U.t] } : Ps).cols = s.cols := hUc
  have e6 : ({ U.s with tks := U.s.tks ++ [U.t] } : Ps).pls = s.pls := hUp
  refine ⟨⟨?_, ?_, ?_, ?_, ?_, ?_⟩, by rw [← f4, hv]⟩
  · rw [e5]; exact g.cols
  · rw [e5]; exact g.cnd
  · rw [e5, e6]; exact g.pls
  · rw [e6]; exact g.pnd
  · rw [e4, e5, e6]
    intro t ht
    rcases List.mem_append.1 ht with q | q
    · exact g.tks t q
    · rw [List.mem_singleton.1 q]
      have l1 := c2.vars
      have l2 := c2.ins
      have l3 := c2.outs
      have l4 := c2.cancel
      exact ⟨c1t, by omega, by omega, by omega, by omega⟩
  · rw [e4, List.map_append, List.map_singleton, hnmU]
    exact nodup_snoc g.tnd (had_not f2)
theorem partS_ok (hK : ∀ x ∈ K, x.1 = 1 → nameOk x.2.data.toList = true) {s : Ps} (g : NtG K.length s) (he : (partS K s).err = 0) : NtG K.length (partS K s) := by
  have gs : NtG K.length (stepP s) := g.same rfl rfl rfl
  unfold partS at he ⊢
  split
  · rename_i q
    rw [if_pos q] at he
    exact (colourS_ok hK gs he).1
  rename_i q1
  rw [if_neg q1] at he
  split
  · rename_i q
    rw [if_pos q] at he
    exact (placeS_ok hK (s := stepP s) (take_lt (by decide) q).2 gs he).1
  rename_i q2
  rw [if_neg q2] at he
  split
  · rename_i q
    rw [if_pos q] at he
    have hl := (take_lt (K := K) (by decide) q).2
    exact (taskS_ok hK (s := stepP s) hl gs (by omega) he).1
  · rename_i q
    rw [if_neg q] at he
    exact absurd he (wrong_err (by decide))
theorem partS_in {s : Ps} (hs : s.at_ ≤ K.length) : (partS K s).at_ ≤ K.length := by
  unfold partS
  split
  · rename_i q
    obtain ⟨z, x, m, e⟩ := colourS_eq (K := K) (stepP s)
    rw [e]; exact m.in_ (take_lt (by decide) q).2
  split
  · rename_i q
    obtain ⟨z, x, m, e⟩ := placeS_eq (K := K) (stepP s)
    rw [e]; exact m.in_ (take_lt (by decide) q).2
  split
  · rename_i q
    obtain ⟨z, x, m, e⟩ := taskS_eq (K := K) (stepP s)
    rw [e]; exact m.in_ (take_lt (by decide) q).2
  · exact (mv_wrong (K := K) 4 s).in_ hs
theorem declsP_ok (hK : ∀ x ∈ K, x.1 = 1 → nameOk x.2.data.toList = true) : ∀ (n : Nat) (s : Ps), s.at_ ≤ K.length → NtG K.length s → NtB s → (declsP K n s).err = 0 → NtG K.length (declsP K n s) ∧ NtB (declsP K n s) ∧ (declsP K n s).at_ ≤ K.length
  | 0, s, hs, g, b, _ => ⟨g, b, hs⟩
  | n + 1, s, hs, g, b, he => by
    by_cases h0 : s.err = 0
    · rcases ht : takeB K ⟨#[102, 114, 111, 109]⟩ s with _ | _
      · rw [decls_one n s h0 ht] at he ⊢
        have hp : (partS K s).err = 0 := by
          rcases Decidable.em ((partS K s).err = 0) with q | q
          · exact q
          · rw [decls_stuck n _ q] at he; exact absurd he q
        exact declsP_ok hK n (partS K s) (partS_in hs) (partS_ok hK g hp) (part_goes (K := K) s b).1 he
      · rw [decls_take n s h0 ht] at he ⊢
        have h1 := b.cols
        have h2 := b.pls
        have h3 := b.tks
        have hl := (take_lt (K := K) (by decide) ht).2
        have ea : (stepP s).at_ = s.at_ + 1 := rfl
        exact ⟨g.same rfl rfl rfl, ⟨by show s.cols.length ≤ _; omega, by show s.pls.length ≤ _; omega, by show s.tks.length ≤ _; omega⟩, hl⟩
    · rw [decls_stuck _ s h0] at he
      exact absurd he h0
/-- A net that was parsed. -/
structure NetG (B : Nat) (s : Ps) : Prop where
  net : NtG B s
  from_ : 0 ≤ s.from_ ∧ s.from_ < (s.pls.length : Int)
  to_ : 0 ≤ s.to_ ∧ s.to_ < (s.pls.length : Int)
  nc : s.cols.length ≤ B
  np : s.pls.length ≤ B
  nt : s.tks.length ≤ B
theorem netP_ok (hK : ∀ x ∈ K, x.1 = 1 → nameOk x.2.data.toList = true) (he : (netP K).err = 0) : NetG K.length (netP K) := by
  unfold netP at he ⊢
  obtain ⟨d, hd⟩ : ∃ d, d = declsP K (K.length + 1) Ps.zero := ⟨_, rfl⟩
  rw [← hd] at he ⊢
  have ht : toldS K (endsP K d) = endsP K d := by
    unfold toldS at he ⊢
    split at he
    · exact absurd he (wrong_err (by decide))
    · rename_i q; rw [if_neg q]
  rw [ht] at he ⊢
  unfold endsP at he ⊢
  simp only at he ⊢
  obtain ⟨b, hb⟩ : ∃ b : Ps, b = { knownS K (findPl d) d with from_ := knownV K (findPl d) d } := ⟨_, rfl⟩
  rw [← hb] at he ⊢
  obtain ⟨a, ha⟩ : ∃ a, a = wantP K ⟨#[116, 111]⟩ (wantP K ⟨#[59]⟩ b) := ⟨_, rfl⟩
  rw [← ha] at he ⊢
  have e1 : (knownS K (findPl a) a).err = 0 := want_back (K := K) (x := ⟨#[59]⟩) (s := { knownS K (findPl a) a with to_ := knownV K (findPl a) a }) (by decide) he
  have k2 := known_in (find := findPl a) (l := a.pls.map (·.name)) rfl e1
  have e2 : b.err = 0 := want_back (K := K) (x := ⟨#[59]⟩) (by decide) (want_back (K := K) (x := ⟨#[116, 111]⟩) (by decide) (by rw [← ha]; exact k2.2))
  have e3 : (knownS K (findPl d) d).err = 0 := by rw [hb] at e2; exact e2
  have k1 := known_in (find := findPl d) (l := d.pls.map (·.name)) rfl e3
  have mab : Mv K b a := by rw [ha]; exact (mv_want (by decide) b).trans (mv_want (by decide) _)
  have hbd := mv_known (K := K) (findPl d) d
  have hbc : b.cols = d.cols := by rw [hb]; exact hbd.cols
  have hbp : b.pls = d.pls := by rw [hb]; exact hbd.pls
  have hbt : b.tks = d.tks := by rw [hb]; exact hbd.tks
  have hbf : b.from_ = knownV K (findPl d) d := by rw [hb]
  have hka := mv_known (K := K) (findPl a) a
  obtain ⟨z, hz⟩ : ∃ z : Ps, z = { knownS K (findPl a) a with to_ := knownV K (findPl a) a } := ⟨_, rfl⟩
  rw [← hz]
  have mz := mv_want (K := K) (x := ⟨#[59]⟩) (by decide) z
  have hzc : z.cols = d.cols := by rw [hz]; exact (hka.cols.trans mab.cols).trans hbc
  have hzp : z.pls = d.pls := by rw [hz]; exact (hka.pls.trans mab.pls).trans hbp
  have hzt : z.tks = d.tks := by rw [hz]; exact (hka.tks.trans mab.tks).trans hbt
  have hzf : z.from_ = knownV K (findPl d) d := by rw [hz]; exact (hka.from_.trans mab.from_).trans hbf
  have hzo : z.to_ = knownV K (findPl a) a := by rw [hz]
  have hap : a.pls = d.pls := mab.pls.trans hbp
  rw [List.length_map, hap] at k2
  rw [List.length_map] at k1
  have g0 : NtG K.length Ps.zero := ⟨fun i h => absurd h (by simp [Ps.zero]), List.Pairwise.nil, fun p h => absurd h (by simp [Ps.zero]), List.Pairwise.nil, fun p h => absurd h (by simp [Ps.zero]), List.Pairwise.nil⟩
  have b0 : NtB Ps.zero := ⟨Nat.zero_le _, Nat.zero_le _, Nat.zero_le _⟩
  obtain ⟨g1, g2, g3⟩ := declsP_ok hK (K.length + 1) Ps.zero (Nat.zero_le _) g0 b0 (by rw [← hd]; exact k1.2)
  rw [← hd] at g1 g2 g3
  have h1 := g2.cols
  have h2 := g2.pls
  have h3 := g2.tks
  refine ⟨g1.same (mz.cols.trans hzc) (mz.pls.trans hzp) (mz.tks.trans hzt), ?_, ?_, ?_, ?_, ?_⟩
  · rw [mz.from_, mz.pls, hzf, hzp]; exact k1.1
  · rw [mz.to_, mz.pls, hzo, hzp]; exact k2.1
  · rw [mz.cols, hzc]; omega
  · rw [mz.pls, hzp]; omega
  · rw [mz.tks, hzt]; omega
end
end Go.Proofs.YtkpjhjoopdbkaaaGreatDoor
namespace Go.Proofs.YtkpjhjoopdbkaaaGreatDoor
/-- What is cut so, whatever stands behind; or whatever safe. -/
def Lc (u : List UInt8) (K : List Kt) : Prop := ∀ r, lxK (u ++ r) = (lxK r).map (K ++ ·)
def Lk (u : List UInt8) (K : List Kt) : Prop := ∀ r, Safe r → lxK (u ++ r) = (lxK r).map (K ++ ·)
/-- What begins with no byte of a name. -/
def Un (v : List UInt8) : Prop := ∃ c q, v = c :: q ∧ isNamed c = false
theorem Un.safe {v : List UInt8} (h : Un v) (r : List UInt8) : Safe (v ++ r) := by
  obtain ⟨c, q, rfl, h⟩ := h
  exact safe_of _ h
theorem Un.app {v : List UInt8} (h : Un v) (m : List UInt8) : Un (v ++ m) := by
  obtain ⟨c, q, rfl, h⟩ := h
  exact ⟨c, q ++ m, rfl, h⟩
theorem Lc.lk {u : List UInt8} {K : List Kt} (h : Lc u K) : Lk u K := fun r _ => h r
theorem lc_nil : Lc [] [] := fun r => by
  show lxK r = (lxK r).map ([] ++ ·)
  cases lxK r <;> rfl
theorem Lc.app {u v : List UInt8} {K M : List Kt} (h : Lc u K) (k : Lc v M) : Lc (u ++ v) (K ++ M) := fun r => by rw [List.append_assoc, h, k, map_app_app]
theorem Lc.appk {u v : List UInt8} {K M : List Kt} (h : Lc u K) (k : Lk v M) : Lk (u ++ v) (K ++ M) := fun r hr => by rw [List.append_assoc, h, k r hr, map_app_app]
theorem Lk.app {u v : List UInt8} {K M : List Kt} (h : Lk u K) (hv : Un v) (k : Lc v M) : Lc (u ++ v) (K ++ M) := fun r => by rw [List.append_assoc, h _ (hv.safe r), k, map_app_app]
theorem Lk.appk {u v : List UInt8} {K M : List Kt} (h : Lk u K) (hv : Un v) (k : Lk v M) : Lk (u ++ v) (K ++ M) := fun r hr => by rw [List.append_assoc, h _ (hv.safe r), k r hr, map_app_app]
theorem lk_name {x : ByteArray} (h : nameOk x.data.toList = true) : Lk x.data.toList [(1, x)] := fun r hr => by
  rw [lxK_name h hr, map_one, show (⟨x.data.toList.toArray⟩ : ByteArray) = x by simp]
theorem lc_blank {b : UInt8} (hb : isBlank b = true) : Lc [b] [] := fun r => by
  rw [List.singleton_append, lxK_blank hb]
  cases lxK r <;> rfl
theorem lc_sign {c : UInt8} (hc : c = 40 ∨ c = 41 ∨ c = 44 ∨ c = 45 ∨ c = 59 ∨ c = 58 ∨ c = 123 ∨ c = 125 ∨ c = 42) : Lc [c] [(3, ⟨#[c]⟩)] := fun r => by
  rw [List.singleton_append, lxK_sign r hc, map_one]
theorem lc_dots : Lc [46, 46] [(3, ⟨#[46, 46]⟩)] := fun r => by
  rw [show [46, 46] ++ r = [46, 46] ++ r from rfl, lxK_piece (u := [46, 46]) (k := 3) (by simp) (by decide) (by decide) rfl rfl rfl, map_one]
theorem lc_eq : Lc [61, 32] [(3, ⟨#[61]⟩)] := fun r => by
  rw [show [61, 32] ++ r = [61] ++ 32 :: r from rfl, lxK_piece (u := [61]) (k := 3) (by simp) (by decide) (by decide) rfl rfl rfl, lxK_blank (by decide), map_one]
/-- A word and a blank. -/
theorem lc_word {l : List UInt8} (h : nameOk l = true) : Lc (l ++ [32]) [(1, ⟨l.toArray⟩)] := by
  have h1 := (lk_name (x := ⟨l.toArray⟩) (by simpa using h)).app (v := [32]) (M := []) ⟨32, [], rfl, by decide⟩ (lc_blank (by decide))
  simpa using h1
theorem lc_semi : Lc [59, 10] [(3, ⟨#[59]⟩)] := (lc_sign (c := 59) (by simp)).app (lc_blank (b := 10) (by decide))
theorem lc_comma : Lc [44, 32] [(3, ⟨#[44]⟩)] := (lc_sign (c := 44) (by simp)).app (lc_blank (b := 32) (by decide))
theorem lc_colon : Lc [58, 32] [(3, ⟨#[58]⟩)] := (lc_sign (c := 58) (by simp)).app (lc_blank (b := 32) (by decide))
theorem lc_is : Lc [32, 61, 32] [(3, ⟨#[61]⟩)] := (lc_blank (b := 32) (by decide)).app lc_eq
theorem lc_to : Lc [32, 46, 46, 32] [(3, ⟨#[46, 46]⟩)] := ((lc_blank (b := 32) (by decide)).app lc_dots).app (lc_blank (b := 32) (by decide))
theorem un_of {c : UInt8} (q : List UInt8) (h : isNamed c = false) : Un (c :: q) := ⟨c, q, rfl, h⟩
/-- Numbers. -/
def nuK (n : Int) : List Kt := [(2, itoaB n)]
def inK (n : Int) : List Kt := if n < 0 then (3, ⟨#[45]⟩) :: nuK (-n) else nuK n
theorem itoaB_bytes (n : Int) : (itoaB n).data.toList = Lib.itoa n := by unfold itoaB; simp
theorem lk_num {n : Int} (h : inN n) : Lk (itoaB n).data.toList (nuK n) := fun r hr => by
  rw [itoaB_bytes, lxK_num (itoa_num h.1 h.2).1 hr, map_one]; rfl
theorem itoa_neg {n : Int} (h : n < 0) : Lib.itoa n = 45 :: Lib.itoa (-n) := by
  unfold Lib.itoa
  rw [if_pos h, if_neg (by omega)]
  congr 2
  omega
theorem lk_int {n : Int} (h : inI n) : Lk (itoaB n).data.toList (inK n) := by
  unfold inI at h
  unfold inK
  split
  · rename_i q
    have h1 := (lc_sign (c := 45) (by simp)).appk (lk_num (n := -n) (by unfold inN; omega))
    rw [itoaB_bytes] at h1 ⊢
    rw [itoa_neg q]
    exact h1
  · exact lk_num (by unfold inN; omega)
/-- Parts with commas between. -/
def commaK : List (List Kt) → List Kt
  | [] => []
  | [a] => a
  | a :: b :: r => a ++ ([(3, ⟨#[44]⟩)] ++ commaK (b :: r))
theorem join_cons2 (a b : List UInt8) (r : List (List UInt8)) (sep : List UInt8) : Lib.join (a :: b :: r) sep = a ++ (sep ++ Lib.join (b :: r) sep) := by simp [Lib.join, List.intercalate]
theorem lk_join {α : Type} (f : α → List UInt8) (k : α → List Kt) : ∀ l : List α, (∀ x ∈ l, Lk (f x) (k x)) → Lk (Lib.join (l.map f) [44, 32]) (commaK (l.map k))
  | [], _ => lc_nil.lk
  | [a], h => by
    show Lk (Lib.join [f a] [44, 32]) (k a)
    rw [Lib.join_one]
    exact h a (by simp)
  | a :: b :: r, h => by
    show Lk (Lib.join (f a :: f b :: r.map f) [44, 32]) (k a ++ ([(3, ⟨#[44]⟩)] ++ commaK (k b :: r.map k)))
    rw [join_cons2]
    exact (h a (by simp)).appk ((un_of _ (by decide)).app _) (lc_comma.appk (lk_join f k (b :: r) fun x hx => h x (by simp [hx])))
theorem lk_joinB {α : Type} (f : α → ByteArray) (k : α → List Kt) (l : List α) (h : ∀ x ∈ l, Lk (f x).data.toList (k x)) : Lk (joinB (l.map f)).data.toList (commaK (l.map k)) := by
  have e : (joinB (l.map f)).data.toList = Lib.join (l.map fun x => (f x).data.toList) [44, 32] := by
    unfold joinB
    rw [List.map_map]
    simp [Function.comp_def]
  rw [e]
  exact lk_join _ k l h
theorem lc_flat {α : Type} (f : α → List UInt8) (k : α → List Kt) : ∀ l : List α, (∀ x ∈ l, Lc (f x) (k x)) → Lc (l.map f).flatten (l.map k).flatten
  | [], _ => lc_nil
  | a :: r, h => by
    rw [List.map_cons, List.map_cons, List.flatten_cons, List.flatten_cons]
    exact (h a (by simp)).app (lc_flat f k r fun x hx => h x (by simp [hx]))
theorem bytes_app (a b : ByteArray) : (a ++ b).data.toList = a.data.toList ++ b.data.toList := by simp
/-- A colour's tokens. -/
def memK (L : List Col) (c : Col) : List Kt :=
  if c.kind = 1 then (([(1, ⟨#[105, 110, 116]⟩)] ++ inK c.lo) ++ [(3, ⟨#[46, 46]⟩)]) ++ inK c.hi
  else if c.kind = 2 then [(1, ⟨#[101, 110, 117, 109]⟩)] ++ commaK (c.names.map fun x => [(1, x)])
  else (([(1, ⟨#[112, 97, 105, 114]⟩)] ++ [(1, colB L c.first)]) ++ [(3, ⟨#[44]⟩)]) ++ [(1, colB L c.then_)]
def colK (L : List Col) (c : Col) : List Kt := ((([(1, ⟨#[99, 111, 108, 111, 117, 114]⟩)] ++ [(1, c.name)]) ++ [(3, ⟨#[61]⟩)]) ++ memK L c) ++ [(3, ⟨#[59]⟩)]
def pairK (q : Int × Int) : List Kt := (nuK q.1 ++ [(3, ⟨#[42]⟩)]) ++ nuK q.2
def firstK (p : Pl) : List Kt := if p.first = [] then [] else [(3, ⟨#[61]⟩)] ++ commaK (p.first.map pairK)
def plK (L : List Col) (p : Pl) : List Kt := (((([(1, ⟨#[112, 108, 97, 99, 101]⟩)] ++ [(1, p.name)]) ++ [(3, ⟨#[58]⟩)]) ++ [(1, colB L p.colour)]) ++ firstK p) ++ [(3, ⟨#[59]⟩)]
/-- Clauses, and their tokens. -/
def varZ (L : List Col) (v : Vr) : ByteArray × List Kt := (varB L v, (([(1, ⟨#[118, 97, 114]⟩)] ++ [(1, v.name)]) ++ [(3, ⟨#[58]⟩)]) ++ [(1, colB L v.colour)])
def whenZ (t : Tk) : List (ByteArray × List Kt) := if sameT t.guard (.mk 1 1 []) = true then [] else [((⟨#[119, 104, 101, 110, 32]⟩ : ByteArray) ++ exprB t.names t.guard, [(1, ⟨#[119, 104, 101, 110]⟩)] ++ toksT t.names t.guard)]
def kindZ (word : ByteArray) (k : Int) : List (ByteArray × List Kt) := if k = 1 then [] else if k = 2 then [(word ++ ⟨#[32, 120, 111, 114]⟩, [(1, word)] ++ [(1, ⟨#[120, 111, 114]⟩)])] else if k = 3 then [(word ++ ⟨#[32, 111, 114]⟩, [(1, word)] ++ [(1, ⟨#[111, 114]⟩)])] else [(word ++ ⟨#[32, 63]⟩, [])]
def arcZ (P : List Pl) (names : List ByteArray) (word wk : ByteArray) (a : Ar) : ByteArray × List Kt := (arcB P names word a, ((([(1, wk)] ++ [(1, plB P a.place)]) ++ [(3, ⟨#[40]⟩)]) ++ toksT names a.expr) ++ [(3, ⟨#[41]⟩)])
def cancelZ (P : List Pl) (k : Int) : ByteArray × List Kt := (cancelB P k, [(1, ⟨#[99, 97, 110, 99, 101, 108]⟩)] ++ [(1, plB P k)])
def afterZ (t : Tk) : List (ByteArray × List Kt) := if t.after = 0 then [] else [((⟨#[97, 102, 116, 101, 114, 32]⟩ : ByteArray) ++ itoaB t.after, [(1, ⟨#[97, 102, 116, 101, 114]⟩)] ++ nuK t.after)]
def manyZ (t : Tk) : List (ByteArray × List Kt) := if t.m0 = 0 ∧ t.m1 = 0 ∧ t.m2 = 0 then [] else [((⟨#[109, 97, 110, 121, 32]⟩ : ByteArray) ++ joinB [itoaB t.m0, itoaB t.m1, itoaB t.m2], [(1, ⟨#[109, 97, 110, 121]⟩)] ++ commaK [nuK t.m0, nuK t.m1, nuK t.m2])]
def clausesZ (L : List Col) (P : List Pl) (t : Tk) : List (ByteArray × List Kt) :=
  t.vars.map (varZ L) ++ whenZ t ++ kindZ ⟨#[106, 111, 105, 110]⟩ t.join ++ kindZ ⟨#[115, 112, 108, 105, 116]⟩ t.split ++ t.ins.map (arcZ P t.names ⟨#[105, 110, 32]⟩ ⟨#[105, 110]⟩) ++ t.outs.map (arcZ P t.names ⟨#[111, 117, 116, 32]⟩ ⟨#[111, 117, 116]⟩) ++ t.cancel.map (cancelZ P) ++ afterZ t ++ manyZ t
theorem kindZ_fst (word : ByteArray) (k : Int) : (kindZ word k).map (·.1) = kindB word k := by
  unfold kindZ kindB
  split
  · rfl
  · split
    · rfl
    · split <;> rfl
theorem clausesZ_fst (L : List Col) (P : List Pl) (t : Tk) : (clausesZ L P t).map (·.1) = clausesB L P t := by
  have e1 : (whenZ t).map (·.1) = whenB t := by unfold whenZ whenB; split <;> rfl
  have e2 : (afterZ t).map (·.1) = afterB t := by unfold afterZ afterB; split <;> rfl
  have e3 : (manyZ t).map (·.1) = manyB t := by unfold manyZ manyB; split <;> rfl
  unfold clausesZ clausesB
  simp only [List.map_append, List.map_map, kindZ_fst, e1, e2, e3]
  rfl
def semiK (z : ByteArray × List Kt) : List Kt := z.2 ++ [(3, ⟨#[59]⟩)]
def tkK (L : List Col) (P : List Pl) (t : Tk) : List Kt := ((([(1, ⟨#[116, 97, 115, 107]⟩)] ++ [(1, t.name)]) ++ [(3, ⟨#[123]⟩)]) ++ ((clausesZ L P t).map semiK).flatten) ++ [(3, ⟨#[125]⟩)]
def endK (N : Nt) : List Kt := (((([(1, ⟨#[102, 114, 111, 109]⟩)] ++ [(1, plB N.pls N.from_)]) ++ [(3, ⟨#[59]⟩)]) ++ [(1, ⟨#[116, 111]⟩)]) ++ [(1, plB N.pls N.to_)]) ++ [(3, ⟨#[59]⟩)]
def netK (N : Nt) : List Kt := (((N.cols.map (colK N.cols)).flatten ++ (N.pls.map (plK N.cols)).flatten) ++ (N.tks.map (tkK N.cols N.pls)).flatten) ++ endK N
/-- Names there are. -/
theorem colB_at {L : List Col} {k : Int} (h : 0 ≤ k ∧ k < (L.length : Int)) : colB L k = (L.getD k.toNat default).name ∧ k.toNat < L.length := by
  refine ⟨?_, by omega⟩
  unfold colB atB
  rw [if_pos h]
theorem plB_at {L : List Pl} {k : Int} (h : 0 ≤ k ∧ k < (L.length : Int)) : plB L k = (L.getD k.toNat default).name ∧ k.toNat < L.length := by
  refine ⟨?_, by omega⟩
  unfold plB atB
  rw [if_pos h]
theorem mem_getD {α : Type} [Inhabited α] {l : List α} {k : Nat} (h : k < l.length) : l.getD k default ∈ l := by
  rw [List.getD, List.getElem?_eq_getElem h]; exact List.getElem_mem h
section
variable {B : Nat} {s : Ps}
theorem col_nm (g : NtG B s) {k : Int} (h : 0 ≤ k ∧ k < (s.cols.length : Int)) : nmB (colB s.cols k) := by
  obtain ⟨e, hk⟩ := colB_at h
  rw [e]; exact (g.cols _ hk).name
theorem pl_nm (g : NtG B s) {k : Int} (h : 0 ≤ k ∧ k < (s.pls.length : Int)) : nmB (plB s.pls k) := by
  obtain ⟨e, hk⟩ := plB_at h
  rw [e]; exact (g.pls _ (mem_getD hk)).name
theorem lk_nm {x : ByteArray} (h : nmB x) : Lk x.data.toList [(1, x)] := lk_name h.1
theorem lk_mem (g : NtG B s) {i : Nat} (hi : i ≤ s.cols.length) {c : Col} (h : ColG B i c) : Lk (membersB s.cols c).data.toList (memK s.cols c) := by
  unfold membersB memK
  rcases h.kind with ⟨k, h1, h2, _⟩ | ⟨k, _, h1, _⟩ | ⟨k, h1, h2, _⟩
  · rw [if_pos k, if_pos k, bytes_app, bytes_app, bytes_app]
    exact (((lc_word (l := [105, 110, 116]) (by decide)).appk (lk_int h1)).app (un_of _ (by decide)) lc_to).appk (lk_int h2)
  · rw [if_neg (by omega), if_pos k, if_neg (by omega), if_pos k, bytes_app]
    have h3 := (lc_word (l := [101, 110, 117, 109]) (by decide)).appk (lk_joinB (fun x : ByteArray => x) (fun x => [(1, x)]) c.names fun x hx => lk_nm (h1 x hx))
    rw [List.map_id'] at h3
    exact h3
  · rw [if_neg (by omega), if_neg (by omega), if_pos k, if_neg (by omega), if_neg (by omega), bytes_app, bytes_app, bytes_app]
    exact (((lc_word (l := [112, 97, 105, 114]) (by decide)).appk (lk_nm (col_nm g ⟨h1.1, by omega⟩))).app (un_of _ (by decide)) lc_comma).appk (lk_nm (col_nm g ⟨h2.1, by omega⟩))
theorem lc_col (g : NtG B s) {i : Nat} (hi : i ≤ s.cols.length) {c : Col} (h : ColG B i c) : Lc (colLine s.cols c).data.toList (colK s.cols c) := by
  unfold colLine colK
  rw [bytes_app, bytes_app, bytes_app, bytes_app]
  exact ((((lc_word (l := [99, 111, 108, 111, 117, 114]) (by decide)).appk (lk_nm h.name)).app (un_of _ (by decide)) lc_is).appk (lk_mem g hi h)).app (un_of _ (by decide)) lc_semi
theorem lk_pair {q : Int × Int} (h : inN q.1 ∧ 1 ≤ q.2 ∧ q.2 ≤ 1048576) : Lk (pairB q).data.toList (pairK q) := by
  unfold pairB pairK
  rw [bytes_app, bytes_app]
  exact ((lk_num h.1).app (un_of _ (by decide)) (lc_sign (c := 42) (by simp))).appk (lk_num (by unfold inN; omega))
theorem lc_pl (g : NtG B s) {p : Pl} (h : PlG B s.cols.length p) : Lc (plLine s.cols p).data.toList (plK s.cols p) := by
  unfold plLine plK
  rw [bytes_app, bytes_app, bytes_app, bytes_app, bytes_app]
  have h1 := (((lc_word (l := [112, 108, 97, 99, 101]) (by decide)).appk (lk_nm h.name)).app (un_of _ (by decide)) lc_colon).appk (lk_nm (col_nm g h.colour))
  refine Lk.app ?_ (un_of _ (by decide)) lc_semi
  unfold firstB firstK
  split
  · have e : ∀ u : List UInt8, u ++ (⟨#[]⟩ : ByteArray).data.toList = u := fun u => List.append_nil u
    rw [e, List.append_nil]
    exact h1
  · rw [bytes_app]
    exact h1.appk ((un_of _ (by decide)).app _) (lc_is.appk (lk_joinB pairB pairK p.first fun q hq => lk_pair (h.first q hq)))
theorem tk_nm {C P : Nat} {t : Tk} (h : TkG B C P t) : NmOk t.names := by
  refine ⟨fun n hn => ?_, h.vnd⟩
  obtain ⟨v, hv, rfl⟩ := List.mem_map.1 hn
  exact (h.vars v hv).1
theorem lk_expr {names : List ByteArray} (hN : NmOk names) {e : Tr} (h : Good_ names.length e) : Lk (exprB names e).data.toList (toksT names e) := by
  have e1 : (exprB names e).data.toList = textT names e := by unfold exprB; simp
  rw [e1]
  exact (cut_read hN e.sz e (Nat.le_refl _) h.parts h.read).1
theorem names_len (t : Tk) : t.names.length = t.vars.length := by unfold Tk.names; rw [List.length_map]
theorem lk_arc (g : NtG B s) {t : Tk} (h : TkG B s.cols.length s.pls.length t) {word wk : List UInt8} (hw : word = wk ++ [32]) (hk : nameOk wk = true) {a : Ar} (ha : ArG B s.pls.length t.vars.length a) : Lk (arcB s.pls t.names ⟨word.toArray⟩ a).data.toList (arcZ s.pls t.names ⟨word.toArray⟩ ⟨wk.toArray⟩ a).2 := by
  unfold arcB arcZ
  rw [bytes_app, bytes_app, bytes_app, bytes_app]
  have hg := ha.good
  rw [← names_len] at hg
  have e : (⟨word.toArray⟩ : ByteArray).data.toList = wk ++ [32] := by rw [hw]
  rw [e]
  have h1 := (((lc_word hk).appk (lk_nm (pl_nm g ha.place))).app (un_of _ (by decide)) (lc_sign (c := 40) (by simp))).appk (lk_expr (tk_nm h) hg)
  exact (h1.app (un_of _ (by decide)) (lc_sign (c := 41) (by simp))).lk
theorem lk_kind {word : ByteArray} (hw : nameOk word.data.toList = true) {k : Int} (hk : 1 ≤ k ∧ k ≤ 3) : ∀ z ∈ kindZ word k, Lk z.1.data.toList z.2 := by
  intro z hz
  unfold kindZ at hz
  split at hz
  · simp at hz
  split at hz
  · rw [List.mem_singleton] at hz
    subst hz
    show Lk (word ++ _).data.toList _
    rw [bytes_app]
    exact (lk_name hw).appk (un_of _ (by decide)) ((lc_blank (b := 32) (by decide)).appk (lk_name (x := ⟨#[120, 111, 114]⟩) (by decide)))
  split at hz
  · rw [List.mem_singleton] at hz
    subst hz
    show Lk (word ++ _).data.toList _
    rw [bytes_app]
    exact (lk_name hw).appk (un_of _ (by decide)) ((lc_blank (b := 32) (by decide)).appk (lk_name (x := ⟨#[111, 114]⟩) (by decide)))
  · omega
theorem lk_clauses (g : NtG B s) {t : Tk} (h : TkG B s.cols.length s.pls.length t) : ∀ z ∈ clausesZ s.cols s.pls t, Lk z.1.data.toList z.2 := by
  intro z hz
  unfold clausesZ at hz
  simp only [List.mem_append] at hz
  have hN := tk_nm h
  rcases hz with (((((((hz | hz) | hz) | hz) | hz) | hz) | hz) | hz) | hz
  · obtain ⟨v, hv, rfl⟩ := List.mem_map.1 hz
    have hv := h.vars v hv
    unfold varZ varB
    simp only
    rw [bytes_app, bytes_app, bytes_app]
    exact (((lc_word (l := [118, 97, 114]) (by decide)).appk (lk_nm hv.1)).app (un_of _ (by decide)) lc_colon).appk (lk_nm (col_nm g hv.2))
  · unfold whenZ at hz
    split at hz
    · simp at hz
    · rw [List.mem_singleton] at hz
      subst hz
      have hg := h.guard
      rw [← names_len] at hg
      show Lk (_ ++ _ : ByteArray).data.toList _
      rw [bytes_app]
      exact (lc_word (l := [119, 104, 101, 110]) (by decide)).appk (lk_expr hN hg)
  · exact lk_kind (by decide) h.join z hz
  · exact lk_kind (by decide) h.split z hz
  · obtain ⟨a, ha, rfl⟩ := List.mem_map.1 hz
    exact lk_arc g h (word := [105, 110, 32]) (wk := [105, 110]) rfl (by decide) (h.ins a ha)
  · obtain ⟨a, ha, rfl⟩ := List.mem_map.1 hz
    exact lk_arc g h (word := [111, 117, 116, 32]) (wk := [111, 117, 116]) rfl (by decide) (h.outs a ha)
  · obtain ⟨k, hk, rfl⟩ := List.mem_map.1 hz
    unfold cancelZ cancelB
    simp only
    rw [bytes_app]
    exact (lc_word (l := [99, 97, 110, 99, 101, 108]) (by decide)).appk (lk_nm (pl_nm g (h.cancel k hk)))
  · unfold afterZ at hz
    split at hz
    · simp at hz
    · rw [List.mem_singleton] at hz
      subst hz
      show Lk (_ ++ _ : ByteArray).data.toList _
      rw [bytes_app]
      exact (lc_word (l := [97, 102, 116, 101, 114]) (by decide)).appk (lk_num h.after)
  · unfold manyZ at hz
    split at hz
    · simp at hz
    · rw [List.mem_singleton] at hz
      subst hz
      show Lk (_ ++ _ : ByteArray).data.toList _
      rw [bytes_app]
      refine (lc_word (l := [109, 97, 110, 121]) (by decide)).appk ?_
      have h3 := lk_joinB itoaB nuK [t.m0, t.m1, t.m2] fun x hx => lk_num (by
        simp only [List.mem_cons, List.not_mem_nil, or_false] at hx
        rcases hx with q | q | q <;> rw [q]
        · exact h.m0
        · exact h.m1
        · exact h.m2)
      exact h3
theorem fold_bytes (l : List ByteArray) : ∀ a : ByteArray, (l.foldl (fun s c => s ++ clauseB c) a).data.toList = a.data.toList ++ (l.map fun c => (clauseB c).data.toList).flatten := by
  induction l with
  | nil => intro a; simp
  | cons c r ih =>
    intro a
    rw [List.foldl_cons, ih, bytes_app, List.map_cons, List.flatten_cons, List.append_assoc]
theorem lc_tk (g : NtG B s) {t : Tk} (h : TkG B s.cols.length s.pls.length t) : Lc (tkLine s.cols s.pls t).data.toList (tkK s.cols s.pls t) := by
  unfold tkLine taskB tkK
  rw [bytes_app, bytes_app, fold_bytes, bytes_app, bytes_app, ← clausesZ_fst, List.map_map]
  have h0 : Lc ((⟨#[32, 123]⟩ : ByteArray)).data.toList [(3, ⟨#[123]⟩)] := (lc_blank (b := 32) (by decide)).app (lc_sign (c := 123) (by simp))
  have h1 := ((lc_word (l := [116, 97, 115, 107]) (by decide)).appk (lk_nm h.name)).app (un_of _ (by decide)) h0
  have h2 := lc_flat (fun z : ByteArray × List Kt => (clauseB z.1).data.toList) semiK (clausesZ s.cols s.pls t) fun z hz => by
    unfold clauseB semiK
    rw [bytes_app, bytes_app]
    have h3 : Lc ((⟨#[10, 9]⟩ : ByteArray)).data.toList [] := (lc_blank (b := 10) (by decide)).app (lc_blank (b := 9) (by decide))
    have h4 := (h3.appk (lk_clauses g h z hz)).app (un_of _ (by decide)) (lc_sign (c := 59) (by simp))
    exact h4
  have h5 : Lc ((⟨#[10, 125]⟩ : ByteArray)).data.toList [(3, ⟨#[125]⟩)] := (lc_blank (b := 10) (by decide)).app (lc_sign (c := 125) (by simp))
  have h6 := ((h1.app h2).app h5).app (lc_blank (b := 10) (by decide))
  rw [List.append_nil] at h6
  exact h6
theorem lc_net (g : NetG B s) : Lc (textN' ⟨s.cols, s.pls, s.tks, s.from_, s.to_⟩) (netK ⟨s.cols, s.pls, s.tks, s.from_, s.to_⟩) := by
  unfold textN' netK
  have hc := lc_flat (fun c => (colLine s.cols c).data.toList) (colK s.cols) s.cols fun c hc => by
    obtain ⟨i, hi, e⟩ := List.getElem_of_mem hc
    have h := g.net.cols i hi
    rw [List.getD, List.getElem?_eq_getElem hi] at h
    have h' : ColG B i c := by rw [← e]; exact h
    exact lc_col g.net (Nat.le_of_lt hi) h'
  have hp := lc_flat (fun p => (plLine s.cols p).data.toList) (plK s.cols) s.pls fun p hp => lc_pl g.net (g.net.pls p hp)
  have ht := lc_flat (fun t => (tkLine s.cols s.pls t).data.toList) (tkK s.cols s.pls) s.tks fun t ht => lc_tk g.net (g.net.tks t ht).1
  refine ((hc.app hp).app ht).app ?_
  unfold endLine endK
  rw [bytes_app, bytes_app, bytes_app, bytes_app]
  have h0 : Lc ((⟨#[59, 10, 116, 111, 32]⟩ : ByteArray)).data.toList ([(3, ⟨#[59]⟩)] ++ [(1, ⟨#[116, 111]⟩)]) := lc_semi.app (lc_word (l := [116, 111]) (by decide))
  have h1 := ((((lc_word (l := [102, 114, 111, 109]) (by decide)).appk (lk_nm (pl_nm g.net g.from_))).app (un_of _ (by decide)) h0).appk (lk_nm (pl_nm g.net g.to_))).app (un_of _ (by decide)) lc_semi
  simpa using h1
theorem lex_net (g : NetG B s) : lxK (textN' ⟨s.cols, s.pls, s.tks, s.from_, s.to_⟩) = some (netK ⟨s.cols, s.pls, s.tks, s.from_, s.to_⟩) := by
  have h := lc_net g []
  rw [List.append_nil, lxK_nil] at h
  rw [h]
  simp
end
end Go.Proofs.YtkpjhjoopdbkaaaGreatDoor
