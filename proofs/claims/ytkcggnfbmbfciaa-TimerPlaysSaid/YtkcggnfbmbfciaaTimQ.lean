/- Plain words of package timer: sorted rows of ids and times. -/
import Derived.Test.YtkcggnfbmbfciaaTimP
namespace Go.Proofs.Ytkcggnfbmbfciaa
/-- Ids and times; which stands ahead. -/
def ltP (a b : Int × Int) : Prop := a.2 < b.2 ∨ a.2 = b.2 ∧ a.1 < b.1
instance (a b : Int × Int) : Decidable (ltP a b) := by unfold ltP; exact inferInstance
def pr (e : Ent) : Int × Int := (e.id, e.at_)
def SrtP (S : List (Int × Int)) : Prop := S.Pairwise ltP ∧ (S.map (·.1)).Nodup
/-- The entries are the row S. -/
def Srt (l : List Ent) (S : List (Int × Int)) : Prop := (l.map pr).Perm S ∧ SrtP S
theorem ltP_trans {a b c : Int × Int} (h : ltP a b) (g : ltP b c) : ltP a c := by unfold ltP at *; omega
theorem ltP_asymm {a b : Int × Int} (h : ltP a b) (g : ltP b a) : False := by unfold ltP at *; omega
theorem ltP_total {a b : Int × Int} (h : a ≠ b) : ltP a b ∨ ltP b a := by
  unfold ltP
  have : ¬ (a.1 = b.1 ∧ a.2 = b.2) := fun ⟨h1, h2⟩ => h (Prod.ext h1 h2)
  omega
theorem sorted_unique {S T : List (Int × Int)} (hp : S.Perm T) (hs : S.Pairwise ltP) (ht : T.Pairwise ltP) : S = T :=
  hp.eq_of_pairwise (le := ltP) (fun _ _ _ _ h g => (ltP_asymm h g).elim) hs ht
/-- Put at its place. -/
def insP (x : Int × Int) : List (Int × Int) → List (Int × Int)
  | [] => [x]
  | y :: r => if ltP y x then y :: insP x r else x :: y :: r
theorem insP_perm (x : Int × Int) : ∀ S, (insP x S).Perm (x :: S)
  | [] => .refl _
  | y :: r => by
    unfold insP
    split
    · exact ((insP_perm x r).cons y).trans (List.Perm.swap x y r)
    · exact .refl _
theorem insP_sorted {x : Int × Int} : ∀ {S : List (Int × Int)}, S.Pairwise ltP → (∀ y ∈ S, y ≠ x) → (insP x S).Pairwise ltP
  | [], _, _ => by simp [insP]
  | y :: r, h, hne => by
    obtain ⟨h1, h2⟩ := List.pairwise_cons.1 h
    unfold insP
    split
    · rename_i hyx
      refine List.pairwise_cons.2 ⟨fun z hz => ?_, insP_sorted h2 fun z hz => hne z (by simp [hz])⟩
      rcases List.mem_cons.1 ((insP_perm x r).mem_iff.1 hz) with rfl | hz
      · exact hyx
      · exact h1 z hz
    · rename_i hyx
      have hxy : ltP x y := (ltP_total (hne y (by simp))).resolve_left hyx
      refine List.pairwise_cons.2 ⟨fun z hz => ?_, h⟩
      rcases List.mem_cons.1 hz with rfl | hz
      · exact hxy
      · exact ltP_trans hxy (h1 z hz)
/-- Is an id there? When? -/
def hasP (id : Int) (S : List (Int × Int)) : Bool := S.any fun p => p.1 == id
def atP (id : Int) (S : List (Int × Int)) : Int := ((S.find? fun p => p.1 == id).map (·.2)).getD 0
def delP (id : Int) (S : List (Int × Int)) : List (Int × Int) := S.filter fun p => p.1 != id
theorem has_iff {id : Int} {S : List (Int × Int)} : hasP id S = true ↔ ∃ p ∈ S, p.1 = id := by simp [hasP]
theorem has_false {id : Int} {S : List (Int × Int)} : hasP id S = false ↔ ∀ p ∈ S, p.1 ≠ id := by simp [hasP]
theorem SrtP.ins {x : Int × Int} {S : List (Int × Int)} (h : SrtP S) (hx : hasP x.1 S = false) : SrtP (insP x S) := by
  have hn := has_false.1 hx
  refine ⟨insP_sorted h.1 fun y hy e => hn y hy (by rw [e]), ?_⟩
  rw [((insP_perm x S).map (·.1)).nodup_iff]
  rw [List.map_cons, List.nodup_cons]
  refine ⟨fun hm => ?_, h.2⟩
  obtain ⟨p, hp, e⟩ := List.mem_map.1 hm
  exact hn p hp e
theorem SrtP.del {id : Int} {S : List (Int × Int)} (h : SrtP S) : SrtP (delP id S) :=
  ⟨h.1.filter _, h.2.sublist ((List.filter_sublist).map _)⟩
theorem SrtP.tail {x : Int × Int} {S : List (Int × Int)} (h : SrtP (x :: S)) : SrtP S :=
  ⟨(List.pairwise_cons.1 h.1).2, (List.nodup_cons.1 h.2).2⟩
theorem SrtP.nil : SrtP [] := ⟨List.Pairwise.nil, List.nodup_nil⟩
theorem Srt.perm {l m : List Ent} {S : List (Int × Int)} (h : Srt l S) (hp : m.Perm l) : Srt m S := ⟨(hp.map pr).trans h.1, h.2⟩
theorem Srt.len {l : List Ent} {S : List (Int × Int)} (h : Srt l S) : l.length = S.length := by
  have := h.1.length_eq
  simpa using this
theorem Srt.nil : Srt [] [] := ⟨.refl _, SrtP.nil⟩
theorem Srt.add {l m : List Ent} {S : List (Int × Int)} {e : Ent} (h : Srt l S) (hx : hasP e.id S = false) (hp : m.Perm (e :: l)) : Srt m (insP (pr e) S) :=
  ⟨((hp.map pr).trans (by rw [List.map_cons]; exact h.1.cons _)).trans (insP_perm _ _).symm, h.2.ins hx⟩
theorem Srt.mem {l : List Ent} {S : List (Int × Int)} {e : Ent} (h : Srt l S) (he : e ∈ l) : pr e ∈ S := h.1.mem_iff.1 (List.mem_map_of_mem he)
theorem Srt.mem' {l : List Ent} {S : List (Int × Int)} {p : Int × Int} (h : Srt l S) (hp : p ∈ S) : ∃ e ∈ l, pr e = p := List.mem_map.1 (h.1.mem_iff.2 hp)
/-- Two of one id are one. -/
theorem SrtP.one {S : List (Int × Int)} (h : SrtP S) {p q : Int × Int} (hp : p ∈ S) (hq : q ∈ S) (e : p.1 = q.1) : p = q := by
  have h2 := h.2
  induction S with
  | nil => cases hp
  | cons x r ih =>
    rw [List.map_cons, List.nodup_cons] at h2
    rcases List.mem_cons.1 hp with hp1 | hp1 <;> rcases List.mem_cons.1 hq with hq1 | hq1
    · rw [hp1, hq1]
    · exact absurd (List.mem_map.2 ⟨q, hq1, by rw [← e, hp1]⟩) h2.1
    · exact absurd (List.mem_map.2 ⟨p, hp1, by rw [e, hq1]⟩) h2.1
    · exact ih h.tail hp1 hq1 h2.2
theorem SrtP.atP_eq {S : List (Int × Int)} (h : SrtP S) {p : Int × Int} (hp : p ∈ S) : atP p.1 S = p.2 := by
  unfold atP
  cases hf : S.find? (fun q => q.1 == p.1) with
  | none =>
    have := List.find?_eq_none.1 hf p hp
    simp at this
  | some q =>
    have h1 := List.mem_of_find?_eq_some hf
    have h2 := List.find?_some hf
    have e := h.one h1 hp (by simpa using h2)
    rw [e]; rfl
theorem atP_none {id : Int} {S : List (Int × Int)} (h : hasP id S = false) : atP id S = 0 := by
  unfold atP
  have : S.find? (fun q => q.1 == id) = none := List.find?_eq_none.2 fun q hq => by have := has_false.1 h q hq; simpa using this
  rw [this]; rfl
/-- Some entry is taken out. -/
theorem Srt.del {l m : List Ent} {S : List (Int × Int)} {e : Ent} (h : Srt l S) (hp : l.Perm (e :: m)) : Srt m (delP e.id S) ∧ hasP e.id S = true := by
  have he : e ∈ l := hp.mem_iff.2 (by simp)
  have hm := h.mem he
  refine ⟨⟨?_, h.2.del⟩, has_iff.2 ⟨_, hm, rfl⟩⟩
  have h1 : (pr e :: m.map pr).Perm S := (hp.map pr).symm.trans h.1
  have h2 := h1.filter (fun p => p.1 != e.id)
  have hn : ((pr e :: m.map pr).map (·.1)).Nodup := ((h1.map (·.1)).nodup_iff).2 h.2.2
  rw [List.map_cons, List.nodup_cons] at hn
  have h3 : (pr e :: m.map pr).filter (fun p => p.1 != e.id) = m.map pr := by
    have e1 : ((pr e).1 != e.id) = false := by simp [pr]
    rw [List.filter_cons, if_neg (by rw [e1]; simp), List.filter_eq_self]
    intro p hp2
    have : ¬ p.1 = e.id := fun e2 => hn.1 (List.mem_map.2 ⟨p, hp2, e2⟩)
    simpa using this
  rw [h3] at h2
  exact h2
/-- The least one is the row's head. -/
theorem Srt.head {l : List Ent} {S : List (Int × Int)} (h : Srt l S) (hh : HeapN l l.length) (h0 : 0 < l.length) : ∃ S', S = pr (gE l 0) :: S' := by
  have hm : gE l 0 ∈ l := by unfold gE; rw [List.getD, List.getElem?_eq_getElem h0]; exact List.getElem_mem h0
  cases S with
  | nil => have h9 := h.len; rw [List.length_nil] at h9; omega
  | cons s r =>
    refine ⟨r, ?_⟩
    congr 1
    have h1 := h.mem hm
    obtain ⟨e, he, hes⟩ := h.mem' (p := s) (by simp)
    obtain ⟨k, hk, rfl⟩ := List.getElem_of_mem he
    have h2 := heap_min hh k hk
    have e2 : gE l k = l[k] := by unfold gE; rw [List.getD, List.getElem?_eq_getElem hk]; rfl
    rw [e2] at h2
    rcases List.mem_cons.1 h1 with h3 | h3
    · exact h3.symm
    · have h4 := (List.pairwise_cons.1 h.2.1).1 _ h3
      rw [← hes] at h4
      exact absurd h4 (by unfold leE ltE at h2; unfold ltP pr; exact h2)
theorem delP_head {x : Int × Int} {S : List (Int × Int)} (h : SrtP (x :: S)) : delP x.1 (x :: S) = S := by
  unfold delP
  have e1 : (x.1 != x.1) = false := by simp
  rw [List.filter_cons, if_neg (by rw [e1]; simp), List.filter_eq_self]
  intro p hp
  have hn := (List.nodup_cons.1 h.2).1
  have : ¬ p.1 = x.1 := fun e2 => hn (List.mem_map.2 ⟨p, hp, e2⟩)
  simpa using this
/-- What is due, and what is left. -/
def dueP (now : Int) (S : List (Int × Int)) : List Int := (S.takeWhile fun p => decide (p.2 ≤ now)).map (·.1)
def leftP (now : Int) (S : List (Int × Int)) : List (Int × Int) := S.dropWhile fun p => decide (p.2 ≤ now)
end Go.Proofs.Ytkcggnfbmbfciaa
