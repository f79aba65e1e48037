/- Plain law of timer: what is cancelled is never due. -/
import Derived.Test.YtkcggnfbmbfciaaTimM
import Derived.Test.YtkcggnfbmbfciaaOpenR
namespace Go.Proofs.Ytkcggnfbmbfciaa
open Go.RowKit
/-- Many added. -/
def addL (L : List (Int × Int)) : List (Int × Int) := L.foldl (fun S p => addP p.1 p.2 S) []
theorem addL_snoc (L : List (Int × Int)) (p : Int × Int) : addL (L ++ [p]) = addP p.1 p.2 (addL L) := by simp [addL]
theorem take_snocP {L : List (Int × Int)} {k : Nat} (h : k < L.length) : L.take (k + 1) = L.take k ++ [L.getD k (0, 0)] := by
  rw [List.take_succ_eq_append_getElem h, List.getD, List.getElem?_eq_getElem h]; rfl
theorem addL_step {L : List (Int × Int)} {k : Nat} (h : k < L.length) : addL (L.take (k + 1)) = addP (L.getD k (0, 0)).1 (L.getD k (0, 0)).2 (addL (L.take k)) := by
  rw [take_snocP h, addL_snoc]
theorem addP_mem {id at_ : Int} {S : List (Int × Int)} {p : Int × Int} (h : p ∈ addP id at_ S) : p = (id, at_) ∨ p ∈ S := by
  unfold addP at h
  split at h
  · exact .inr h
  · exact List.mem_cons.1 ((insP_perm _ _).mem_iff.1 h)
theorem addP_len (id at_ : Int) (S : List (Int × Int)) : (addP id at_ S).length ≤ S.length + 1 := by
  unfold addP
  split
  · omega
  · rw [(insP_perm _ _).length_eq]; simp
theorem SrtP.add {S : List (Int × Int)} (h : SrtP S) (id at_ : Int) : SrtP (addP id at_ S) := by
  unfold addP
  rcases hh : hasP id S with _ | _
  · exact h.ins (x := (id, at_)) hh
  · exact h
theorem fold_all (P : Int × Int → Prop) : ∀ (L S : List (Int × Int)), (∀ p ∈ L, P p) → (∀ p ∈ S, P p) → ∀ p ∈ L.foldl (fun S p => addP p.1 p.2 S) S, P p
  | [], _, _, h, p, hp => h p hp
  | q :: L, S, hL, hS, p, hp => fold_all P L _ (fun x hx => hL x (by simp [hx])) (fun x hx => by
      rcases addP_mem hx with h | h
      · rw [h]; exact hL q (by simp)
      · exact hS x h) p hp
theorem addL_all {P : Int × Int → Prop} {L : List (Int × Int)} (h : ∀ p ∈ L, P p) : ∀ p ∈ addL L, P p := fold_all P L [] h (by simp)
theorem fold_srt : ∀ (L S : List (Int × Int)), SrtP S → SrtP (L.foldl (fun S p => addP p.1 p.2 S) S)
  | [], _, h => h
  | q :: L, _, h => fold_srt L _ (h.add q.1 q.2)
theorem addL_srt (L : List (Int × Int)) : SrtP (addL L) := fold_srt L [] SrtP.nil
theorem fold_len : ∀ (L S : List (Int × Int)), (L.foldl (fun S p => addP p.1 p.2 S) S).length ≤ S.length + L.length
  | [], _ => by simp
  | q :: L, S => by
    have h1 := fold_len L (addP q.1 q.2 S)
    have h2 := addP_len q.1 q.2 S
    rw [List.foldl_cons, List.length_cons]
    omega
theorem addL_len (L : List (Int × Int)) : (addL L).length ≤ L.length := by
  have := fold_len L []
  simpa [addL] using this
theorem delP_len {id : Int} {S : List (Int × Int)} (h : SrtP S) (hh : hasP id S = true) : (delP id S).length + 1 = S.length := by
  obtain ⟨p, hp, rfl⟩ := has_iff.1 hh
  induction S with
  | nil => cases hp
  | cons x r ih =>
    rcases List.mem_cons.1 hp with e | hp2
    · subst e
      rw [delP_head h]; rfl
    · have hne : x.1 ≠ p.1 := fun e => (List.nodup_cons.1 h.2).1 (List.mem_map.2 ⟨p, hp2, e.symm⟩)
      have h1 := ih h.tail hp2 (has_iff.2 ⟨p, hp2, rfl⟩)
      have e1 : delP p.1 (x :: r) = x :: delP p.1 r := by
        unfold delP
        rw [List.filter_cons, if_pos (by simpa using hne)]
      rw [e1]; simp [h1]
theorem has_del (id : Int) (S : List (Int × Int)) : hasP id (delP id S) = false := by
  rw [has_false]
  intro p hp
  have := (List.mem_filter.1 hp).2
  simpa using this
theorem ins_has (id at_ : Int) (S : List (Int × Int)) : hasP id (insP (id, at_) S) = true := has_iff.2 ⟨(id, at_), (insP_perm _ _).mem_iff.2 (by simp), rfl⟩
theorem ins_at {id at_ : Int} {S : List (Int × Int)} (h : SrtP S) (hh : hasP id S = false) : atP id (insP (id, at_) S) = at_ :=
  (h.ins (x := (id, at_)) hh).atP_eq (p := (id, at_)) ((insP_perm _ _).mem_iff.2 (by simp))
theorem due_all {now : Int} : ∀ {S : List (Int × Int)}, (∀ p ∈ S, p.2 ≤ now) → dueP now S = S.map (·.1) ∧ leftP now S = []
  | [], _ => ⟨rfl, rfl⟩
  | (i, t) :: T, h => by
    obtain ⟨e1, e2⟩ := due_cons (now := now) (i := i) (T := T) (h (i, t) (by simp))
    obtain ⟨f1, f2⟩ := due_all (S := T) fun p hp => h p (by simp [hp])
    rw [e1, e2, f1, f2]
    exact ⟨rfl, rfl⟩
/-- What TimerGone leans on. -/
theorem gone_law {S : List (Int × Int)} (h : SrtP S) (hi : ∀ p ∈ S, I64 p.1 ∧ I64 p.2) (id at_ : Int) (hid : I64 id) (hat : I64 at_) :
    hasP id (delP id S) = false ∧ addP id at_ (delP id S) = insP (id, at_) (delP id S) ∧ atP id (insP (id, at_) (delP id S)) = at_ ∧ hasP id (insP (id, at_) (delP id S)) = true ∧
    (∀ x ∈ dueP 9223372036854775807 (delP id (insP (id, at_) (delP id S))), x ≠ id) ∧ leftP 9223372036854775807 (delP id (insP (id, at_) (delP id S))) = [] ∧ ∀ p ∈ delP id (insP (id, at_) (delP id S)), I64 p.1 := by
  have h1 := has_del id S
  have hmem : ∀ p ∈ delP id (insP (id, at_) (delP id S)), I64 p.1 ∧ I64 p.2 := by
    intro p hp
    have h2 := (List.mem_filter.1 hp).1
    rcases List.mem_cons.1 ((insP_perm _ _).mem_iff.1 h2) with rfl | h3
    · exact ⟨hid, hat⟩
    · exact hi p (List.mem_filter.1 h3).1
  obtain ⟨d1, d2⟩ := due_all (now := 9223372036854775807) (S := delP id (insP (id, at_) (delP id S))) (fun p hp => (hmem p hp).2.2)
  refine ⟨h1, by unfold addP; rw [h1]; rfl, ins_at h.del h1, ins_has _ _ _, fun x hx => ?_, d2, fun p hp => (hmem p hp).1⟩
  rw [d1] at hx
  obtain ⟨p, hp, rfl⟩ := List.mem_map.1 hx
  exact has_false.1 (has_del id _) p hp
theorem delP_le (id : Int) (S : List (Int × Int)) : (delP id S).length ≤ S.length := List.length_filter_le _ _
end Go.Proofs.Ytkcggnfbmbfciaa
