/- The law TimerOnce: plain words, the relation of its loops. -/
import Derived.Test.YtkcggnfbmbfciaaTimV
import Derived.Test.YtkcggnfbmbfciaaTimW
namespace Go.Proofs.Ytkcggnfbmbfciaa
open Go.RowKit
/-- Many cancelled. -/
def canL (S : List (Int × Int)) (C : List Int) : List (Int × Int) := C.foldl (fun S id => delP id S) S
theorem canL_snoc (S : List (Int × Int)) (C : List Int) (id : Int) : canL S (C ++ [id]) = delP id (canL S C) := by simp [canL]
theorem canL_step {S : List (Int × Int)} {C : List Int} {k : Nat} (h : k < C.length) : canL S (C.take (k + 1)) = delP (C.getD k 0) (canL S (C.take k)) := by
  rw [List.take_succ_eq_append_getElem h, canL_snoc, List.getD, List.getElem?_eq_getElem h]; rfl
theorem canL_sub : ∀ (C : List Int) (S : List (Int × Int)), ∀ p ∈ canL S C, p ∈ S
  | [], _, _, h => h
  | id :: C, S, p, h => (List.mem_filter.1 (canL_sub C (delP id S) p h)).1
theorem canL_srt : ∀ (C : List Int) (S : List (Int × Int)), SrtP S → SrtP (canL S C)
  | [], _, h => h
  | id :: C, S, h => canL_srt C (delP id S) h.del
theorem canL_len : ∀ (C : List Int) (S : List (Int × Int)), (canL S C).length ≤ S.length
  | [], _ => Nat.le_refl _
  | id :: C, S => Nat.le_trans (canL_len C (delP id S)) (delP_le id S)
theorem addP_len_no {id at_ : Int} {S : List (Int × Int)} (h : hasP id S = false) : (addP id at_ S).length = S.length + 1 := by
  unfold addP
  rw [h]
  exact (insP_perm _ _).length_eq
theorem left_head {now i t : Int} {T R : List (Int × Int)} (h : leftP now T = (i, t) :: R) : now < t := by
  have h1 := List.head?_dropWhile_not (fun p : Int × Int => decide (p.2 ≤ now)) T
  unfold leftP at h
  rw [h] at h1
  simp only [List.head?_cons] at h1
  simpa using h1
theorem left_sub {now : Int} {T : List (Int × Int)} : ∀ p ∈ leftP now T, p ∈ T := fun _ hp => (List.dropWhile_sublist _).subset hp
theorem due_left (now : Int) (T : List (Int × Int)) : dueP now T ++ (leftP now T).map (·.1) = T.map (·.1) := by
  unfold dueP leftP
  rw [← List.map_append, List.takeWhile_append_dropWhile]
theorem ql_All2 {w0 w : World} {g up : Nat} {S : List (Int × Int)} (H : Hid (QL w0 up w g S)) (hn : S.length < 8192) :
    Calls Try.prog 15 #[.pointer (some ⟨g, 0, none⟩)] w fun e w' => ∃ A c, e = .returned (.slice A S.length c) ∧ Hid (w'.ownsRow w.heap.size 28 2 (.slice A S.length c) S.length (pairCells S)) ∧ QL w0 up w' g S ∧ w.heap.size ≤ w'.heap.size := by
  refine (tim_All g _ S w (Lib.hid H.out.q) hn).mono ?_
  rintro e w' ⟨A, c, rfl, h1, h2⟩
  exact ⟨A, c, rfl, h1, H.out.other h2, h2.size⟩
/-- The queue, the row of all, and what was told, while time goes on. -/
structure OnceL (w0 u2 wr : World) (up g : Nat) (S T : List (Int × Int)) (v : Value) (tl : List Int) : Prop where
  q : QL w0 up wr g T
  base : w0.heap.size ≤ u2.heap.size
  keep : ∀ k, up ≤ k → k < u2.heap.size → wr.heap[k]? = u2.heap[k]?
  size : u2.heap.size ≤ wr.heap.size
  row : wr.ownsRow u2.heap.size 3 1 v tl.length (intCells tl)
  due : tl ++ T.map (·.1) = S.map (·.1)
  sub : ∀ p ∈ T, p ∈ S
theorem OnceL.drewN {w0 u2 wr : World} {up g : Nat} {S T : List (Int × Int)} {v : Value} {tl : List Int} (h : OnceL w0 u2 wr up g S T v tl) (n : Nat) : OnceL w0 u2 (wr.drewN n) up g S T v tl :=
  ⟨h.q.drewN n, h.base, h.keep, h.size, h.row, h.due, h.sub⟩
theorem OnceL.len {w0 u2 wr : World} {up g : Nat} {S T : List (Int × Int)} {v : Value} {tl : List Int} (h : OnceL w0 u2 wr up g S T v tl) : tl.length + T.length = S.length := by
  have := congrArg List.length h.due
  simpa using this
/-- The row of all, as it was. -/
theorem OnceL.all {w0 u2 wr : World} {up g : Nat} {S T : List (Int × Int)} {v a : Value} {tl : List Int} {n : Nat} {xs : List Value} (h : OnceL w0 u2 wr up g S T v tl) (ha : u2.ownsRow up 28 2 a n xs) : wr.ownsRow up 28 2 a n xs := by
  refine ⟨ha.1, ?_⟩
  rcases ha.2 with h1 | ⟨b, cap, cur, rfl, hb, hgg, rest⟩
  · exact .inl h1
  · exact .inr ⟨b, cap, cur, rfl, hb, (h.keep b hb (Array.getElem?_eq_some_iff.1 hgg).1).trans hgg, rest⟩
/-- Behind Due. -/
structure OnceD (w0 u2 wr w3 : World) (up g : Nat) (S T : List (Int × Int)) (v : Value) (tl : List Int) (d : Value) (l : List Int) (L : List (Int × Int)) : Prop where
  q : QL w0 up w3 g L
  base : w0.heap.size ≤ u2.heap.size
  keep : ∀ k, up ≤ k → k < u2.heap.size → w3.heap[k]? = u2.heap[k]?
  size : u2.heap.size ≤ w3.heap.size
  row : w3.ownsRow u2.heap.size 3 1 v tl.length (intCells tl)
  told : w3.ownsRow wr.heap.size 3 1 d l.length (intCells l)
  due : tl ++ (l ++ L.map (·.1)) = S.map (·.1)
  sub : ∀ p ∈ L, p ∈ S
theorem OnceL.behind {w0 u2 wr w3 : World} {up g : Nat} {S T : List (Int × Int)} {v : Value} {tl : List Int} (h : OnceL w0 u2 wr up g S T v tl) (hup : up ≤ u2.heap.size) {d : Value} {now : Int} (hq : QL w0 up w3 g (leftP now T)) (ho : Only (InQ w0 up) wr w3)
    (hd : w3.ownsRow wr.heap.size 3 1 d (dueP now T).length (intCells (dueP now T))) : OnceD w0 u2 wr w3 up g S T v tl d (dueP now T) (leftP now T) where
  q := hq
  base := h.base
  keep := fun k h1 h2 => (ho.block k (by have := h.size; omega) (fun hx => by have := hx.2; omega)).trans (h.keep k h1 h2)
  size := Nat.le_trans h.size ho.size
  row := own_only h.row ho (fun x hx hy => by have := hy.2; omega)
  told := hd
  due := by rw [due_left]; exact h.due
  sub := fun p hp => h.sub p (left_sub p hp)
theorem OnceD.all {w0 u2 wr w3 : World} {up g : Nat} {S T L : List (Int × Int)} {v d a : Value} {tl l : List Int} {n : Nat} {xs : List Value} (h : OnceD w0 u2 wr w3 up g S T v tl d l L) (ha : u2.ownsRow up 28 2 a n xs) : w3.ownsRow up 28 2 a n xs := by
  refine ⟨ha.1, ?_⟩
  rcases ha.2 with h1 | ⟨b, cap, cur, rfl, hb, hgg, rest⟩
  · exact .inl h1
  · exact .inr ⟨b, cap, cur, rfl, hb, (h.keep b hb (Array.getElem?_eq_some_iff.1 hgg).1).trans hgg, rest⟩
theorem once_told {tl : List Int} {T S : List (Int × Int)} (h : tl ++ T.map (·.1) = S.map (·.1)) {k : Nat} (hk : k < tl.length) : tl.getD k 0 = (S.getD k (0, 0)).1 := by
  have h1 := congrArg (fun l : List Int => l[k]?) h
  simp only [List.getElem?_append_left hk, List.getElem?_map] at h1
  rw [List.getElem?_eq_getElem hk] at h1
  rw [List.getD, List.getElem?_eq_getElem hk, List.getD]
  cases hS : S[k]? with
  | none => rw [hS] at h1; cases h1
  | some p => rw [hS] at h1; simpa using h1
theorem once_rest {tl : List Int} {T S : List (Int × Int)} (h : tl ++ T.map (·.1) = S.map (·.1)) {k : Nat} (hk : k < T.length) : (T.map (·.1)).getD k 0 = (S.getD (tl.length + k) (0, 0)).1 := by
  have h1 := congrArg (fun l : List Int => l[tl.length + k]?) h
  simp only [List.getElem?_map] at h1
  rw [List.getElem?_append_right (by omega), Nat.add_sub_cancel_left, List.getElem?_map] at h1
  rw [List.getD, List.getElem?_map, List.getElem?_eq_getElem hk] at *
  rw [List.getD]
  cases hS : S[tl.length + k]? with
  | none => rw [hS] at h1; cases h1
  | some p => rw [hS] at h1; simpa using h1
theorem OnceD.app {w0 u2 wr w3 w4 : World} {up g : Nat} {S T L : List (Int × Int)} {v d v4 : Value} {tl l : List Int} (h : OnceD w0 u2 wr w3 up g S T v tl d l L) (hup : up ≤ u2.heap.size) (hown : w4.ownsRow u2.heap.size 3 1 v4 (tl.length + l.length) (intCells tl ++ intCells l)) (hg : w3.grownBy w4 v.ownBlock) :
    OnceL w0 u2 w4 up g S L v4 (tl ++ l) := by
  have keep : ∀ k, k < u2.heap.size → w4.heap[k]? = w3.heap[k]? := fun k hk => hg.block k (by have := h.size; omega) (fun e => by have := (h.row.lt k e.symm).1; omega)
  refine ⟨⟨?_, ?_⟩, h.base, fun k h1 h2 => (keep k h2).trans (h.keep k h1 h2), Nat.le_trans h.size hg.size, ?_, by rw [List.append_assoc]; exact h.due, h.sub⟩
  · exact h.q.q.kept fun x hx => keep x (by have := hx.2; omega)
  · have hb := h.q.bel
    refine ⟨hg.os.trans hb.os, hg.tape.trans hb.tape, hg.output.trans hb.output, Nat.le_trans hb.size hg.size, fun k hk => ?_⟩
    exact (keep k (by have := h.base; omega)).trans (hb.block k hk)
  · have e1 : (tl ++ l).length = tl.length + l.length := by simp
    have e2 : intCells (tl ++ l) = intCells tl ++ intCells l := by simp [intCells]
    rw [e1, e2]; exact hown
end Go.Proofs.Ytkcggnfbmbfciaa
