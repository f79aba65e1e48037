/- Contracts: Ints; the small case of law 14. -/
import Derived.Test.YtkcggnfbmbfciaaTimK
namespace Go.Proofs.Ytkcggnfbmbfciaa
open Go.RowKit
theorem Sl.int_at {w : World} {A : Option Addr} {n c : Nat} {l : List Int} (h : Sl w (.slice A n c) n 1 (intCells l)) {k : Nat} (hk : k < n) :
    ∃ b off, A = some ⟨b, off, none⟩ ∧ w.cell? ⟨b, off + k, none⟩ = some (.int .i64 (l.getD k 0)) := by
  have hl := h.len
  rw [intCells_len] at hl
  obtain ⟨b, off, e, hc⟩ := h.at_ (by omega)
  exact ⟨b, off, e, hc k _ (intCells_at (by omega))⟩
theorem list_eq_of {l m : List Int} (hl : l.length = m.length) (h : ∀ j, j < l.length → l.getD j 0 = m.getD j 0) : l = m := by
  refine List.ext_getElem hl fun j h1 h2 => ?_
  have := h j h1
  simpa [List.getD, h1, h2] using this
set_option maxHeartbeats 1000000 in
theorem ref_Ints (A B : Option Addr) (n m c d : Nat) (la lb : List Int) (w : World) (hA : Hid (Sl w (.slice A n c) n 1 (intCells la))) (hB : Hid (Sl w (.slice B m d) m 1 (intCells lb))) (hn : n ≤ 9223372036854775807) (hm : m ≤ 9223372036854775807) :
    Calls Try.prog 18 #[.slice A n c, .slice B m d] w fun e w' => e = .returned (.bool (decide (la = lb))) ∧ ∃ k, w' = w.drewN k := by
  have hla := Lib.hid (show la.length = n by have := hA.out.len; rw [intCells_len] at this; omega)
  have hlb := Lib.hid (show lb.length = m by have := hB.out.len; rw [intCells_len] at this; omega)
  by_cases hnm : n = m
  · subst hnm
    go_enter Try.func18, Try.ntmps18
    go_wp2
    go_loopw [5] (fun v wr => ∃ (k q : Nat), k ≤ n ∧ v = .int .i64 (k : Int) ∧ wr = w.drewN q ∧ Hid (∀ j, j < k → la.getD j 0 = lb.getD j 0)) (fun v _ => n - (intOf v).toNat)
    case atStart => exact ⟨0, 0, by omega, rfl, rfl, fun j hj => by omega⟩
    case round =>
      obtain ⟨k, q, hk, rfl, rfl, hj⟩ := hrel
      by_cases hlt : k < n
      · obtain ⟨b1, o1, rfl, c1⟩ := hA.out.int_at hlt
        obtain ⟨b2, o2, rfl, c2⟩ := hB.out.int_at hlt
        obtain ⟨x, hx⟩ : ∃ x, x = la.getD k 0 := ⟨_, rfl⟩
        obtain ⟨y, hy⟩ : ∃ y, y = lb.getD k 0 := ⟨_, rfl⟩
        rw [← hx] at c1
        rw [← hy] at c2
        have HX := Lib.hid hx
        have HY := Lib.hid hy
        have hlt2 : (k : Int) < (n : Int) := by omega
        have hk0 : (0 : Int) ≤ (k : Int) := by omega
        clear hx hy
        rcases hxy : (x == y) with _ | _
        · have hxy2 : (x != y) = true := by simp [bne, hxy]
          have HXY := Lib.hid hxy
          clear hxy
          go_wp2
          go_quiet (fail)
          go_wp2
          go_ret
          refine ⟨ret_b ?_, _, drew2 _ _ _⟩
          symm
          rw [decide_eq_false_iff_not]
          intro e
          have h1 := HXY.out
          rw [HX.out, HY.out, e] at h1
          simp at h1
        · have hxy2 : (x != y) = false := by simp [bne, hxy]
          have HXY := Lib.hid hxy
          clear hxy
          go_wp2
          go_quiet (fail)
          go_wp2
          go_roundw
          case rel =>
            refine ⟨k + 1, _, by omega, by go_num, rfl, fun j hj2 => ?_⟩
            by_cases e : j = k
            · rw [e, ← HX.out, ← HY.out]
              simpa using HXY.out
            · exact hj.out j (by omega)
          case measure => simp [intOf]; omega
      · go_wp2
        go_ret
        refine ⟨ret_b ?_, _, rfl⟩
        symm
        rw [decide_eq_true_eq]
        exact list_eq_of (by rw [hla.out, hlb.out]) fun j h => hj.out j (by rw [hla.out] at h; omega)
  · have d1 : ((n : Int) != (m : Int)) = true := by simp; omega
    have e1 : decide (la = lb) = false := by
      rw [decide_eq_false_iff_not]
      intro e
      have h1 := hla.out
      have h2 := hlb.out
      rw [e] at h1
      omega
    rw [e1]
    go_enter Try.func18, Try.ntmps18
    go_wp2
    go_ret
    exact ⟨rfl, 0, rfl⟩
/-- One queue, of the call's own: its blocks lie from w0 on, below 'up'. -/
structure QL (w0 : World) (up : Nat) (w : World) (g : Nat) (S : List (Int × Int)) : Prop where
  q : QAt w g (fun x => w0.heap.size ≤ x ∧ x < up) S
  bel : Below w0.heap.size w0 w
abbrev InQ (w0 : World) (up : Nat) (x : Nat) : Prop := w0.heap.size ≤ x ∧ x < up
theorem QL.drewN {w0 w : World} {g up : Nat} {S : List (Int × Int)} (h : QL w0 up w g S) (n : Nat) : QL w0 up (w.drewN n) g S := ⟨h.q.drewN n, below_drewN' h.bel n⟩
theorem QL.cut {w0 w : World} {g up : Nat} {S : List (Int × Int)} (h : QL w0 up w g S) : QL w0 w.heap.size w g S := ⟨h.q.mono fun _ hx hy => ⟨hy.1, hx⟩, h.bel⟩
/-- Other memory turns. -/
theorem QL.other {w0 w w' : World} {g up : Nat} {S : List (Int × Int)} (h : QL w0 up w g S) (hb : Below w.heap.size w w') : QL w0 up w' g S :=
  ⟨by
    refine QAt.mono (own := fun x => (w0.heap.size ≤ x ∧ x < up) ∧ x < w.heap.size) ?_ fun x _ hx => hx.1
    exact (h.q.mono (own' := fun x => (w0.heap.size ≤ x ∧ x < up) ∧ x < w.heap.size) fun x hx hy => ⟨hy, hx⟩).kept fun x hx => hb.block x hx.2, h.bel.trans (hb.mono h.bel.size)⟩
theorem QL.only {w0 w w' : World} {g up up' : Nat} {S S' : List (Int × Int)} (h : QL w0 up w g S) (hq : QAt w' g (InQ w0 up') S') (ho : Only (InQ w0 up) w w') : QL w0 up' w' g S' :=
  ⟨hq, h.bel.trans (ho.below (fun k hk hx => by have := hx.1; omega) h.bel.size)⟩
theorem ql_New (w0 w : World) (hb : Below w0.heap.size w0 w) : Calls Try.prog 9 #[] w fun e w' => ∃ g, e = .returned (.pointer (some ⟨g, 0, none⟩)) ∧ QL w0 w'.heap.size w' g [] := by
  refine (tim_New w).mono ?_
  rintro e w' ⟨g, rfl, h1, h2⟩
  exact ⟨g, rfl, h1.mono fun x hx hy => ⟨Nat.le_trans hb.size hy, hx⟩, below_then hb h2⟩
theorem ql_Len {w0 w : World} {g up : Nat} {S : List (Int × Int)} (H : Hid (QL w0 up w g S)) :
    Calls Try.prog 11 #[.pointer (some ⟨g, 0, none⟩)] w fun e w' => e = .returned (.int .i64 (S.length : Int)) ∧ w = w' := tim_QLen g _ S w (Lib.hid H.out.q)
theorem ql_At {w0 w : World} {g up : Nat} {S : List (Int × Int)} {id : Int} (H : Hid (QL w0 up w g S)) (hi : I64 id) :
    Calls Try.prog 12 #[.pointer (some ⟨g, 0, none⟩), .int .i64 id] w fun e w' => e = .returned (.tuple #[.int .i64 (atP id S), .bool (hasP id S)]) ∧ w = w' := tim_At g _ S id w (Lib.hid H.out.q) hi
theorem ql_Next {w0 w : World} {g up : Nat} {S : List (Int × Int)} (H : Hid (QL w0 up w g S)) :
    Calls Try.prog 16 #[.pointer (some ⟨g, 0, none⟩)] w fun e w' => e = .returned (.tuple #[.int .i64 ((S.head?.map (·.1)).getD 0), .int .i64 ((S.head?.map (·.2)).getD 0), .bool (!S.isEmpty)]) ∧ ∃ n, w' = w.drewN n := tim_Next g _ S w (Lib.hid H.out.q)
def addE (id : Int) (S : List (Int × Int)) : Int := if hasP id S then 5 else 0
def canE (id : Int) (S : List (Int × Int)) : Int := if hasP id S then 0 else 3
theorem ql_Add {w0 w : World} {g up : Nat} {S : List (Int × Int)} {id at_ : Int} (H : Hid (QL w0 up w g S)) (hi : I64 id) (hn : S.length < 4096) :
    Calls Try.prog 10 #[.pointer (some ⟨g, 0, none⟩), .int .i64 id, .int .i64 at_] w fun e w' => e = .returned (.int .i64 (addE id S)) ∧ QL w0 w'.heap.size w' g (addP id at_ S) ∧ Only (InQ w0 up) w w' := by
  refine (tim_Add g _ S id at_ w (Lib.hid H.out.q) hi hn).mono ?_
  rintro e w' ⟨rfl, h1, h2⟩
  exact ⟨rfl, H.out.only (h1.mono fun x hx hy => by have := H.out.bel.size; rcases hy with hy | hy; exact ⟨hy.1, hx⟩; exact ⟨by omega, hx⟩) h2, h2⟩
theorem ql_Cancel {w0 w : World} {g up : Nat} {S : List (Int × Int)} {id : Int} (H : Hid (QL w0 up w g S)) (hi : I64 id) (hn : S.length < 8192) :
    Calls Try.prog 13 #[.pointer (some ⟨g, 0, none⟩), .int .i64 id] w fun e w' => e = .returned (.int .i64 (canE id S)) ∧ QL w0 up w' g (delP id S) ∧ Only (InQ w0 up) w w' := by
  refine (tim_Cancel g _ S id w (Lib.hid H.out.q) hi hn).mono ?_
  rintro e w' ⟨rfl, h1, h2⟩
  exact ⟨rfl, H.out.only h1 h2, h2⟩
theorem ql_Due {w0 w : World} {g up : Nat} {S : List (Int × Int)} {now : Int} (H : Hid (QL w0 up w g S)) (hn : S.length < 8192) (hi : Hid (∀ p ∈ S, I64 p.1)) :
    Calls Try.prog 14 #[.pointer (some ⟨g, 0, none⟩), .int .i64 now] w fun e w' => ∃ A c, e = .returned (.slice A (dueP now S).length c) ∧ w'.ownsRow w.heap.size 3 1 (.slice A (dueP now S).length c) (dueP now S).length (intCells (dueP now S)) ∧ QL w0 up w' g (leftP now S) ∧ Only (InQ w0 up) w w' := by
  refine (tim_Due g _ S now w (Lib.hid H.out.q) hn hi).mono ?_
  rintro e w' ⟨A, c, rfl, h1, h2, h3⟩
  exact ⟨A, c, rfl, h1, H.out.only h2 h3, h3⟩
theorem QL.up_le {w0 w : World} {g up up' : Nat} {S : List (Int × Int)} (h : QL w0 up w g S) (hu : up ≤ up') : QL w0 up' w g S := ⟨h.q.mono fun _ _ hy => ⟨hy.1, by have := hy.2; omega⟩, h.bel⟩
end Go.Proofs.Ytkcggnfbmbfciaa
