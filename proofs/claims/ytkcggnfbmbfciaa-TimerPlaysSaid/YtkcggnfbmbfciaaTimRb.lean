/- The document's queue of layer 14: what only reads. -/
import Derived.Test.YtkcggnfbmbfciaaTimRa
namespace Go.Proofs.Ytkcggnfbmbfciaa
open Go.RowKit
/-- The document's queue at y. -/
structure RQ (w : World) (y base : Nat) (A : Option Addr) (c : Nat) (S : List (Int × Int)) : Prop where
  q : w.heap[y]? = some (.cells #[.slice A S.length c] 48 (0, 0))
  row : w.ownsRow base 28 2 (.slice A S.length c) S.length (pairCells S)
  ne : ∀ k, (Value.slice A S.length c).ownBlock = some k → k ≠ y
theorem RQ.cell {w : World} {y base c : Nat} {A : Option Addr} {S : List (Int × Int)} (h : RQ w y base A c S) : w.cell? ⟨y, 0, none⟩ = some (.slice A S.length c) := by rw [cell_of_row _ _ _ _ _ _ h.q]; rfl
theorem RQ.fro {w : World} {y base c : Nat} {A : Option Addr} {S : List (Int × Int)} (h : RQ w y base A c S) : w.frozen? ⟨y, 0, none⟩ = false := by simp [World.frozen?, h.q]
theorem RQ.drewN {w : World} {y base c : Nat} {A : Option Addr} {S : List (Int × Int)} (h : RQ w y base A c S) (n : Nat) : RQ (w.drewN n) y base A c S := ⟨h.q, h.row, h.ne⟩
theorem RQ.lt {w : World} {y base c : Nat} {A : Option Addr} {S : List (Int × Int)} (h : RQ w y base A c S) : y < w.heap.size := (Array.getElem?_eq_some_iff.1 h.q).1
/-- What find tells. -/
def Fnd (id : Int) (S : List (Int × Int)) (r : Int) : Prop := (∃ k : Nat, k < S.length ∧ r = (k : Int) ∧ (S.getD k (0, 0)).1 = id) ∨ (r = -1 ∧ hasP id S = false)
set_option maxHeartbeats 1000000 in
theorem ref_find (y n c : Nat) (A : Option Addr) (S : List (Int × Int)) (id : Int) (w : World) (hq : Hid (w.cell? ⟨y, 0, none⟩ = some (.slice A n c))) (hS : Hid (Sl w (.slice A n c) n 2 (pairCells S))) (hn : n ≤ 9223372036854775806) :
    Calls Try.prog 33 #[.pointer (some ⟨y, 0, none⟩), .int .i64 id] w fun e w' => ∃ r, e = .returned (.int .i64 r) ∧ Hid (Fnd id S r) ∧ w = w' := by
  have hl := Lib.hid (show S.length = n by have := hS.out.len; rw [pairCells_len] at this; omega)
  have q0 := hq.out
  go_enter Try.func33, Try.ntmps33
  go_wp2
  go_loopw [5] (fun v wr => ∃ (k : Nat), k ≤ n ∧ v = .int .i64 (k : Int) ∧ wr = w ∧ Hid (hasP id (S.take k) = false)) (fun v _ => n - (intOf v).toNat)
  case atStart => exact ⟨0, by omega, rfl, rfl, rfl⟩
  case round =>
    obtain ⟨k, hk, rfl, hwr, hh⟩ := hrel
    subst hwr
    by_cases hlt : k < n
    · obtain ⟨b, off, rfl, c0, c1⟩ := hS.out.pair_at hlt
      obtain ⟨x, hx⟩ : ∃ x, x = S.getD k (0, 0) := ⟨_, rfl⟩
      rw [← hx] at c0 c1
      have HX := Lib.hid hx
      have hlt2 : (k : Int) < (n : Int) := by omega
      have hk0 : (0 : Int) ≤ (k : Int) := by omega
      clear hx c1
      obtain ⟨x1, x2⟩ := x
      simp only at c0
      by_cases e : x1 = id
      · subst e
        go_wp2
        go_ret
        exact ⟨_, rfl, .inl ⟨k, by rw [hl.out]; exact hlt, rfl, by rw [← HX.out]⟩, rfl⟩
      · have e1 : (x1 == id) = false := by simpa using e
        have HE := Lib.hid e
        clear e
        go_wp2
        go_roundw
        case rel => exact ⟨k + 1, by omega, by go_num, by trivial, has_next hh.out (by rw [hl.out]; exact hlt) (by rw [← HX.out]; exact HE.out)⟩
        case measure => simp [intOf]; omega
    · go_wp2
      go_ret
      exact ⟨_, rfl, .inr ⟨rfl, has_take hh.out (by rw [hl.out]; omega)⟩, rfl⟩
theorem fnd_has {id r : Int} {S : List (Int × Int)} (h : Fnd id S r) : hasP id S = decide (0 ≤ r) := by
  rcases h with ⟨k, hk, rfl, he⟩ | ⟨rfl, h⟩
  · rw [has_iff.2 ⟨_, getD_memP hk, he⟩]
    symm; simp
  · rw [h]; rfl
set_option maxHeartbeats 1000000 in
theorem ref_At (y base c : Nat) (A : Option Addr) (S : List (Int × Int)) (id : Int) (w : World) (H : Hid (RQ w y base A c S)) (hs : Hid (SrtP S)) (hn : S.length ≤ 9223372036854775806) :
    Calls Try.prog 24 #[.pointer (some ⟨y, 0, none⟩), .int .i64 id] w fun e w' => e = .returned (.tuple #[.int .i64 (atP id S), .bool (hasP id S)]) ∧ w = w' := by
  have q0 := H.out.cell
  have hS := Sl.of_own H.out.row
  obtain ⟨n, hnn⟩ : ∃ n, n = S.length := ⟨_, rfl⟩
  have HN := Lib.hid hnn
  rw [← hnn] at q0 hS hn
  have cF := Lib.hid (ref_find y n c A S id w (Lib.hid q0) (Lib.hid hS) hn)
  have HS := Lib.hid hS
  clear hnn hS
  go_enter Try.func24, Try.ntmps24
  go_wp2_with fail
  refine cF.out.mono ?_
  rintro e w1 ⟨r, rfl, hF, rfl⟩
  rcases hF.out with ⟨k, hk, rfl, he⟩ | ⟨rfl, hno⟩
  · rw [← HN.out] at hk
    obtain ⟨b, off, rfl, c0, c1⟩ := HS.out.pair_at hk
    have ha := at_split hs.out (k := k) (by rw [← HN.out]; exact hk)
    have hh := fnd_has hF.out
    rw [he] at ha
    have ht : decide ((0 : Int) ≤ (k : Int)) = true := by simp
    rw [ht] at hh
    rw [← ha] at c1
    have hk2 : (k : Int) < (n : Int) := by omega
    have hk0 : (0 : Int) ≤ (k : Int) := by omega
    have HH := Lib.hid hh
    clear ha hh ht he hF c0
    go_wp2
    go_ret2
    exact ⟨by rw [HH.out]; rfl, rfl⟩
  · have HNO := Lib.hid hno
    clear hno hF
    go_wp2
    go_ret2
    exact ⟨by rw [atP_none HNO.out, HNO.out]; rfl, rfl⟩
set_option maxHeartbeats 1000000 in
theorem ref_Next (y base c : Nat) (A : Option Addr) (S : List (Int × Int)) (w : World) (H : Hid (RQ w y base A c S)) (hn : S.length ≤ 9223372036854775806) :
    Calls Try.prog 23 #[.pointer (some ⟨y, 0, none⟩)] w fun e w' => e = .returned (.tuple #[.int .i64 ((S.head?.map (·.1)).getD 0), .int .i64 ((S.head?.map (·.2)).getD 0), .bool (!S.isEmpty)]) ∧ ∃ n, w' = w.drewN n := by
  have q0 := H.out.cell
  have hS := Sl.of_own H.out.row
  cases S with
  | nil =>
    go_enter Try.func23, Try.ntmps23
    go_wp2
    go_ret3
    exact ⟨rfl, 0, rfl⟩
  | cons s S' =>
    obtain ⟨b, off, rfl, c0, c1⟩ := hS.pair_at (k := 0) (by simp)
    obtain ⟨n, hnn⟩ : ∃ n, n = S'.length := ⟨_, rfl⟩
    have hsl : (s :: S').length = n + 1 := by simp [hnn]
    rw [hsl] at q0 hn
    obtain ⟨s1, s2⟩ := s
    simp only [Nat.zero_mul, Nat.add_zero, List.getD_cons_zero] at c0 c1
    clear hsl hnn hS
    have d0 : (((n : Int) + 1) == 0) = false := by simp; omega
    have d1 : (0 : Int) < (n : Int) + 1 := by omega
    go_enter Try.func23, Try.ntmps23
    go_wp2
    go_quiet (fail)
    go_wp2
    go_ret3
    exact ⟨rfl, _, rfl⟩
theorem ref_New (w : World) :
    Calls Try.prog 19 #[] w fun e w' => e = .returned (.pointer (some ⟨w.heap.size, 0, none⟩)) ∧ RQ w' w.heap.size w.heap.size none 0 [] ∧ Below w.heap.size w w' := by
  go_enter Try.func19, Try.ntmps19
  go_wp2
  go_ret
  refine ⟨rfl, ⟨?_, World.ownsRow_nil _ _ _ _, fun k hk => by cases hk⟩, (Below.refl _ _).alloc (Nat.le_refl _) _⟩
  exact heap_alloc_new w (.cells #[.slice none 0 0] 48)
end Go.Proofs.Ytkcggnfbmbfciaa
