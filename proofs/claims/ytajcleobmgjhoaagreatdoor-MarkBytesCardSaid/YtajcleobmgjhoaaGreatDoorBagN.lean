/- The small case of law 03. -/
import Derived.Test.YtajcleobmgjhoaaGreatDoorBagM
namespace Go.Proofs.YtajcleobmgjhoaaGreatDoor
open Go.RowKit
/-- A bag that has been made, in the world. -/
def Got (M : Row) (w : World) (v : Value) (w' : World) : Prop := ∃ A c, v = .slice A M.length c ∧ Sl w' (.slice A M.length c) M.length 2 (pairCells M) ∧ Below w.heap.size w w'
theorem NewBag.got {g : Int → Int} {n : Nat} {w w' : World} {v : Value} {M : Row} (h : NewBag g n w v w') (hM : RowG M g) (hb : Below w.heap.size w w') : Got M w v w' := by
  obtain ⟨A, c, M', rfl, h1, _, _, h2⟩ := h
  obtain rfl : M' = M := h1.uniq hM
  exact ⟨A, c, rfl, Sl.of_own h2, hb⟩
theorem RowG.of_keys {M : Row} {g : Int → Int} (K : List Int) (e : M = rowsOf K g) (hK : K.Pairwise (· < ·)) (h : ∀ k, 0 < g k → k ∈ K) : RowG M g := by
  subst e
  refine ⟨?_, fun p hp => ?_, fun k hk => ?_⟩
  · unfold rowsOf Srt
    rw [List.pairwise_map]
    exact hK.sublist List.filter_sublist
  · unfold rowsOf at hp
    obtain ⟨x, hx, rfl⟩ := List.mem_map.1 hp
    have := (List.mem_filter.1 hx).2
    simp only [decide_eq_true_eq] at this
    exact ⟨this, rfl⟩
  · unfold rowsOf
    exact List.mem_map.2 ⟨k, List.mem_filter.2 ⟨h k hk, by simpa using hk⟩, rfl⟩
theorem ofG_mem {l : List Int} {k : Int} (h : 0 < ofG l k) : k ∈ l := by
  unfold ofG at h
  split at h
  · exact List.count_pos_iff.1 (by omega)
  · omega
theorem getM_pos {a : Row} {k : Int} (h : getM a k ≠ 0) : k ∈ a.map (·.1) := List.mem_map.2 ⟨_, mem_getM h, rfl⟩
section
variable {w : World}
theorem callOf (M : Row) (A : Option Addr) (n c : Nat) (l : List Int) (hA : Sl w (.slice A n c) n 1 (intCells l)) (hi : ∀ x ∈ l, I64 x) (hn : n < 100000000000) (hM : RowG M (ofG l)) :
    Calls Tryz.prog 42 #[.slice A n c] w fun e w' => ∃ v, e = .returned v ∧ Got M w v w' :=
  (bag_Of A n c l w hA hi hn).mono fun _ _ ⟨v, h1, h2, h3⟩ => ⟨v, h1, h2.got hM h3⟩
theorem callSum (M : Row) {a b : Row} {A B : Option Addr} {n m c d : Nat} (hA : Sl w (.slice A n c) n 2 (pairCells a)) (hi : I64s a) (hB : Sl w (.slice B m d) m 2 (pairCells b)) (hj : I64s b) (hn : n < 100000000000) (hm : m < 100000000000)
    (hr : (rightB a && rightB b) = true) (hin : fullB a b = false) (hM : RowG M (sumG a b)) :
    Calls Tryz.prog 41 #[.slice A n c, .slice B m d] w fun e w' => ∃ v, e = .returned (.tuple #[v, .int .i64 0]) ∧ Got M w v w' := by
  refine (bag_Sum A n c a B m d b w hA hi hn hB hj hm).mono ?_
  rintro e w' ⟨hb, ⟨h, _⟩ | ⟨_, h, _⟩ | ⟨_, _, v, rfl, h⟩⟩
  · rw [hr] at h; cases h
  · rw [hin] at h; cases h
  · exact ⟨v, rfl, h.got hM hb⟩
theorem callCompare (z : Int) {a b : Row} {A B : Option Addr} {n m c d : Nat} (hA : Sl w (.slice A n c) n 2 (pairCells a)) (hi : I64s a) (hB : Sl w (.slice B m d) m 2 (pairCells b)) (hj : I64s b) (hn : n < 100000000000) (hm : m < 100000000000)
    (hr : (rightB a && rightB b) = true) (hz : Cmp (getM a) (getM b) z) :
    Calls Tryz.prog 32 #[.slice A n c, .slice B m d] w fun e w' => e = .returned (.int .i64 z) ∧ Below w.heap.size w w' := by
  refine (bag_Compare A n c a B m d b w hA hi hn hB hj hm).mono ?_
  rintro e w' ⟨⟨z', rfl, ⟨h, _⟩ | ⟨_, h⟩⟩, hb⟩
  · rw [hr] at h; cases h
  · rw [h.uniq hz]; exact ⟨rfl, hb⟩
end
end Go.Proofs.YtajcleobmgjhoaaGreatDoor
