/- Contracts: Do of the reference; signs. -/
import Derived.Test.YtmfdiclbenmfbaaDoorCalcB
import Derived.Lib.Hide
namespace Go.Proofs.YtmfdiclbenmfbaaDoor
open Go.RowKit
set_option maxHeartbeats 400000 in
theorem ref01_yes (b : Bool) (w : World) :
    Calls Tryd.prog 87 #[.bool b] w fun e w' => e = .returned (.int .i64 (yesI b)) ∧ w = w' := by
  cases b
  all_goals
    go_enter Tryd.func87, Tryd.ntmps87
    go_wp2
    go_ret
    exact ⟨rfl, rfl⟩

set_option maxHeartbeats 1000000 in
theorem ref01_Do_sum (op a b : Int) (w : World) (ha : I64 a) (hb : I64 b) (hop : op = 1 ∨ op = 2 ∨ op = 3) :
    Calls Tryd.prog 63 #[.int .i64 op, .int .i64 a, .int .i64 b] w fun e w' => e = .returned (.tuple #[.int .i64 (doV op a b), .int .i64 (doE op a b)]) ∧ w = w' := by
  rcases hop with rfl | rfl | rfl
  all_goals
    go_enter Tryd.func63, Tryd.ntmps63
    go_wp2_with (first
      | (go_at_call 84; refine (ref01_add _ _ _ (by assumption) (by assumption)).mono ?_; rintro e w' ⟨rfl, rfl⟩)
      | (go_at_call 85; refine (ref01_sub _ _ _ (by assumption) (by assumption)).mono ?_; rintro e w' ⟨rfl, rfl⟩)
      | (go_at_call 86; refine (ref01_mul _ _ _ (by assumption) (by assumption)).mono ?_; rintro e w' ⟨rfl, rfl⟩)
      | (go_at_call 87; refine (ref01_yes _ _).mono ?_; rintro e w' ⟨rfl, rfl⟩))
    all_goals
      go_ret2
      refine ⟨ret2 ?_ ?_, rfl⟩
      all_goals simp_all [doV, doE, okB, chkV, chkE]
set_option maxHeartbeats 1000000 in
theorem ref01_Do_quo (op a b : Int) (w : World) (ha : I64 a) (hop : op = 4 ∨ op = 5) :
    Calls Tryd.prog 63 #[.int .i64 op, .int .i64 a, .int .i64 b] w fun e w' => e = .returned (.tuple #[.int .i64 (doV op a b), .int .i64 (doE op a b)]) ∧ w = w' := by
  have hd4 : ∀ x y : Int, doV 4 x y = quoV x y ∧ doE 4 x y = quoE x y := fun x y => ⟨rfl, rfl⟩
  have hd5 : ∀ x y : Int, doV 5 x y = remV x y ∧ doE 5 x y = quoE x y := fun x y => ⟨rfl, rfl⟩
  by_cases hz : b = 0
  · subst hz
    obtain ⟨q1, q2, q3⟩ := quo_zero (a := a) (b := 0) rfl
    rcases hop with rfl | rfl
    · rw [(hd4 _ _).1, (hd4 _ _).2, q1, q3]
      clear hd4 hd5 q1 q2 q3
      go_enter Tryd.func63, Tryd.ntmps63
      go_wp2
      go_ret2
      exact ⟨rfl, rfl⟩
    · rw [(hd5 _ _).1, (hd5 _ _).2, q2, q3]
      clear hd4 hd5 q1 q2 q3
      go_enter Tryd.func63, Tryd.ntmps63
      go_wp2
      go_ret2
      exact ⟨rfl, rfl⟩
  by_cases ho : a = -9223372036854775808 ∧ b = -1
  · obtain ⟨rfl, rfl⟩ := ho
    obtain ⟨q1, q2, q3⟩ := quo_over (a := -9223372036854775808) (b := -1) rfl rfl
    rcases hop with rfl | rfl
    · rw [(hd4 _ _).1, (hd4 _ _).2, q1, q3]
      clear hd4 hd5 q1 q2 q3
      go_enter Tryd.func63, Tryd.ntmps63
      go_wp2
      go_ret2
      exact ⟨rfl, rfl⟩
    · rw [(hd5 _ _).1, (hd5 _ _).2, q2, q3]
      clear hd4 hd5 q1 q2 q3
      go_enter Tryd.func63, Tryd.ntmps63
      go_wp2
      go_ret2
      exact ⟨rfl, rfl⟩
  obtain ⟨q1, q2, q3⟩ := quo_yes (a := a) ha hz ho
  have h4 := wrapI (quo_in (a := a) ha hz ho)
  have hzb : (b == 0) = false := by simpa using hz
  have hob : (a == -9223372036854775808 && b == -1) = false := by simpa using ho
  rcases hop with rfl | rfl
  · rw [(hd4 _ _).1, (hd4 _ _).2, q1, q3]
    clear hd4 hd5 q1 q2 q3
    go_enter Tryd.func63, Tryd.ntmps63
    go_wp2
    · go_ret2
      have ha0 := ‹a = -9223372036854775808›
      subst ha0
      refine ⟨ret2 ?_ rfl, rfl⟩
      show wrap64 _ = _
      rw [← h4]; congr 1; exact (Int.neg_tdiv ..).symm
    · go_ret2
      exact ⟨ret2 h4 rfl, rfl⟩
  · rw [(hd5 _ _).1, (hd5 _ _).2, q2, q3]
    clear hd4 hd5 q1 q2 q3
    go_enter Tryd.func63, Tryd.ntmps63
    go_wp2
    · go_ret2
      have ha0 := ‹a = -9223372036854775808›
      subst ha0
      refine ⟨ret2 ?_ rfl, rfl⟩
      show -(9223372036854775808 % b) = _
      rw [← Int.tmod_eq_emod_of_nonneg (by decide)]; exact (Int.neg_tmod ..).symm
    · go_ret2
      exact ⟨rfl, rfl⟩
set_option maxHeartbeats 1000000 in
theorem ref01_Do_rest (op a b : Int) (w : World) (hop : op < 1 ∨ 5 < op) :
    Calls Tryd.prog 63 #[.int .i64 op, .int .i64 a, .int .i64 b] w fun e w' => e = .returned (.tuple #[.int .i64 (doV op a b), .int .i64 (doE op a b)]) ∧ w = w' := by
  have n1 : (op == 1) = false := by simp; omega
  have n2 : (op == 2) = false := by simp; omega
  have n3 : (op == 3) = false := by simp; omega
  have n4 : (op == 4) = false := by simp; omega
  have n5 : (op == 5) = false := by simp; omega
  clear hop
  go_enter Tryd.func63, Tryd.ntmps63
  go_wp2_with (first
    | (go_at_call 87; refine (ref01_yes _ _).mono ?_; rintro e w' ⟨rfl, rfl⟩))
  all_goals
    go_ret2
    refine ⟨ret2 ?_ ?_, rfl⟩
    all_goals simp_all [doV, doE, yesI]
  all_goals omega
theorem ref01_Do (op a b : Int) (w : World) (ha : I64 a) (hb : I64 b) :
    Calls Tryd.prog 63 #[.int .i64 op, .int .i64 a, .int .i64 b] w fun e w' => e = .returned (.tuple #[.int .i64 (doV op a b), .int .i64 (doE op a b)]) ∧ w = w' := by
  by_cases h1 : op < 1 ∨ 5 < op
  · exact ref01_Do_rest op a b w h1
  by_cases h2 : op = 4 ∨ op = 5
  · exact ref01_Do_quo op a b w ha h2
  exact ref01_Do_sum op a b w ha hb (by omega)
/-- The texts of the operations' signs. -/
def signBytes : List (List UInt8) := [[43], [45], [42], [47], [37], [61, 61], [33, 61], [60], [60, 61], [38, 38], [124, 124]]
def signStrs : List ByteArray := signBytes.map fun l => ⟨l.toArray⟩
def signCells : Array Value := (signStrs.map Value.string).toArray
set_option maxHeartbeats 400000 in
theorem calc_signs (w : World) :
    Calls Tryd.prog 67 #[] w fun e w' => e = .returned (.slice (some ⟨w.heap.size, 0, none⟩) 11 11) ∧ w.alloc (.cells signCells 9) = w' := by
  go_enter Tryd.func67, Tryd.ntmps67
  go_wp2
  go_ret
  exact ⟨rfl, rfl⟩
set_option maxHeartbeats 400000 in
theorem ref01_signs (w : World) :
    Calls Tryd.prog 59 #[] w fun e w' => e = .returned (.slice (some ⟨w.heap.size, 0, none⟩) 11 11) ∧ w.alloc (.cells signCells 9) = w' := by
  go_enter Tryd.func59, Tryd.ntmps59
  go_wp2
  go_ret
  exact ⟨rfl, rfl⟩
def signOf (op : Int) : ByteArray := if 1 ≤ op ∧ op ≤ 11 then signStrs.getD (op - 1).toNat ⟨#[]⟩ else ⟨#[63]⟩
theorem sign_cell (w : World) (t : TypeId) (op : Int) (h1 : 1 ≤ op) (h2 : op ≤ 11) : (w.alloc (.cells signCells t)).cell? ⟨w.heap.size, op.toNat - 1, none⟩ = some (.string (signOf op)) := by
  have h : signCells[op.toNat - 1]? = some (.string (signOf op)) := by
    have : op = 1 ∨ op = 2 ∨ op = 3 ∨ op = 4 ∨ op = 5 ∨ op = 6 ∨ op = 7 ∨ op = 8 ∨ op = 9 ∨ op = 10 ∨ op = 11 := by omega
    rcases this with h | h | h | h | h | h | h | h | h | h | h <;> subst h <;> rfl
  have hb : (w.alloc (.cells signCells t)).heap[w.heap.size]? = some (.cells signCells t (0, 0)) := heap_alloc_new w _
  rw [cell_of_row _ _ _ _ _ _ hb, h]
set_option maxHeartbeats 400000 in
theorem calc_Sign (op : Int) (w : World) :
    Calls Tryd.prog 58 #[.int .i64 op] w fun e w' => e = .returned (.string (signOf op)) ∧ Below w.heap.size w w' := by
  by_cases h : 1 ≤ op ∧ op ≤ 11
  · obtain ⟨h1, h2⟩ := h
    have hk : knownB op = true := by simp [knownB]; omega
    have hcell := sign_cell w 9 op h1 h2
    go_enter Tryd.func58, Tryd.ntmps58
    go_wp2_with (first
      | (go_at_call 50; refine (calc_Known _ _).mono ?_; rintro e w' ⟨rfl, rfl⟩)
      | (go_at_call 67; refine (calc_signs _).mono ?_; rintro e w' ⟨rfl, rfl⟩))
    go_ret
    exact ⟨rfl, (Below.refl _ _).alloc (Nat.le_refl _) _⟩
  · have hk : knownB op = false := by simp [knownB]; omega
    have hs : signOf op = ⟨#[63]⟩ := by simp [signOf, h]
    have HS := Lib.hid hs
    clear h hs
    go_enter Tryd.func58, Tryd.ntmps58
    go_wp2_with (first
      | (go_at_call 50; refine (calc_Known _ _).mono ?_; rintro e w' ⟨rfl, rfl⟩))
    go_ret
    exact ⟨by rw [HS.out]; rfl, Below.refl _ _⟩
set_option maxHeartbeats 400000 in
theorem ref01_Sign (op : Int) (w : World) :
    Calls Tryd.prog 41 #[.int .i64 op] w fun e w' => e = .returned (.string (signOf op)) ∧ Below w.heap.size w w' := by
  by_cases h : 1 ≤ op ∧ op ≤ 11
  · obtain ⟨h1, h2⟩ := h
    have hk : knownB op = true := by simp [knownB]; omega
    have hcell := sign_cell w 9 op h1 h2
    go_enter Tryd.func41, Tryd.ntmps41
    go_wp2_with (first
      | (go_at_call 53; refine (ref01_Known _ _).mono ?_; rintro e w' ⟨rfl, rfl⟩)
      | (go_at_call 59; refine (ref01_signs _).mono ?_; rintro e w' ⟨rfl, rfl⟩))
    go_ret
    exact ⟨rfl, (Below.refl _ _).alloc (Nat.le_refl _) _⟩
  · have hk : knownB op = false := by simp [knownB]; omega
    have hs : signOf op = ⟨#[63]⟩ := by simp [signOf, h]
    have HS := Lib.hid hs
    clear h hs
    go_enter Tryd.func41, Tryd.ntmps41
    go_wp2_with (first
      | (go_at_call 53; refine (ref01_Known _ _).mono ?_; rintro e w' ⟨rfl, rfl⟩))
    go_ret
    exact ⟨by rw [HS.out]; rfl, Below.refl _ _⟩
theorem str_cell (op : Int) (h1 : 1 ≤ op) (h2 : op ≤ 11) : ([Value.int .i64 4, Value.int .i64 4, Value.int .i64 5, Value.int .i64 5, Value.int .i64 5, Value.int .i64 3, Value.int .i64 3, Value.int .i64 3, Value.int .i64 3, Value.int .i64 2, Value.int .i64 1] : List Value)[op.toNat - 1]? = some (.int .i64 (strI op)) := by
  have : op = 1 ∨ op = 2 ∨ op = 3 ∨ op = 4 ∨ op = 5 ∨ op = 6 ∨ op = 7 ∨ op = 8 ∨ op = 9 ∨ op = 10 ∨ op = 11 := by omega
  rcases this with h | h | h | h | h | h | h | h | h | h | h <;> subst h <;> rfl
set_option maxHeartbeats 400000 in
theorem ref01_Strength (op : Int) (w : World) :
    Calls Tryd.prog 40 #[.int .i64 op] w fun e w' => e = .returned (.int .i64 (strI op)) ∧ Below w.heap.size w w' := by
  by_cases h : 1 ≤ op ∧ op ≤ 11
  · obtain ⟨h1, h2⟩ := h
    have hk : knownB op = true := by simp [knownB]; omega
    have hc := str_cell op h1 h2
    go_enter Tryd.func40, Tryd.ntmps40
    go_wp2_with (first
      | (go_at_call 53; refine (ref01_Known _ _).mono ?_; rintro e w' ⟨rfl, rfl⟩))
    go_ret
    exact ⟨rfl, (Below.refl _ _).alloc (Nat.le_refl _) _⟩
  · have hk : knownB op = false := by simp [knownB]; omega
    have hs : strI op = 0 := by simp [strI]; omega
    have HS := Lib.hid hs
    clear h hs
    go_enter Tryd.func40, Tryd.ntmps40
    go_wp2_with (first
      | (go_at_call 53; refine (ref01_Known _ _).mono ?_; rintro e w' ⟨rfl, rfl⟩))
    go_ret
    exact ⟨by rw [HS.out]; rfl, Below.refl _ _⟩
end Go.Proofs.YtmfdiclbenmfbaaDoor
