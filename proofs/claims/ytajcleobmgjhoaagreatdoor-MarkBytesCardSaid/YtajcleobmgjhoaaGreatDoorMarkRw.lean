/- The document's answer of layer 09: Decode, plain lemmas. -/
import Derived.Test.YtajcleobmgjhoaaGreatDoorMarkRv
namespace Go.Proofs.YtajcleobmgjhoaaGreatDoor
open Go.RowKit Go.Lib
theorem num_step {l : List Int} {i : Nat} (h : i < l.length) : numB 0 (l.take (i + 1)) = 256 * numB 0 (l.take i) + l.getD i 0 := by
  rw [List.take_succ_eq_append_getElem h, numB_snoc, List.getD, List.getElem?_eq_getElem h]
  simp only [Option.getD_some]
  omega
theorem getD_drop (l : List Int) (a i : Nat) : (l.drop a).getD i 0 = l.getD (a + i) 0 := by
  rw [List.getD, List.getD, List.getElem?_drop]
theorem num2 {l : List Int} {a : Nat} (h : a + 1 < l.length) : numB 0 ((l.drop a).take 2) = l.getD a 0 * 256 + l.getD (a + 1) 0 := by
  have h0 : 1 < (l.drop a).length := by rw [List.length_drop]; omega
  rw [num_step h0, num_step (by omega), getD_drop, getD_drop, List.take_zero]
  simp [numB]
  omega
theorem u8_mem {l : List Int} (h : U8s l) {i : Nat} (hi : i < l.length) : 0 ≤ l.getD i 0 ∧ l.getD i 0 ≤ 255 := by
  rw [List.getD, List.getElem?_eq_getElem hi]
  exact h _ (List.getElem_mem _)
theorem num_bd {l : List Int} (h : U8s l) (a i : Nat) (hi : i ≤ 4) : 0 ≤ numB 0 ((l.drop a).take i) ∧ numB 0 ((l.drop a).take i) ≤ 4294967295 := by
  have := numB_bound ((l.drop a).take i) (fun y hy => h y (List.mem_of_mem_drop (List.mem_of_mem_take hy)))
  exact ⟨this.1, this.2 (by rw [List.length_take]; omega)⟩
/-- The two numbers of a row, behind some of its eight bytes. -/
def rowJ (l : List Int) (a j : Nat) : Int × Int := (numB 0 ((l.drop a).take (min j 4)), numB 0 ((l.drop (a + 4)).take (j - 4)))
theorem rowJ_bd {l : List Int} (h : U8s l) (a j : Nat) (hj : j ≤ 8) : (0 ≤ (rowJ l a j).1 ∧ (rowJ l a j).1 ≤ 4294967295) ∧ 0 ≤ (rowJ l a j).2 ∧ (rowJ l a j).2 ≤ 4294967295 :=
  ⟨num_bd h a _ (by omega), num_bd h (a + 4) _ (by omega)⟩
theorem rowJ_zero (l : List Int) (a : Nat) : rowJ l a 0 = (0, 0) := by simp [rowJ, numB]
theorem rowJ_lo {l : List Int} {a j : Nat} (hj : j < 4) (hl : a + j < l.length) : rowJ l a (j + 1) = (256 * (rowJ l a j).1 + l.getD (a + j) 0, (rowJ l a j).2) := by
  unfold rowJ
  have e1 : min (j + 1) 4 = j + 1 := by omega
  have e2 : min j 4 = j := by omega
  have e3 : j + 1 - 4 = 0 := by omega
  have e4 : j - 4 = 0 := by omega
  simp only [e1, e2, e3, e4]
  rw [num_step (by rw [List.length_drop]; omega), getD_drop]
theorem rowJ_hi {l : List Int} {a j : Nat} (hj : 4 ≤ j) (hl : a + j < l.length) : rowJ l a (j + 1) = ((rowJ l a j).1, 256 * (rowJ l a j).2 + l.getD (a + j) 0) := by
  unfold rowJ
  have e1 : min (j + 1) 4 = 4 := by omega
  have e2 : min j 4 = 4 := by omega
  have e3 : j + 1 - 4 = (j - 4) + 1 := by omega
  simp only [e1, e2, e3]
  rw [num_step (l := l.drop (a + 4)) (i := j - 4) (by rw [List.length_drop]; omega), getD_drop]
  rw [show a + 4 + (j - 4) = a + j by omega]
theorem decRows_rowJ (l : List Int) (a k : Nat) : decRows (k + 1) (l.drop a) = decRows k (l.drop a) ++ [rowJ l (a + 8 * k) 8] := by
  rw [decRows_snoc]
  unfold rowJ
  simp only [List.drop_drop, show min 8 4 = 4 from rfl, show 8 - 4 = 4 from rfl]
theorem decBag_short {l : List Int} {a : Nat} (h : l.length < a + 2) : decBag (l.drop a) = none := by
  unfold decBag
  rw [if_pos (by rw [List.length_drop]; omega)]
theorem decBag_ok {l : List Int} {a R : Nat} (h : a + 2 ≤ l.length) (hR : l.getD a 0 * 256 + l.getD (a + 1) 0 = (R : Int)) : decBag (l.drop a) = if l.length < a + 2 + 8 * R then none else if rightB (decRows R (l.drop (a + 2))) then some (decRows R (l.drop (a + 2)), l.drop (a + 2 + 8 * R)) else none := by
  unfold decBag
  rw [if_neg (by rw [List.length_drop]; omega), num2 (by omega), hR, Int.toNat_natCast, List.drop_drop, List.drop_drop, List.length_drop]
  by_cases h3 : l.length < a + 2 + 8 * R
  · rw [if_pos h3, if_pos (by omega)]
  · rw [if_neg h3, if_neg (by omega)]
theorem BgOwn.below {w w' : World} {base : Nat} {b : Bg} (h : BgOwn w base b) (hb : Below w.heap.size w w') : BgOwn w' base b := ⟨own_below h.own hb, h.wf, h.len, h.small⟩
theorem decRows_wf2 {l : List Int} (h : U8s l) (a k : Nat) : I64s (decRows k (l.drop a)) := decRows_wf (fun y hy => h y (List.mem_of_mem_drop hy)) k
end Go.Proofs.YtajcleobmgjhoaaGreatDoor
