/- The small case of the laws of calc comes out right. -/
import Derived.Test.YtifbodndgjkgaaaCalcD
import Derived.Deep.QuietTactic
import Derived.BigQuiet
import Derived.Deep.RegionWith
namespace Go.Proofs.Ytifbodndgjkgaaa
open Go.RowKit
theorem calc_Do_lit (op a b v e : Int) (w : World) (hv : doV op a b = v) (he : doE op a b = e) (ha : I64 a) (hb : I64 b) :
    Calls Try.prog 10 #[.int .i64 op, .int .i64 a, .int .i64 b] w fun e' w' => e' = .returned (.tuple #[.int .i64 v, .int .i64 e]) ∧ ∃ n, w' = w.drewN n := by
  subst hv; subst he; exact calc_Do op a b w ha hb
theorem calc_Neg_lit (a v e : Int) (w : World) (hv : chkV (-a) = v) (he : chkE (-a) = e) (ha : I64 a) :
    Calls Try.prog 12 #[.int .i64 a] w fun e' w' => e' = .returned (.tuple #[.int .i64 v, .int .i64 e]) ∧ ∃ n, w' = w.drewN n := by
  subst hv; subst he; exact calc_Neg a w ha
theorem calc_Fold_lit (op : Int) (b : Nat) (l : List Int) (n : Nat) (v e : Int) (w : World) (hn : l.length = n) (hm : n ≤ 9223372036854775807) (hv : foldLV op l = v) (he : foldLE op l = e) (hin : ∀ x ∈ l, I64 x) (hcell : IntsAt w b 0 l) :
    Calls Try.prog 21 #[.int .i64 op, .slice (some ⟨b, 0, none⟩) n n] w fun e' w' => e' = .returned (.tuple #[.int .i64 v, .int .i64 e]) ∧ ∃ n, w' = w.drewN n := by
  subst hv; subst he; exact calc_Fold op b 0 n n l w hn (Nat.le_refl _) hm hin hcell
theorem calc_Op_lit (s : ByteArray) (v : Int) (b : Bool) (w : World) (hv : opN s = v) (hb : isOp s = b) :
    Calls Try.prog 15 #[.string s] w fun e w' => e = .returned (.tuple #[.int .i64 v, .bool b]) ∧ Below w.heap.size w w' := by
  subst hv; subst hb; exact calc_Op s w
theorem ints_new (w : World) (t : TypeId) (l : List Int) : IntsAt (w.alloc (.cells (l.map (Value.int .i64)).toArray t)) w.heap.size 0 l := by
  intro j hj
  have hb := heap_alloc_new w (.cells (l.map (Value.int .i64)).toArray t)
  rw [cell_of_row _ _ _ _ _ _ hb]
  simp [List.getD, List.getElem?_eq_getElem hj]
theorem below_drewN {B : Nat} {a w : World} (h : Below B a w) (n : Nat) : Below B a (w.drewN n) := ⟨h.os, h.tape, h.output, h.size, h.block⟩
theorem calc_Sign_lit (op : Int) (s : ByteArray) (w : World) (hs : signOf op = s) :
    Calls Try.prog 17 #[.int .i64 op] w fun e w' => e = .returned (.string s) ∧ Below w.heap.size w w' := by
  subst hs; exact calc_Sign op w
set_option maxHeartbeats 1000000 in
theorem law01_small (w : World) :
    Calls Try.prog 9 #[] w fun e w' => e = .returned (.bool true) ∧ Below w.heap.size w w' := by
  go_enter Try.func9, Try.ntmps9
  go_wp2_with fail
  refine (calc_Do_lit 1 9223372036854775807 1 0 6 _ (by decide) (by decide) (by decide) (by decide)).mono ?_
  rintro e w' ⟨rfl, n1, rfl⟩
  go_wp2_with fail
  refine (calc_Do_lit 4 (-7) 2 (-3) 0 _ (by decide) (by decide) (by decide) (by decide)).mono ?_
  rintro e w' ⟨rfl, n2, rfl⟩
  go_wp2_with fail
  refine (calc_Do_lit 5 (-7) 2 (-1) 0 _ (by decide) (by decide) (by decide) (by decide)).mono ?_
  rintro e w' ⟨rfl, n3, rfl⟩
  go_wp2_with fail
  refine (calc_Do_lit 3 4294967296 2147483648 0 6 _ (by decide) (by decide) (by decide) (by decide)).mono ?_
  rintro e w' ⟨rfl, n4, rfl⟩
  go_wp2_with fail
  refine (calc_Do_lit 3 (-4294967296) 2147483648 (-9223372036854775808) 0 _ (by decide) (by decide) (by decide) (by decide)).mono ?_
  rintro e w' ⟨rfl, n5, rfl⟩
  go_wp2_with fail
  refine (calc_Neg_lit (-9223372036854775808) 0 6 _ (by decide) (by decide) (by decide)).mono ?_
  rintro e w' ⟨rfl, n6, rfl⟩
  go_wp2_with fail
  refine (calc_Fold_lit 2 w.heap.size [9, 2, 3] 3 4 0 _ rfl (by decide) (by decide) (by decide) (by decide) (by exact ints_new (w.drewN _) _ [9, 2, 3])).mono ?_
  rintro e w' ⟨rfl, n7, rfl⟩
  go_wp2_with fail
  refine (calc_Op_lit _ 9 true _ (by decide) (by decide)).mono ?_
  rintro e w' ⟨rfl, hb⟩
  go_wp2_with fail
  refine (calc_Sign_lit 3 ⟨#[42]⟩ _ rfl).mono ?_
  rintro e w2 ⟨rfl, hb2⟩
  go_wp2_with fail
  refine (calc_Strength 3 _).mono ?_
  rintro e w3 ⟨rfl, rfl⟩
  have hs3 : strI 3 = 5 := rfl
  go_wp2
  go_ret
  have h7 := below_drewN ((below_drewN (Below.refl w.heap.size w) (n1 + n2 + n3 + n4 + n5 + n6)).alloc (by simp) (.cells #[.int .i64 9, .int .i64 2, .int .i64 3] 3)) n7
  refine ⟨rfl, (h7.trans (hb.mono ?_)).trans (hb2.mono ?_)⟩
  · simp
  · have := hb.size
    simp at this
    omega
end Go.Proofs.Ytifbodndgjkgaaa
