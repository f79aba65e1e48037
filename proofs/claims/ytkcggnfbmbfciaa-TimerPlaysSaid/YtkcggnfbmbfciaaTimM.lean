/- The small case of law 14. -/
import Derived.Test.YtkcggnfbmbfciaaTimL
namespace Go.Proofs.Ytkcggnfbmbfciaa
open Go.RowKit
theorem small_s1 : addP 3 5 [] = [(3, 5)] := by decide
theorem small_s2 : addP 1 9 [(3, 5)] = [(3, 5), (1, 9)] := by decide
theorem small_s3 : addP 2 5 [(3, 5), (1, 9)] = [(2, 5), (3, 5), (1, 9)] := by decide
theorem small_s4 : addP 2 7 [(2, 5), (3, 5), (1, 9)] = [(2, 5), (3, 5), (1, 9)] := by decide
theorem small_s5 : dueP 5 [(2, 5), (3, 5), (1, 9)] = [2, 3] ∧ leftP 5 [(2, 5), (3, 5), (1, 9)] = [(1, 9)] := by decide
theorem small_s6 : delP 3 [(1, 9)] = [(1, 9)] ∧ delP 1 [(1, 9)] = [] := by decide
theorem sm_Add {w0 w : World} {g up : Nat} (S S' : List (Int × Int)) (id at_ r : Int) (H : Hid (QL w0 up w g S)) (hi : I64 id) (hn : S.length < 4096) (hr : (if hasP id S then 5 else 0) = r) (hs : addP id at_ S = S') :
    Calls Try.prog 10 #[.pointer (some ⟨g, 0, none⟩), .int .i64 id, .int .i64 at_] w fun e w' => e = .returned (.int .i64 r) ∧ QL w0 w'.heap.size w' g S' := by
  subst hr; subst hs; exact (ql_Add H hi hn).mono fun _ _ ⟨h1, h2, _⟩ => ⟨h1, h2⟩
theorem sm_Cancel {w0 w : World} {g up : Nat} (S S' : List (Int × Int)) (id r : Int) (H : Hid (QL w0 up w g S)) (hi : I64 id) (hn : S.length < 8192) (hr : (if hasP id S then 0 else 3) = r) (hs : delP id S = S') :
    Calls Try.prog 13 #[.pointer (some ⟨g, 0, none⟩), .int .i64 id] w fun e w' => e = .returned (.int .i64 r) ∧ QL w0 up w' g S' ∧ Only (InQ w0 up) w w' := by
  subst hr; subst hs; exact ql_Cancel H hi hn
theorem sm_Due {w0 w : World} {g up : Nat} (S S' : List (Int × Int)) (l : List Int) (now : Int) (n : Nat) (H : Hid (QL w0 up w g S)) (hn : S.length < 8192) (hi : Hid (∀ p ∈ S, I64 p.1)) (hd : dueP now S = l) (hs : leftP now S = S') (hl : l.length = n) :
    Calls Try.prog 14 #[.pointer (some ⟨g, 0, none⟩), .int .i64 now] w fun e w' => ∃ A c, e = .returned (.slice A n c) ∧ w'.ownsRow w.heap.size 3 1 (.slice A n c) n (intCells l) ∧ QL w0 up w' g S' ∧ Only (InQ w0 up) w w' := by
  subst hl; subst hd; subst hs; exact ql_Due H hn hi
set_option maxRecDepth 100000 in
set_option maxHeartbeats 2000000 in
theorem law14_small (w : World) :
    Calls Try.prog 8 #[] w fun e w' => e = .returned (.bool true) ∧ Below w.heap.size w w' := by
  go_enter Try.func8, Try.ntmps8
  go_wp2_with fail
  refine (ql_New w w (Below.refl _ _)).mono ?_
  rintro e w1 ⟨g, rfl, h1⟩
  have H1 := Lib.hid h1
  clear h1
  go_wp2_with fail
  refine (sm_Add [] _ 3 5 0 H1 (by decide) (by decide) (by decide) small_s1).mono ?_
  rintro e w2 ⟨rfl, h2⟩
  have H2 := Lib.hid h2
  clear h2 H1
  go_wp2_with fail
  refine (sm_Add _ _ 1 9 0 H2 (by decide) (by decide) (by decide) small_s2).mono ?_
  rintro e w3 ⟨rfl, h3⟩
  have H3 := Lib.hid h3
  clear h3 H2
  go_wp2_with fail
  refine (sm_Add _ _ 2 5 0 H3 (by decide) (by decide) (by decide) small_s3).mono ?_
  rintro e w4 ⟨rfl, h4⟩
  have H4 := Lib.hid h4
  clear h4 H3
  go_wp2_with fail
  refine (sm_Add _ _ 2 7 5 H4 (by decide) (by decide) (by decide) small_s4).mono ?_
  rintro e w5 ⟨rfl, h5⟩
  have H5 := Lib.hid h5
  clear h5 H4
  go_wp2_with fail
  refine (ql_Next H5).mono ?_
  rintro e w6 ⟨rfl, q6, rfl⟩
  have H6 := Lib.hid (H5.out.drewN q6)
  go_wp2_with fail
  refine (sm_Due _ _ [2, 3] 5 2 H6 (by decide) (Lib.hid (by decide)) small_s5.1 small_s5.2 rfl).mono ?_
  rintro e w7 ⟨A, c, rfl, hA, h7, _⟩
  have hA7 := Lib.hid hA
  have H7 := Lib.hid h7
  clear h7 H6 H5 hA
  go_wp2_with fail
  refine (sm_Cancel _ _ 3 3 H7 (by decide) (by decide) (by decide) small_s6.1).mono ?_
  rintro e w8 ⟨rfl, h8, o8⟩
  have hA8 := Lib.hid (own_only hA7.out o8 (fun x hx hy => by have := hy.2; have e1 : (w5.drewN q6).heap.size = w5.heap.size := rfl; omega))
  have H8 := Lib.hid h8
  clear h8 H7 hA7 o8
  go_wp2_with fail
  refine (sm_Cancel _ _ 1 0 H8 (by decide) (by decide) (by decide) small_s6.2).mono ?_
  rintro e w9 ⟨rfl, h9, o9⟩
  have hA9 := Lib.hid (Sl.of_own (own_only hA8.out o9 (fun x hx hy => by have := hy.2; have e1 : (w5.drewN q6).heap.size = w5.heap.size := rfl; omega)))
  have H9 := Lib.hid h9
  clear h9 H8 hA8 o9
  go_wp2_with fail
  have HA10 := Lib.hid (hA9.out.below ((Below.refl _ w9).alloc (Nat.le_refl _) (.cells #[.int .i64 2, .int .i64 3] 3)))
  refine (ref_Ints A _ 2 2 c 2 [2, 3] [2, 3] _ HA10 (Lib.hid (Sl.new w9 _ (intCells [2, 3]) 2 1 rfl (by decide))) (by decide) (by decide)).mono ?_
  rintro e w10 ⟨rfl, q10, rfl⟩
  go_wp2_with fail
  refine (ql_Len (Lib.hid ((H9.out.other ((Below.refl _ w9).alloc (Nat.le_refl _) (.cells #[.int .i64 2, .int .i64 3] 3))).drewN q10))).mono ?_
  rintro e w11 ⟨rfl, rfl⟩
  have HB := Lib.hid (below_drewN' (H9.out.bel.alloc H9.out.bel.size (.cells #[.int .i64 2, .int .i64 3] 3)) q10)
  go_wp2
  go_ret
  exact ⟨rfl, HB.out⟩
end Go.Proofs.Ytkcggnfbmbfciaa
