/- Contracts of package bag: Count, Total, within, Within. -/
import Derived.Test.YtajcleobmgjhoaaGreatDoorBagD
import Derived.Laws.IdiomRangeMap
namespace Go.Proofs.YtajcleobmgjhoaaGreatDoor
open Go.RowKit
theorem ret_i {a b : Int} (h : a = b) : Ending.returned (.int .i64 a) = .returned (.int .i64 b) := by rw [h]
theorem look_nil (x : Int) (w : World) : (Instr.lookup 76 (.map none) (.int .i64 x) false).run Tryz.prog w = .ok (.int .i64 0) w := by
  kernel_rfl
def cntR (l : Row) (m : Int) : Int := if rightB l then getM l m else 0
/-- What has come of a row. -/
def doneM (left : Lit → Bool) : Row → Int
  | [] => 0
  | p :: r => (if left (.int .i64 p.1) then 0 else p.2) + doneM left r
theorem doneM_not {left : Lit → Bool} {x : Int} : ∀ {l : Row}, (∀ q ∈ l, q.1 ≠ x) → doneM (fun z => left z && !z.sameKey (.int .i64 x)) l = doneM left l
  | [], _ => rfl
  | q :: r, h => by
    unfold doneM
    rw [doneM_not fun y hy => h y (by simp [hy])]
    have h1 : q.1 ≠ x := h q (by simp)
    simp [Lit.sameKey, h1]
theorem doneM_step {left : Lit → Bool} {p : Int × Int} : ∀ {l : Row}, Srt l → p ∈ l → left (.int .i64 p.1) = true → doneM (fun z => left z && !z.sameKey (.int .i64 p.1)) l = doneM left l + p.2
  | q :: r, hs, hp, hl => by
    obtain ⟨h1, h2⟩ := List.pairwise_cons.1 hs
    unfold doneM
    rcases List.mem_cons.1 hp with rfl | hp
    · rw [doneM_not fun y hy => by have := h1 y hy; omega]
      simp [Lit.sameKey, hl]
      omega
    · rw [doneM_step h2 hp hl]
      have h3 : q.1 ≠ p.1 := by have := h1 p hp; omega
      simp [Lit.sameKey, h3]
      omega
theorem doneM_start {left : Lit → Bool} : ∀ {l : Row}, (∀ p ∈ l, left (.int .i64 p.1) = true) → doneM left l = 0
  | [], _ => rfl
  | q :: r, h => by
    unfold doneM
    rw [doneM_start fun y hy => h y (by simp [hy]), h q (by simp)]
    simp
theorem doneM_end {left : Lit → Bool} (hl : ∀ kl, left kl = false) : ∀ (l : Row), doneM left l = totM l
  | [] => rfl
  | q :: r => by
    unfold doneM totM
    rw [doneM_end hl r, hl]
    simp
theorem doneM_bound {left : Lit → Bool} : ∀ {l : Row}, (∀ p ∈ l, 0 ≤ p.2 ∧ p.2 ≤ 1048576) → 0 ≤ doneM left l ∧ doneM left l ≤ l.length * 1048576
  | [], _ => by simp [doneM]
  | q :: r, h => by
    have h1 := doneM_bound (left := left) fun y hy => h y (List.mem_cons_of_mem _ hy)
    have h2 := h q (by simp)
    unfold doneM
    rw [List.length_cons]
    split <;> omega
def totR (l : Row) : Int := if rightB l then totM l else 0
set_option maxRecDepth 100000 in
set_option maxHeartbeats 1000000 in
theorem bag_Total (A : Option Addr) (n c : Nat) (l : Row) (w : World) (hA : Hid (Sl w (.slice A n c) n 2 (pairCells l))) (hi : Hid (I64s l)) (hmax : n < 1000000000000) :
    Calls Tryz.prog 47 #[.slice A n c] w fun e w' => e = .returned (.int .i64 (totR l)) ∧ Below w.heap.size w w' := by
  have cO := Lib.hid (bag_of A n c l w hA hi hmax)
  have hl := Lib.hid (show l.length = n by have := hA.out.len; rw [pairCells_len] at this; omega)
  go_enter Tryz.func47, Tryz.ntmps47
  go_wp2_with fail
  refine cO.out.mono ?_
  rintro e w1 ⟨hb1, hP⟩
  have HB1 := Lib.hid hb1
  clear hb1
  rcases hP with ⟨hr, x, rfl, hx, hM⟩ | ⟨hr, rfl⟩
  · have HR := Lib.hid hr
    have hok := Lib.hid ((rightB_iff l).1 hr)
    obtain ⟨D, h1, h2⟩ := hM
    have HO := Lib.hid h1
    have HD := Lib.hid h2
    have hbx := h1.lt
    clear hr hx h1 h2
    go_wp2_with (first
      | (at_range; refine wpList_range_own _ rfl _ 76 rfl 3 3 keyI Tryz.underlying76 _ x _ D rfl HO.out ?_; intro w0 hrg0 hg0 hs0)
      | go_in)
    go_frame
    have HG0 := Lib.hid hg0
    go_loopw [5, 7] (fun v _ wr => ∃ (left : Lit → Bool) (cnt : Nat) (z : Int), v = .int .i64 z ∧ Hid (wr.ranges Tryz.prog 3 (plainElem Tryz.prog 3) x w1.heap.size l.length D left cnt) ∧ Hid (z = doneM left l) ∧ Hid (Below w1.heap.size w1 wr)) (fun _ _ wr => wr.rangeLeft x w1.heap.size)
    case atStart =>
      exact ⟨_, _, _, rfl, hrg0, (doneM_start fun p hp => Maps.has_true_of_atKey (HD.out.2 p hp)).symm, (Below.refl _ w1).grown HG0.out (Nat.le_refl _) (fun q hq => by cases hq)⟩
    case round =>
      obtain ⟨left, cnt, z, rfl, hrg, hz, hB⟩ := hrel
      clear hg0 hs0 hrg0
      go_wp2_with (first
        | (at_next; refine wpList_next_ranges_ii _ rfl _ rfl 3 3 .i64 .i64 keyI Tryz.underlying3 Tryz.underlying3 x w1.heap.size l.length _ _ _ rfl hrg.out ?_ ?_)
        | go_in)
      · intro hc0 hl0
        have HL0 := Lib.hid hl0
        clear hl0 hc0
        go_wp2
        go_ret
        refine ⟨ret_i ?_, below_then HB1.out hB.out⟩
        unfold totR
        rw [HR.out, if_pos rfl, hz.out, doneM_end HL0.out]
      · intro y v wq cnt1 hwy hwv hly hat hrg1 hlt hg1 hs1 hen
        have hp : ∃ p ∈ l, p = (y, v) := by
          obtain ⟨p, hp, e⟩ := HD.out.1 _ (Maps.has_true_of_atKey hat)
          injection e with _ e
          have e2 := HD.out.2 p hp (.lit (.int .i64 0))
          rw [← e, hat] at e2
          injection e2 with e2; injection e2 with _ e2
          exact ⟨p, hp, Prod.ext e.symm e2.symm⟩
        obtain ⟨p, hp, rfl⟩ := hp
        have hst := doneM_step (left := left) hok.out.1 hp hly
        have hbd := doneM_bound (left := left) (l := l) (fun p hp => by have := hok.out.2 p hp; omega)
        have hv2 := hok.out.2 _ hp
        rw [← hz.out] at hst hbd
        rw [hl.out] at hbd
        simp only at hst hv2
        obtain ⟨b1, b2⟩ := hbd
        obtain ⟨b3, b4, b5⟩ := hv2
        have HST := Lib.hid hst
        have HRG1 := Lib.hid hrg1
        have HG1 := Lib.hid hg1
        have HLT := Lib.hid hlt
        have hwrap : IntKind.i64.wrap (z + v) = z + v := by rw [IntKind.wrap_i64]; omega
        clear hst hp hat hly hwy hwv hrg1 hg1 hlt
        go_wp2
        go_roundw
        case rel =>
          refine ⟨_, cnt1, z + v, rfl, HRG1.out, HST.out.symm, ?_⟩
          exact hB.out.grown HG1.out hB.out.size (fun q hq => by injection hq with hq; omega)
        case measure => rw [HRG1.out.left_eq, hrg.out.left_eq]; exact HLT.out
  · have HR := Lib.hid hr
    have hrg := run_range_nilMap (P := Tryz.prog) w1 76 3 3 Tryz.underlying76
    have hnx : ∀ ty, (Instr.next (.pointer (some ⟨w1.heap.size, 0, none⟩)) false ty).run Tryz.prog (w1.alloc (.mapIter none 0 #[] 0)) = _ := fun ty => run_next_nilMap _ ty 0 0 #[]
    clear hr
    go_wp2
    refine wp_loop_rounds 1 ?_
    rw [rounds_succ]
    go_wp2
    go_ret
    refine ⟨ret_i ?_, HB1.out.alloc HB1.out.size _⟩
    unfold totR
    rw [HR.out, if_neg (by simp)]
end Go.Proofs.YtajcleobmgjhoaaGreatDoor
