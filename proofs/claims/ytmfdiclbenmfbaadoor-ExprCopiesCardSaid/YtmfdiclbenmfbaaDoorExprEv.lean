/- Law ExprEvals: the walk. Printed by gen_law_evals.py. -/
import Derived.Test.YtmfdiclbenmfbaaDoorExprSh
import Derived.Test.YtmfdiclbenmfbaaDoorExprK
namespace Go.Proofs.YtmfdiclbenmfbaaDoor
open Go.RowKit
/-- The parts of few. -/
theorem few_sz {t : Tr} (h : 0 < fewT t 60) : sizeT t ≤ 1000000 := by
  have := few_size t 60 h
  omega
set_option maxRecDepth 100000 in
set_option maxHeartbeats 4000000 in
theorem law_ExprEvals (t : Tr) (A : Option Addr) (m c : Nat) (EA : Option Addr) (en ec : Nat) (env : List Int) (w : World) (h : Hid (TrAt w A m c t)) (he : Hid (EnvAt w EA en ec env)) (htab : Hid (∀ W, Below w.heap.size w W → TabT W)) :
    Calls Tryd.prog 4 #[t.val A m c, .slice EA en ec] w fun e w' => e = .returned (.bool true) ∧ Below w.heap.size w w' := by
  have al0 := al1 w (.cells #[.int .i64 t.kind, .int .i64 t.num, .slice A m c] 24)
  have hz0 : (w.alloc (.cells #[.int .i64 t.kind, .int .i64 t.num, .slice A m c] 24)).heap.size = w.heap.size + 1 := by rw [World.size_alloc]
  have k00 := cell_new w #[.int .i64 t.kind, .int .i64 t.num, .slice A m c] 24 0 _ rfl
  have k01 := cell_new w #[.int .i64 t.kind, .int .i64 t.num, .slice A m c] 24 1 _ rfl
  have k02 := cell_new w #[.int .i64 t.kind, .int .i64 t.num, .slice A m c] 24 2 _ rfl
  obtain ⟨w1, hw1⟩ : ∃ w1, w1 = (w.alloc (.cells #[.int .i64 t.kind, .int .i64 t.num, .slice A m c] 24)) := ⟨_, rfl⟩
  obtain ⟨g, hg⟩ : ∃ g, g = w.heap.size := ⟨_, rfl⟩
  have HW1 := Lib.hid hw1
  have HG := Lib.hid hg
  rw [← hw1] at al0 k00 k01 k02
  rw [← hg] at k00 k01 k02
  have HB1 := Lib.hid al0
  have HE := Lib.hid (show ∀ W, Below w1.heap.size w1 W → W.cell? ⟨g, 0, none⟩ = some (.int .i64 t.kind) ∧ W.cell? ⟨g, 1, none⟩ = some (.int .i64 t.num) ∧ W.cell? ⟨g, 2, none⟩ = some (.slice A m c) from fun W h => ⟨cell_kept h k00, cell_kept h k01, cell_kept h k02⟩)
  clear al0 hz0 hw1 hg
  have RFL := Lib.hid (Below.refl w1.heap.size w1)
  have HT := Lib.hid (fun W (hb : Below w1.heap.size w1 W) => Lib.hid (h.out.kept (below_then HB1.out hb)))
  have HV := Lib.hid (fun W (hb : Below w1.heap.size w1 W) => Lib.hid (he.out.kept (below_then HB1.out hb)))
  by_cases hf : 0 < fewT t 60
  · have hs := few_sz hf
    have df := decide_eq_true hf
    by_cases hn : en ≤ 20
    · have dn : (en : Int) ≤ 20 := by omega
      clear hn hf
      go_enter Tryd.func4, Tryd.ntmps4
      go_upto_region 1 with fail
      rw [← HG.out, ← HW1.out]
      go_wp2_with fail
      refine (law_small w1 (Lib.hid (fun W h => htab.out W (below_then HB1.out h)))).mono ?_
      rintro e u1 ⟨rfl, hb⟩
      have HU1 := Lib.hid (below_then RFL.out hb)
      clear hb
      clear k00 k01 k02
      obtain ⟨k00, k01, k02⟩ := HE.out _ HU1.out
      go_wp2_with fail
      refine (law_Few t A m c u1 (HT.out _ HU1.out)).mono ?_
      rintro e u2 ⟨rfl, hb⟩
      have HU2 := Lib.hid (below_then HU1.out hb)
      clear hb
      clear k00 k01 k02
      obtain ⟨k00, k01, k02⟩ := HE.out _ HU2.out
      go_wp2_with fail
      refine (ex_Eval env t A m c u2 EA en ec (HT.out _ HU2.out) (HV.out _ HU2.out) hs).mono ?_
      rintro e u3 ⟨rfl, hb⟩
      have HU3 := Lib.hid (below_then HU2.out hb)
      clear hb
      clear k00 k01 k02
      obtain ⟨k00, k01, k02⟩ := HE.out _ HU3.out
      go_wp2_with fail
      refine (r_Eval env t A m c u3 EA en ec (HT.out _ HU3.out) (HV.out _ HU3.out) hs).mono ?_
      rintro e u4 ⟨rfl, hb⟩
      have HU4 := Lib.hid (below_then HU3.out hb)
      clear hb
      clear k00 k01 k02
      obtain ⟨k00, k01, k02⟩ := HE.out _ HU4.out
      go_wp2_with fail
      go_ret
      exact ⟨by simp, below_then HB1.out HU4.out⟩
    · have dn : (20 : Int) < (en : Int) := by omega
      clear hn hf
      go_enter Tryd.func4, Tryd.ntmps4
      go_upto_region 1 with fail
      rw [← HG.out, ← HW1.out]
      go_wp2_with fail
      refine (law_small w1 (Lib.hid (fun W h => htab.out W (below_then HB1.out h)))).mono ?_
      rintro e u1 ⟨rfl, hb⟩
      have HU1 := Lib.hid (below_then RFL.out hb)
      clear hb
      clear k00 k01 k02
      obtain ⟨k00, k01, k02⟩ := HE.out _ HU1.out
      go_wp2_with fail
      refine (law_Few t A m c u1 (HT.out _ HU1.out)).mono ?_
      rintro e u2 ⟨rfl, hb⟩
      have HU2 := Lib.hid (below_then HU1.out hb)
      clear hb
      clear k00 k01 k02
      obtain ⟨k00, k01, k02⟩ := HE.out _ HU2.out
      go_wp2_with fail
      go_ret
      exact ⟨rfl, below_then HB1.out HU2.out⟩
  · have df := decide_eq_false hf
    clear hf
    go_enter Tryd.func4, Tryd.ntmps4
    go_upto_region 1 with fail
    rw [← HG.out, ← HW1.out]
    go_wp2_with fail
    refine (law_small w1 (Lib.hid (fun W h => htab.out W (below_then HB1.out h)))).mono ?_
    rintro e u1 ⟨rfl, hb⟩
    have HU1 := Lib.hid (below_then RFL.out hb)
    clear hb
    clear k00 k01 k02
    obtain ⟨k00, k01, k02⟩ := HE.out _ HU1.out
    go_wp2_with fail
    refine (law_Few t A m c u1 (HT.out _ HU1.out)).mono ?_
    rintro e u2 ⟨rfl, hb⟩
    have HU2 := Lib.hid (below_then HU1.out hb)
    clear hb
    clear k00 k01 k02
    obtain ⟨k00, k01, k02⟩ := HE.out _ HU2.out
    go_wp2_with fail
    go_ret
    exact ⟨rfl, below_then HB1.out HU2.out⟩
end Go.Proofs.YtmfdiclbenmfbaaDoor
