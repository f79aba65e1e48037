/- eval, Eval: the program's. -/
import Derived.Test.YtmfdiclbenmfbaaDoorExprI
import Derived.RegionTactic
namespace Go.Proofs.YtmfdiclbenmfbaaDoor
open Go.RowKit
set_option maxRecDepth 100000 in
set_option maxHeartbeats 4000000 in
theorem ex_eval_step (env : List Int) (N : Nat) (IH : Hid (EvAt 45 env N)) : EvAt 45 env (N + 1) := by
  intro t hN A m c w EA en ec h he hp
  have hok := parts_ok hp.out
  have hok2 := hok
  obtain ⟨hl, _, _⟩ := h.out.len
  have hm := ok_len hok
  have hb1 := (Below.refl w.heap.size w).alloc (Nat.le_refl _) (.cells #[.int .i64 t.kind, .int .i64 t.num, .slice A m c] 24)
  have HB1 := Lib.hid hb1
  have s0 := cell_new w #[.int .i64 t.kind, .int .i64 t.num, .slice A m c] 24 0 _ rfl
  have s1 := cell_new w #[.int .i64 t.kind, .int .i64 t.num, .slice A m c] 24 1 _ rfl
  have s2 := cell_new w #[.int .i64 t.kind, .int .i64 t.num, .slice A m c] 24 2 _ rfl
  obtain ⟨w1, hw1⟩ : ∃ w1, w1 = w.alloc (.cells #[.int .i64 t.kind, .int .i64 t.num, .slice A m c] 24) := ⟨_, rfl⟩
  obtain ⟨g, hg⟩ : ∃ g, g = w.heap.size := ⟨_, rfl⟩
  have HW1 := Lib.hid hw1
  have HG := Lib.hid hg
  have hT : ∀ q, Hid (TrAt (w1.drewN q) A m c t) := fun q => Lib.hid (by rw [hw1]; exact (h.out.kept hb1).kept (below_drewN' (Below.refl _ _) q))
  have hE : ∀ q, Hid (EnvAt (w1.drewN q) EA en ec env) := fun q => Lib.hid (by rw [hw1]; exact (he.out.kept hb1).kept (below_drewN' (Below.refl _ _) q))
  rw [← hw1] at s0 s1 s2 HB1
  rw [← hg] at s0 s1 s2
  have cD := ex_doer t.kind (.slice EA en ec)
  have dd : Tryd.prog.funcs.size = Tryd.prog.funcs.size := rfl
  clear dd hb1 hw1 hg
  rcases kidsN_of (k := t.kind) (by omega) with hk | hk | hk | hk | hk | hk
  · have CD := Lib.hid (fun W => cD W 79 (Lib.hid (by rw [hk.1]; rfl)))
    have CF := Lib.hid (fun q => ex_number env t A m c (w1.drewN q) (.slice EA en ec) hk.1)
    clear cD hk hm hok hok2 hl
    go_enter Tryd.func45, Tryd.ntmps45
    go_upto_region 1 with fail
    rw [← HG.out, ← HW1.out]
    go_region_with (first
      | (go_at_call 62; refine (CD.out _).mono ?_; rintro e w5 ⟨rfl, rfl⟩)
      | (go_at_call 79; refine (CF.out _).mono ?_; rintro e w6 ⟨rfl, hb6⟩; have HB6 := Lib.hid (below_then (below_drewN' HB1.out 1) hb6); clear hb6))
    all_goals (go_wp2; go_ret2; exact EvP.mk rfl HB6.out)
  · have CD := Lib.hid (fun W => cD W 80 (Lib.hid (by rw [hk.1]; rfl)))
    have CF := Lib.hid (fun q => ex_variable env t A m c (w1.drewN q) EA en ec (hE q) hk.1 (ok_var (m := t.kids.length) (by rw [← hk.1]; exact hok2)))
    clear cD hk hm hok hok2 hl
    go_enter Tryd.func45, Tryd.ntmps45
    go_upto_region 1 with fail
    rw [← HG.out, ← HW1.out]
    go_region_with (first
      | (go_at_call 62; refine (CD.out _).mono ?_; rintro e w5 ⟨rfl, rfl⟩)
      | (go_at_call 80; refine (CF.out _).mono ?_; rintro e w6 ⟨rfl, hb6⟩; have HB6 := Lib.hid (below_then (below_drewN' HB1.out 1) hb6); clear hb6))
    all_goals (go_wp2; go_ret2; exact EvP.mk rfl HB6.out)
  · have CD := Lib.hid (fun W => cD W 81 (Lib.hid (by rw [hk.1]; rfl)))
    have CF := Lib.hid (fun q => ex_turned env N IH t hN A m c (w1.drewN q) EA en ec (hT q) (hE q) hp (.inl hk.1))
    clear cD hk hm hok hok2 hl
    go_enter Tryd.func45, Tryd.ntmps45
    go_upto_region 1 with fail
    rw [← HG.out, ← HW1.out]
    go_region_with (first
      | (go_at_call 62; refine (CD.out _).mono ?_; rintro e w5 ⟨rfl, rfl⟩)
      | (go_at_call 81; refine (CF.out _).mono ?_; rintro e w6 ⟨rfl, hb6⟩; have HB6 := Lib.hid (below_then (below_drewN' HB1.out 1) hb6); clear hb6))
    all_goals (go_wp2; go_ret2; exact EvP.mk rfl HB6.out)
  · have CD := Lib.hid (fun W => cD W 81 (Lib.hid (by rw [hk.1]; rfl)))
    have CF := Lib.hid (fun q => ex_turned env N IH t hN A m c (w1.drewN q) EA en ec (hT q) (hE q) hp (.inr hk.1))
    clear cD hk hm hok hok2 hl
    go_enter Tryd.func45, Tryd.ntmps45
    go_upto_region 1 with fail
    rw [← HG.out, ← HW1.out]
    go_region_with (first
      | (go_at_call 62; refine (CD.out _).mono ?_; rintro e w5 ⟨rfl, rfl⟩)
      | (go_at_call 81; refine (CF.out _).mono ?_; rintro e w6 ⟨rfl, hb6⟩; have HB6 := Lib.hid (below_then (below_drewN' HB1.out 1) hb6); clear hb6))
    all_goals (go_wp2; go_ret2; exact EvP.mk rfl HB6.out)
  · have CD := Lib.hid (fun W => cD W 82 (Lib.hid (by rw [hk.1]; rfl)))
    have CF := Lib.hid (fun q => ex_two env N IH t hN A m c (w1.drewN q) EA en ec (hT q) (hE q) hp hk.1)
    clear cD hk hm hok hok2 hl
    go_enter Tryd.func45, Tryd.ntmps45
    go_upto_region 1 with fail
    rw [← HG.out, ← HW1.out]
    go_region_with (first
      | (go_at_call 62; refine (CD.out _).mono ?_; rintro e w5 ⟨rfl, rfl⟩)
      | (go_at_call 82; refine (CF.out _).mono ?_; rintro e w6 ⟨rfl, hb6⟩; have HB6 := Lib.hid (below_then (below_drewN' HB1.out 1) hb6); clear hb6))
    all_goals (go_wp2; go_ret2; exact EvP.mk rfl HB6.out)
  · have CD := Lib.hid (fun W => cD W 83 (Lib.hid (by rw [hk.1]; rfl)))
    have CF := Lib.hid (fun q => ex_choice env N IH t hN A m c (w1.drewN q) EA en ec (hT q) (hE q) hp hk.1)
    clear cD hk hm hok hok2 hl
    go_enter Tryd.func45, Tryd.ntmps45
    go_upto_region 1 with fail
    rw [← HG.out, ← HW1.out]
    go_region_with (first
      | (go_at_call 62; refine (CD.out _).mono ?_; rintro e w5 ⟨rfl, rfl⟩)
      | (go_at_call 83; refine (CF.out _).mono ?_; rintro e w6 ⟨rfl, hb6⟩; have HB6 := Lib.hid (below_then (below_drewN' HB1.out 1) hb6); clear hb6))
    all_goals (go_wp2; go_ret2; exact EvP.mk rfl HB6.out)
theorem ex_eval (env : List Int) : ∀ N, EvAt 45 env N
  | 0 => fun t hN _ _ _ _ _ _ _ _ _ _ => by have := t.sz_pos; omega
  | N + 1 => ex_eval_step env N (Lib.hid (ex_eval env N))
/-- What Eval tells. -/
def evalV (env : List Int) (t : Tr) : Int × Int := if rightT env.length t = true then evT env t else (0, 1)
theorem right_parts {vars : Int} {t : Tr} (h : rightT vars t = true) : partsT vars t = true := by
  unfold rightT at h
  simp only [Bool.and_eq_true] at h
  exact h.2.2
set_option maxRecDepth 100000 in
set_option maxHeartbeats 2000000 in
theorem ex_Eval (env : List Int) (t : Tr) (A : Option Addr) (m c : Nat) (w : World) (EA : Option Addr) (en ec : Nat) (h : Hid (TrAt w A m c t)) (he : Hid (EnvAt w EA en ec env)) (hsz : sizeT t ≤ 1000000) :
    Calls Tryd.prog 22 #[t.val A m c, .slice EA en ec] w (EvP w (evalV env t)) := by
  have hl := he.out.len
  have hb1 := (Below.refl w.heap.size w).alloc (Nat.le_refl _) (.cells #[.int .i64 t.kind, .int .i64 t.num, .slice A m c] 24)
  have HB1 := Lib.hid hb1
  have hT := Lib.hid (h.out.kept hb1)
  have hE := Lib.hid (he.out.kept hb1)
  have s0 := cell_new w #[.int .i64 t.kind, .int .i64 t.num, .slice A m c] 24 0 _ rfl
  have s1 := cell_new w #[.int .i64 t.kind, .int .i64 t.num, .slice A m c] 24 1 _ rfl
  have s2 := cell_new w #[.int .i64 t.kind, .int .i64 t.num, .slice A m c] 24 2 _ rfl
  obtain ⟨w1, hw1⟩ : ∃ w1, w1 = w.alloc (.cells #[.int .i64 t.kind, .int .i64 t.num, .slice A m c] 24) := ⟨_, rfl⟩
  obtain ⟨g, hg⟩ : ∃ g, g = w.heap.size := ⟨_, rfl⟩
  have HW1 := Lib.hid hw1
  have HG := Lib.hid hg
  rw [← hw1] at s0 s1 s2 hT hE HB1
  rw [← hg] at s0 s1 s2
  have cR := ex_Right en t A m c w1 hT hsz
  have hV : evalV env t = if rightT en t = true then evT env t else (0, 1) := by unfold evalV; rw [hl]
  have HV := Lib.hid hV
  rcases hr : rightT en t with _ | _
  · rw [hr] at cR HV
    have CR := Lib.hid cR
    clear hb1 hw1 hg hr hV cR hl
    go_enter Tryd.func22, Tryd.ntmps22
    go_upto_region 1 with fail
    rw [← HG.out, ← HW1.out]
    go_wp2_with fail
    refine CR.out.mono ?_
    rintro e w5 ⟨rfl, hb5⟩
    have HB5 := Lib.hid (below_then HB1.out hb5)
    clear hb5
    go_wp2_with fail
    go_ret2
    refine EvP.mk ?_ HB5.out
    rw [HV.out]
    rfl
  · have hp := Lib.hid (right_parts hr)
    rw [hr] at cR HV
    have CR := Lib.hid cR
    have CE := Lib.hid (fun W hT hE => ex_eval env t.sz t (Nat.le_refl _) A m c W EA en ec hT hE hp)
    clear hb1 hw1 hg hr hV cR hl
    go_enter Tryd.func22, Tryd.ntmps22
    go_upto_region 1 with fail
    rw [← HG.out, ← HW1.out]
    go_wp2_with fail
    refine CR.out.mono ?_
    rintro e w5 ⟨rfl, hb5⟩
    have HB5 := Lib.hid (below_then HB1.out hb5)
    have HT5 := Lib.hid (hT.out.kept hb5)
    have HE5 := Lib.hid (hE.out.kept hb5)
    have r0 := cell_kept hb5 s0
    have r1 := cell_kept hb5 s1
    have r2 := cell_kept hb5 s2
    clear hb5 s0 s1 s2
    go_wp2_with fail
    refine (CE.out _ HT5 HE5).mono ?_
    rintro e w6 ⟨rfl, hb6⟩
    have HB6 := Lib.hid (below_then HB5.out hb6)
    clear hb6
    go_wp2_with fail
    go_ret2
    refine EvP.mk ?_ HB6.out
    rw [HV.out]
    rfl
end Go.Proofs.YtmfdiclbenmfbaaDoor
