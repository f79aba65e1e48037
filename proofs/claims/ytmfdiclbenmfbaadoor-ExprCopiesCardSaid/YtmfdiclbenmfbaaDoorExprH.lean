/- eval: the program's methods. -/
import Derived.Test.YtmfdiclbenmfbaaDoorExprG
namespace Go.Proofs.YtmfdiclbenmfbaaDoor
open Go.RowKit
theorem ex_number (env : List Int) (t : Tr) (A : Option Addr) (m c : Nat) (w : World) (v : Value) (hk : t.kind = 1) :
    Calls Tryd.prog 79 #[v, t.val A m c] w (EvP w (evT env t)) := by
  have HB1 := Lib.hid ((Below.refl w.heap.size w).alloc (Nat.le_refl _) (.cells #[.int .i64 t.kind, .int .i64 t.num, .slice A m c] 24))
  have HV := Lib.hid (evT_eq env t)
  have HK := Lib.hid hk
  clear hk
  go_enter Tryd.func79, Tryd.ntmps79
  go_wp2
  go_ret2
  refine EvP.mk ?_ HB1.out
  rw [HV.out, HK.out]
  simp [evN]
theorem ex_variable (env : List Int) (t : Tr) (A : Option Addr) (m c : Nat) (w : World) (EA : Option Addr) (en ec : Nat) (he : Hid (EnvAt w EA en ec env)) (hk : t.kind = 2) (hn : 0 ≤ t.num ∧ t.num < en) :
    Calls Tryd.prog 80 #[.slice EA en ec, t.val A m c] w (EvP w (evT env t)) := by
  have hb1 := (Below.refl w.heap.size w).alloc (Nat.le_refl _) (.cells #[.int .i64 t.kind, .int .i64 t.num, .slice A m c] 24)
  have HB1 := Lib.hid hb1
  have HV := Lib.hid (evT_eq env t)
  have HK := Lib.hid hk
  have hl := he.out.len
  obtain ⟨j, hj⟩ : ∃ j : Nat, t.num = (j : Int) := ⟨t.num.toNat, by omega⟩
  obtain ⟨b, off, rfl, hc⟩ := (he.out.kept hb1).sl.at_ (by omega)
  have hcj := hc j _ (intCells_at (by omega))
  have HJ := Lib.hid hj
  have hj1 : (j : Int) < (en : Int) := by omega
  have hj0 : (0 : Int) ≤ (j : Int) := by omega
  have hv : t.val A m c = .agg #[.int .i64 t.kind, .int .i64 j, .slice A m c] := by rw [← hj]
  rw [hv]
  rw [hj] at HB1 hcj
  clear hk hb1 hc hn hj hv
  go_enter Tryd.func80, Tryd.ntmps80
  go_wp2
  go_ret2
  refine EvP.mk ?_ HB1.out
  rw [HV.out, HK.out, HJ.out]
  simp [evN]
theorem ex_doer (k : Int) (v : Value) (w : World) (F : Nat) (hF : Hid (F = if k = 1 then 79 else if k = 2 then 80 else if k = 3 ∨ k = 4 then 81 else if k = 5 then 82 else 83)) :
    Calls Tryd.prog 62 #[v, .int .i64 k] w fun e w' => e = .returned (.func (.func F) #[v] #[]) ∧ w = w' := by
  have he := hF.out
  go_enter Tryd.func62, Tryd.ntmps62
  go_wp2
  all_goals
    go_ret
    refine ⟨?_, rfl⟩
    rw [hF.out]
    simp_all
set_option maxRecDepth 100000 in
set_option maxHeartbeats 2000000 in
theorem ex_turned (env : List Int) (N : Nat) (IH : Hid (EvAt 45 env N)) (t : Tr) (hN : t.sz ≤ N + 1) (A : Option Addr) (m c : Nat) (w : World) (EA : Option Addr) (en ec : Nat) (h : Hid (TrAt w A m c t)) (he : Hid (EnvAt w EA en ec env)) (hp : Hid (partsT en t = true)) (hk : t.kind = 3 ∨ t.kind = 4) :
    Calls Tryd.prog 81 #[.slice EA en ec, t.val A m c] w (EvP w (evT env t)) := by
  obtain ⟨hl, hc, hc9⟩ := h.out.len
  have hm : m = 1 := by
    have := ok_len (parts_ok hp.out)
    rw [hl] at this
    rcases hk with hk | hk <;> rw [hk] at this <;> simp [kidsN] at this <;> omega
  subst hm
  have hb1 := (Below.refl w.heap.size w).alloc (Nat.le_refl _) (.cells #[.int .i64 t.kind, .int .i64 t.num, .slice A 1 c] 24)
  have HB1 := Lib.hid hb1
  have s0 := cell_new w #[.int .i64 t.kind, .int .i64 t.num, .slice A 1 c] 24 0 _ rfl
  have s2 := cell_new w #[.int .i64 t.kind, .int .i64 t.num, .slice A 1 c] 24 2 _ rfl
  obtain ⟨b, off, rfl, A', m', c', hK⟩ := (h.out.kept hb1).kid (j := 0) (by omega)
  have hkd := Tr.kid_lt (t := t) (j := 0) (by omega)
  have hpk := parts_kid hp.out (j := 0) (by omega)
  have hev := evL_get env t.kids 0 (by omega)
  obtain ⟨q, hq⟩ : ∃ q, q = t.kids.getD 0 default := ⟨_, rfl⟩
  rw [← hq] at hK hkd hpk hev
  have c0 := hK.c0
  have c1 := hK.c1
  have c2 := hK.c2
  simp only [Nat.zero_mul, Nat.add_zero] at c0 c1 c2
  have hI := ev_in en he.out.ok q.sz q (Nat.le_refl _) hK.tr hpk
  have cQ := IH.out q (by omega) A' m' c' _ EA en ec (Lib.hid hK.tr) (Lib.hid (he.out.kept hb1)) (Lib.hid hpk)
  unfold EvP at cQ
  have hV := evT_eq env t
  unfold evN at hV
  rw [hev] at hV
  obtain ⟨⟨v, e⟩, hve⟩ : ∃ r, r = evT env q := ⟨_, rfl⟩
  rw [← hve] at hV cQ hI
  simp only at hV cQ hI
  have CQ := Lib.hid cQ
  have HV := Lib.hid hV
  obtain ⟨k, hkk⟩ : ∃ k, k = t.kind := ⟨_, rfl⟩
  have hv : t.val (some ⟨b, off, none⟩) 1 c = .agg #[.int .i64 k, .int .i64 t.num, .slice (some ⟨b, off, none⟩) 1 c] := by rw [hkk]
  rw [hv]
  rw [← hkk] at s0 s2 HB1 CQ c0 c1 c2 HV
  have hk2 : k = 3 ∨ k = 4 := by omega
  have i0 : I64 0 := by decide
  have cN := calc_Neg v
  have cD := calc_Do 6 v 0
  clear hb1 hpk hev hq hK hkk hv hk hV hve cQ hl
  by_cases e0 : e = 0
  · subst e0
    rcases hk2 with rfl | rfl
    · go_enter Tryd.func81, Tryd.ntmps81
      go_wp2_with (first
        | (go_at_call 45; refine CQ.out.mono ?_; rintro e w5 ⟨rfl, hb5⟩; have HB5 := Lib.hid (below_then HB1.out hb5); have t0 := cell_kept hb5 s0; have t2 := cell_kept hb5 s2; clear hb5 s0 s2)
        | (go_at_call 96; refine (cN _ hI).mono ?_; rintro e w6 ⟨rfl, n6, rfl⟩))
      go_ret2
      refine EvP.mk ?_ (below_drewN' HB5.out _)
      rw [HV.out]
      simp [doV, doE]
    · go_enter Tryd.func81, Tryd.ntmps81
      go_wp2_with (first
        | (go_at_call 45; refine CQ.out.mono ?_; rintro e w5 ⟨rfl, hb5⟩; have HB5 := Lib.hid (below_then HB1.out hb5); have t0 := cell_kept hb5 s0; have t2 := cell_kept hb5 s2; clear hb5 s0 s2)
        | (go_at_call 97; refine (cD _ hI i0).mono ?_; rintro e w6 ⟨rfl, n6, rfl⟩))
      go_ret2
      refine EvP.mk ?_ (below_drewN' HB5.out _)
      rw [HV.out]
      simp [doV, doE]
  · have be : (e != 0) = true := by simpa using e0
    have HE := Lib.hid e0
    clear e0
    go_enter Tryd.func81, Tryd.ntmps81
    go_wp2_with (go_at_call 45; refine CQ.out.mono ?_; rintro e w5 ⟨rfl, hb5⟩; have HB5 := Lib.hid (below_then HB1.out hb5); have t0 := cell_kept hb5 s0; have t2 := cell_kept hb5 s2; clear hb5 s0 s2)
    go_ret2
    refine EvP.mk ?_ HB5.out
    rw [HV.out]
    have := HE.out
    rcases hk2 with rfl | rfl <;> simp [this]
end Go.Proofs.YtmfdiclbenmfbaaDoor
