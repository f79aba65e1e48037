/- Package check: Place. Printed by gen_ckC.py. -/
import Derived.Test.YtaeeblceedklnaaGreatDoorCkC
namespace Go.Proofs.YtaeeblceedklnaaGreatDoor
open Go.RowKit
/-- Are two texts one? -/
def sameS (a b : ByteArray) : Bool := a.toList == b.toList
theorem sameS_eq (a b : ByteArray) : sameS a b = decide (a = b) := by
  unfold sameS
  rw [toList_data, toList_data, Bool.eq_iff_iff]
  simp only [beq_iff_eq, decide_eq_true_eq]
  constructor
  · intro h
    have h2 : a.data = b.data := Array.toList_inj.1 h
    cases a; cases b; simp only at h2; rw [h2]
  · rintro rfl; rfl
set_option maxRecDepth 100000 in
set_option maxHeartbeats 1000000 in
theorem ck_place1 (q : Pl) (A' : Option Addr) (n' c' : Nat) (g : Nat) (nm : ByteArray) (w : World) (h0 : Hid (w.cell? ⟨g, 0, none⟩ = some (.string nm))) :
    Calls Tryz.prog 38 #[q.val A' n' c', .pointer (some ⟨g, 0, none⟩)] w fun e w' => e = .returned (.bool (sameS q.name nm)) ∧ Below w.heap.size w w' := by
  have HB1 := Lib.hid (alr w (.cells #[.string q.name, .int .i64 q.colour, .slice A' n' c'] 45))
  have b0 := cell_kept HB1.out h0.out
  go_enter Tryz.func38, Tryz.ntmps38
  go_wp2
  go_ret
  exact ⟨rfl, HB1.out⟩
set_option maxRecDepth 100000 in
set_option maxHeartbeats 1000000 in
theorem ck_task1 (q : Tk) (Av : Option Addr) (nv cv : Nat) (Ag : Option Addr) (mg cg : Nat) (Ai : Option Addr) (ni ci : Nat) (Ao : Option Addr) (no co : Nat) (Ac : Option Addr) (nc cc : Nat) (g : Nat) (nm : ByteArray) (w : World) (h0 : Hid (w.cell? ⟨g, 0, none⟩ = some (.string nm))) :
    Calls Tryz.prog 56 #[q.val Av nv cv Ag mg cg Ai ni ci Ao no co Ac nc cc, .pointer (some ⟨g, 0, none⟩)] w fun e w' => e = .returned (.bool (sameS q.name nm)) ∧ Below w.heap.size w w' := by
  have HB1 := Lib.hid (alr w (.cells #[.string q.name, .slice Av nv cv, .int .i64 q.guard.kind, .int .i64 q.guard.num, .slice Ag mg cg, .int .i64 q.join, .int .i64 q.split, .slice Ai ni ci, .slice Ao no co, .slice Ac nc cc, .int .i64 q.after, .int .i64 q.m0, .int .i64 q.m1, .int .i64 q.m2] 53))
  have b0 := cell_kept HB1.out h0.out
  go_enter Tryz.func56, Tryz.ntmps56
  go_wp2
  go_ret
  exact ⟨rfl, HB1.out⟩
set_option maxRecDepth 100000 in
set_option maxHeartbeats 1000000 in
theorem ck_var1 (q : Vr)  (g : Nat) (nm : ByteArray) (w : World) (h0 : Hid (w.cell? ⟨g, 0, none⟩ = some (.string nm))) :
    Calls Tryz.prog 108 #[q.val, .pointer (some ⟨g, 0, none⟩)] w fun e w' => e = .returned (.bool (sameS q.name nm)) ∧ Below w.heap.size w w' := by
  have HB1 := Lib.hid (alr w (.cells #[.string q.name, .int .i64 q.colour] 56))
  have b0 := cell_kept HB1.out h0.out
  go_enter Tryz.func108, Tryz.ntmps108
  go_wp2
  go_ret
  exact ⟨rfl, HB1.out⟩
set_option maxHeartbeats 1000000 in
theorem ck_place2 (g : Nat) (nm : ByteArray) (w : World) (ht : Hid (TabOk w)) (h0 : Hid (w.cell? ⟨g, 0, none⟩ = some (.string nm))) :
    Calls Tryz.prog 39 #[.pointer (some ⟨g, 0, none⟩)] w fun e w' => e = .returned (.bool (freeB nm)) ∧ Below w.heap.size w w' := by
  have b0 := h0.out
  have cF := Lib.hid (ck_free nm w ht)
  obtain ⟨x, hx⟩ : ∃ x, x = freeB nm := ⟨_, rfl⟩
  rw [← hx] at cF ⊢
  clear hx
  go_enter Tryz.func39, Tryz.ntmps39
  go_wp2_with (go_at_call 40; refine cF.out.mono ?_; rintro e w2 ⟨rfl, hb⟩; have HB := Lib.hid hb; clear hb)
  go_ret
  exact ⟨rfl, HB.out⟩
set_option maxHeartbeats 1000000 in
theorem ck_task2 (g : Nat) (nm : ByteArray) (w : World) (ht : Hid (TabOk w)) (h0 : Hid (w.cell? ⟨g, 0, none⟩ = some (.string nm))) :
    Calls Tryz.prog 57 #[.pointer (some ⟨g, 0, none⟩)] w fun e w' => e = .returned (.bool (freeB nm)) ∧ Below w.heap.size w w' := by
  have b0 := h0.out
  have cF := Lib.hid (ck_free nm w ht)
  obtain ⟨x, hx⟩ : ∃ x, x = freeB nm := ⟨_, rfl⟩
  rw [← hx] at cF ⊢
  clear hx
  go_enter Tryz.func57, Tryz.ntmps57
  go_wp2_with (go_at_call 40; refine cF.out.mono ?_; rintro e w2 ⟨rfl, hb⟩; have HB := Lib.hid hb; clear hb)
  go_ret
  exact ⟨rfl, HB.out⟩
set_option maxHeartbeats 1000000 in
theorem ck_var2 (g : Nat) (nm : ByteArray) (w : World) (ht : Hid (TabOk w)) (h0 : Hid (w.cell? ⟨g, 0, none⟩ = some (.string nm))) :
    Calls Tryz.prog 109 #[.pointer (some ⟨g, 0, none⟩)] w fun e w' => e = .returned (.bool (freeB nm)) ∧ Below w.heap.size w w' := by
  have b0 := h0.out
  have cF := Lib.hid (ck_free nm w ht)
  obtain ⟨x, hx⟩ : ∃ x, x = freeB nm := ⟨_, rfl⟩
  rw [← hx] at cF ⊢
  clear hx
  go_enter Tryz.func109, Tryz.ntmps109
  go_wp2_with (go_at_call 40; refine cF.out.mono ?_; rintro e w2 ⟨rfl, hb⟩; have HB := Lib.hid hb; clear hb)
  go_ret
  exact ⟨rfl, HB.out⟩
set_option maxRecDepth 100000 in
set_option maxHeartbeats 2000000 in
theorem ck_place3 (L : List Pl) (A : Option Addr) (n c k g g2 g3 gp : Nat) (nm : ByteArray) (w : World) (hk : k < n) (hB : Hid (w.cell? ⟨g, 1, none⟩ = some (.slice A n c))) (h2 : Hid (w.cell? ⟨g2, 0, none⟩ = some (.int .i64 (k : Int)))) (h3 : Hid (w.cell? ⟨g3, 0, none⟩ = some (.func (.func 38) #[] #[.pointer (some ⟨gp, 0, none⟩)])))
    (h4 : Hid (w.cell? ⟨gp, 0, none⟩ = some (.string nm))) (hS : Hid (SlOf 3 PlAt w A n c L)) :
    Calls Tryz.prog 41 #[.pointer (some ⟨g, 0, none⟩), .pointer (some ⟨g2, 0, none⟩), .pointer (some ⟨g3, 0, none⟩)] w fun e w' => e = .returned (.bool (!(L.take k).any fun x => decide (x.name = nm))) ∧ Below w.heap.size w w' := by
  have hc := hS.out.1
  have hc9 := hS.out.2.1
  have hl := hS.out.2.2.1
  have k0 : (0 : Int) ≤ (k : Int) := by omega
  have k2 : (k : Int) ≤ (c : Int) := by omega
  have k3 : (k : Int) ≤ (n : Int) := by omega
  have cC := Lib.hid (fun W (hb : Below w.heap.size w W) => ck_contains_pl (fun j => sameS ((L.take k).getD j default).name nm) gp A k c (L.take k) W (by omega) (Lib.hid (SlOf.below PlAt.stays (hS.out.take (by omega)) hb)) (Lib.hid fun j _ W' hb' b o A' n' c' _ => ck_place1 _ A' n' c' gp nm W' (Lib.hid (cell_kept (below_then hb hb') h4.out))))
  have hlt : (L.take k).length = k := by rw [List.length_take]; omega
  have e1 : anyK (fun j => sameS ((L.take k).getD j default).name nm) 0 k = (L.take k).any fun x => decide (x.name = nm) := by
    have := anyK_any default (fun x : Pl => sameS x.name nm) (L.take k)
    rw [hlt] at this
    rw [this]
    congr 1
    funext x
    exact sameS_eq _ _
  rw [e1] at cC
  obtain ⟨x, hx⟩ : ∃ x, x = (L.take k).any fun x => decide (x.name = nm) := ⟨_, rfl⟩
  rw [← hx] at cC ⊢
  clear hx e1 hlt hl
  have BD0 : Hid (Below w.heap.size w w.drew) := Lib.hid (below_drewN' (Below.refl _ _) 1)
  have HC := Lib.hid (show ∀ W, Below w.heap.size w W → W.cell? ⟨g, 1, none⟩ = some (.slice A n c) ∧ W.cell? ⟨g2, 0, none⟩ = some (.int .i64 (k : Int)) ∧ W.cell? ⟨g3, 0, none⟩ = some (.func (.func 38) #[] #[.pointer (some ⟨gp, 0, none⟩)]) from fun W h => ⟨cell_kept h hB.out, cell_kept h h2.out, cell_kept h h3.out⟩)
  go_enter Tryz.func41, Tryz.ntmps41
  go_upto_region 1 with fail
  go_region_held3 (fun W => W.cell? ⟨g, 1, none⟩ = some (.slice A n c) ∧ W.cell? ⟨g2, 0, none⟩ = some (.int .i64 (k : Int)) ∧ W.cell? ⟨g3, 0, none⟩ = some (.func (.func 38) #[] #[.pointer (some ⟨gp, 0, none⟩)]))
    (first | exact HC.out _ BD1.out | exact HC.out _ BD0.out)
    (first | (go_at_call 42; refine (cC.out _ BD0.out).mono ?_; rintro e w2 ⟨rfl, hb⟩; have BD1 := Lib.hid (below_then BD0.out hb); clear hb))
  all_goals
    go_wp2_with fail
    go_ret
    exact ⟨rfl, BD1.out⟩
set_option maxRecDepth 100000 in
set_option maxHeartbeats 2000000 in
theorem ck_task3 (L : List Tk) (A : Option Addr) (n c k g g2 g3 gp : Nat) (nm : ByteArray) (w : World) (hk : k < n) (hB : Hid (w.cell? ⟨g, 2, none⟩ = some (.slice A n c))) (h2 : Hid (w.cell? ⟨g2, 0, none⟩ = some (.int .i64 (k : Int)))) (h3 : Hid (w.cell? ⟨g3, 0, none⟩ = some (.func (.func 56) #[] #[.pointer (some ⟨gp, 0, none⟩)])))
    (h4 : Hid (w.cell? ⟨gp, 0, none⟩ = some (.string nm))) (hS : Hid (SlOf 14 TkAt w A n c L)) :
    Calls Tryz.prog 58 #[.pointer (some ⟨g, 0, none⟩), .pointer (some ⟨g2, 0, none⟩), .pointer (some ⟨g3, 0, none⟩)] w fun e w' => e = .returned (.bool (!(L.take k).any fun x => decide (x.name = nm))) ∧ Below w.heap.size w w' := by
  have hc := hS.out.1
  have hc9 := hS.out.2.1
  have hl := hS.out.2.2.1
  have k0 : (0 : Int) ≤ (k : Int) := by omega
  have k2 : (k : Int) ≤ (c : Int) := by omega
  have k3 : (k : Int) ≤ (n : Int) := by omega
  have cC := Lib.hid (fun W (hb : Below w.heap.size w W) => ck_contains_tk (fun j => sameS ((L.take k).getD j default).name nm) gp A k c (L.take k) W (by omega) (Lib.hid (SlOf.below TkAt.stays (hS.out.take (by omega)) hb)) (Lib.hid fun j _ W' hb' b o Av nv cv Ag mg cg Ai ni ci Ao no co Ac nc cc _ => ck_task1 _ Av nv cv Ag mg cg Ai ni ci Ao no co Ac nc cc gp nm W' (Lib.hid (cell_kept (below_then hb hb') h4.out))))
  have hlt : (L.take k).length = k := by rw [List.length_take]; omega
  have e1 : anyK (fun j => sameS ((L.take k).getD j default).name nm) 0 k = (L.take k).any fun x => decide (x.name = nm) := by
    have := anyK_any default (fun x : Tk => sameS x.name nm) (L.take k)
    rw [hlt] at this
    rw [this]
    congr 1
    funext x
    exact sameS_eq _ _
  rw [e1] at cC
  obtain ⟨x, hx⟩ : ∃ x, x = (L.take k).any fun x => decide (x.name = nm) := ⟨_, rfl⟩
  rw [← hx] at cC ⊢
  clear hx e1 hlt hl
  have BD0 : Hid (Below w.heap.size w w.drew) := Lib.hid (below_drewN' (Below.refl _ _) 1)
  have HC := Lib.hid (show ∀ W, Below w.heap.size w W → W.cell? ⟨g, 2, none⟩ = some (.slice A n c) ∧ W.cell? ⟨g2, 0, none⟩ = some (.int .i64 (k : Int)) ∧ W.cell? ⟨g3, 0, none⟩ = some (.func (.func 56) #[] #[.pointer (some ⟨gp, 0, none⟩)]) from fun W h => ⟨cell_kept h hB.out, cell_kept h h2.out, cell_kept h h3.out⟩)
  go_enter Tryz.func58, Tryz.ntmps58
  go_upto_region 1 with fail
  go_region_held3 (fun W => W.cell? ⟨g, 2, none⟩ = some (.slice A n c) ∧ W.cell? ⟨g2, 0, none⟩ = some (.int .i64 (k : Int)) ∧ W.cell? ⟨g3, 0, none⟩ = some (.func (.func 56) #[] #[.pointer (some ⟨gp, 0, none⟩)]))
    (first | exact HC.out _ BD1.out | exact HC.out _ BD0.out)
    (first | (go_at_call 59; refine (cC.out _ BD0.out).mono ?_; rintro e w2 ⟨rfl, hb⟩; have BD1 := Lib.hid (below_then BD0.out hb); clear hb))
  all_goals
    go_wp2_with fail
    go_ret
    exact ⟨rfl, BD1.out⟩
set_option maxRecDepth 100000 in
set_option maxHeartbeats 2000000 in
theorem ck_var3 (L : List Vr) (A : Option Addr) (n c k g g2 g3 gp : Nat) (nm : ByteArray) (w : World) (hk : k < n) (hB : Hid (w.cell? ⟨g, 0, none⟩ = some (.slice A n c))) (h2 : Hid (w.cell? ⟨g2, 0, none⟩ = some (.int .i64 (k : Int)))) (h3 : Hid (w.cell? ⟨g3, 0, none⟩ = some (.func (.func 108) #[] #[.pointer (some ⟨gp, 0, none⟩)])))
    (h4 : Hid (w.cell? ⟨gp, 0, none⟩ = some (.string nm))) (hS : Hid (SlOf 2 VrAt w A n c L)) :
    Calls Tryz.prog 110 #[.pointer (some ⟨g, 0, none⟩), .pointer (some ⟨g2, 0, none⟩), .pointer (some ⟨g3, 0, none⟩)] w fun e w' => e = .returned (.bool (!(L.take k).any fun x => decide (x.name = nm))) ∧ Below w.heap.size w w' := by
  have hc := hS.out.1
  have hc9 := hS.out.2.1
  have hl := hS.out.2.2.1
  have k0 : (0 : Int) ≤ (k : Int) := by omega
  have k2 : (k : Int) ≤ (c : Int) := by omega
  have k3 : (k : Int) ≤ (n : Int) := by omega
  have cC := Lib.hid (fun W (hb : Below w.heap.size w W) => ck_contains_vr (fun j => sameS ((L.take k).getD j default).name nm) gp A k c (L.take k) W (by omega) (Lib.hid (SlOf.below VrAt.stays (hS.out.take (by omega)) hb)) (Lib.hid fun j _ W' hb' b o _ => ck_var1 _ gp nm W' (Lib.hid (cell_kept (below_then hb hb') h4.out))))
  have hlt : (L.take k).length = k := by rw [List.length_take]; omega
  have e1 : anyK (fun j => sameS ((L.take k).getD j default).name nm) 0 k = (L.take k).any fun x => decide (x.name = nm) := by
    have := anyK_any default (fun x : Vr => sameS x.name nm) (L.take k)
    rw [hlt] at this
    rw [this]
    congr 1
    funext x
    exact sameS_eq _ _
  rw [e1] at cC
  obtain ⟨x, hx⟩ : ∃ x, x = (L.take k).any fun x => decide (x.name = nm) := ⟨_, rfl⟩
  rw [← hx] at cC ⊢
  clear hx e1 hlt hl
  have BD0 : Hid (Below w.heap.size w w.drew) := Lib.hid (below_drewN' (Below.refl _ _) 1)
  have HC := Lib.hid (show ∀ W, Below w.heap.size w W → W.cell? ⟨g, 0, none⟩ = some (.slice A n c) ∧ W.cell? ⟨g2, 0, none⟩ = some (.int .i64 (k : Int)) ∧ W.cell? ⟨g3, 0, none⟩ = some (.func (.func 108) #[] #[.pointer (some ⟨gp, 0, none⟩)]) from fun W h => ⟨cell_kept h hB.out, cell_kept h h2.out, cell_kept h h3.out⟩)
  go_enter Tryz.func110, Tryz.ntmps110
  go_upto_region 1 with fail
  go_region_held3 (fun W => W.cell? ⟨g, 0, none⟩ = some (.slice A n c) ∧ W.cell? ⟨g2, 0, none⟩ = some (.int .i64 (k : Int)) ∧ W.cell? ⟨g3, 0, none⟩ = some (.func (.func 108) #[] #[.pointer (some ⟨gp, 0, none⟩)]))
    (first | exact HC.out _ BD1.out | exact HC.out _ BD0.out)
    (first | (go_at_call 111; refine (cC.out _ BD0.out).mono ?_; rintro e w2 ⟨rfl, hb⟩; have BD1 := Lib.hid (below_then BD0.out hb); clear hb))
  all_goals
    go_wp2_with fail
    go_ret
    exact ⟨rfl, BD1.out⟩
set_option maxHeartbeats 1000000 in
theorem ck_place4 (A : Option Addr) (n c : Nat) (k : Int) (g g2 : Nat) (w : World) (hn : n ≤ 9223372036854775807) (h0 : Hid (w.cell? ⟨g, 0, none⟩ = some (.slice A n c))) (h1 : Hid (w.cell? ⟨g2, 1, none⟩ = some (.int .i64 k))) :
    Calls Tryz.prog 43 #[.pointer (some ⟨g, 0, none⟩), .pointer (some ⟨g2, 0, none⟩)] w fun e w' => e = .returned (.bool (amongB n k)) ∧ Below w.heap.size w w' := by
  have b0 := h0.out
  have b1 := h1.out
  have cA := Lib.hid (ck_among_col A n c k w hn)
  obtain ⟨x, hx⟩ : ∃ x, x = amongB n k := ⟨_, rfl⟩
  rw [← hx] at cA ⊢
  clear hx
  go_enter Tryz.func43, Tryz.ntmps43
  go_wp2_with (go_at_call 44; refine cA.out.mono ?_; rintro e w2 ⟨rfl, rfl⟩)
  go_ret
  exact ⟨rfl, Below.refl _ _⟩
set_option maxHeartbeats 1000000 in
theorem ck_var4 (A : Option Addr) (n c : Nat) (k : Int) (g g2 : Nat) (w : World) (hn : n ≤ 9223372036854775807) (h0 : Hid (w.cell? ⟨g, 0, none⟩ = some (.slice A n c))) (h1 : Hid (w.cell? ⟨g2, 1, none⟩ = some (.int .i64 k))) :
    Calls Tryz.prog 112 #[.pointer (some ⟨g, 0, none⟩), .pointer (some ⟨g2, 0, none⟩)] w fun e w' => e = .returned (.bool (amongB n k)) ∧ Below w.heap.size w w' := by
  have b0 := h0.out
  have b1 := h1.out
  have cA := Lib.hid (ck_among_col A n c k w hn)
  obtain ⟨x, hx⟩ : ∃ x, x = amongB n k := ⟨_, rfl⟩
  rw [← hx] at cA ⊢
  clear hx
  go_enter Tryz.func112, Tryz.ntmps112
  go_wp2_with (go_at_call 44; refine cA.out.mono ?_; rintro e w2 ⟨rfl, rfl⟩)
  go_ret
  exact ⟨rfl, Below.refl _ _⟩
set_option maxHeartbeats 1000000 in
theorem ck_arc1 (A : Option Addr) (n c : Nat) (k : Int) (g g2 : Nat) (w : World) (hn : n ≤ 9223372036854775807) (h0 : Hid (w.cell? ⟨g, 1, none⟩ = some (.slice A n c))) (h1 : Hid (w.cell? ⟨g2, 0, none⟩ = some (.int .i64 k))) :
    Calls Tryz.prog 115 #[.pointer (some ⟨g, 0, none⟩), .pointer (some ⟨g2, 0, none⟩)] w fun e w' => e = .returned (.bool (amongB n k)) ∧ Below w.heap.size w w' := by
  have b0 := h0.out
  have b1 := h1.out
  have cA := Lib.hid (ck_among_pl A n c k w hn)
  obtain ⟨x, hx⟩ : ∃ x, x = amongB n k := ⟨_, rfl⟩
  rw [← hx] at cA ⊢
  clear hx
  go_enter Tryz.func115, Tryz.ntmps115
  go_wp2_with (go_at_call 29; refine cA.out.mono ?_; rintro e w2 ⟨rfl, rfl⟩)
  go_ret
  exact ⟨rfl, Below.refl _ _⟩
set_option maxHeartbeats 1000000 in
theorem ck_can1 (A : Option Addr) (n c : Nat) (k : Int) (g g2 : Nat) (w : World) (hn : n ≤ 9223372036854775807) (h0 : Hid (w.cell? ⟨g, 1, none⟩ = some (.slice A n c))) (h1 : Hid (w.cell? ⟨g2, 0, none⟩ = some (.int .i64 k))) :
    Calls Tryz.prog 119 #[.pointer (some ⟨g, 0, none⟩), .pointer (some ⟨g2, 0, none⟩)] w fun e w' => e = .returned (.bool (amongB n k)) ∧ Below w.heap.size w w' := by
  have b0 := h0.out
  have b1 := h1.out
  have cA := Lib.hid (ck_among_pl A n c k w hn)
  obtain ⟨x, hx⟩ : ∃ x, x = amongB n k := ⟨_, rfl⟩
  rw [← hx] at cA ⊢
  clear hx
  go_enter Tryz.func119, Tryz.ntmps119
  go_wp2_with (go_at_call 29; refine cA.out.mono ?_; rintro e w2 ⟨rfl, rfl⟩)
  go_ret
  exact ⟨rfl, Below.refl _ _⟩
set_option maxHeartbeats 1000000 in
theorem ck_place5 (A : Option Addr) (n c : Nat) (l : Row) (g : Nat) (w : World) (h0 : Hid (w.cell? ⟨g, 2, none⟩ = some (.slice A n c))) (hS : Hid (Sl w (.slice A n c) n 2 (pairCells l))) :
    Calls Tryz.prog 45 #[.pointer (some ⟨g, 0, none⟩)] w fun e w' => e = .returned (.bool (rightB l)) ∧ Below w.heap.size w w' := by
  have b0 := h0.out
  have cA := Lib.hid (bag_Right A n c l w hS)
  obtain ⟨x, hx⟩ : ∃ x, x = rightB l := ⟨_, rfl⟩
  rw [← hx] at cA ⊢
  clear hx
  go_enter Tryz.func45, Tryz.ntmps45
  go_wp2_with (go_at_call 46; refine cA.out.mono ?_; rintro e w2 ⟨rfl, hb⟩; have HB := Lib.hid hb; clear hb)
  go_ret
  exact ⟨rfl, HB.out⟩
set_option maxHeartbeats 1000000 in
theorem ck_place61 (a b s : Int) (g : Nat) (w : World) (h0 : Hid (w.cell? ⟨g, 0, none⟩ = some (.int .i64 s))) :
    Calls Tryz.prog 50 #[.agg #[.int .i64 a, .int .i64 b], .pointer (some ⟨g, 0, none⟩)] w fun e w' => e = .returned (.bool (decide (s ≤ a))) ∧ Below w.heap.size w w' := by
  have HB1 := Lib.hid (alr w (.cells #[.int .i64 a, .int .i64 b] 83))
  have b0 := cell_kept HB1.out h0.out
  by_cases h : s ≤ a
  all_goals
    go_enter Tryz.func50, Tryz.ntmps50
    go_wp2
    go_ret
    exact ⟨ret1b (by simp [h]), HB1.out⟩
set_option maxRecDepth 100000 in
set_option maxHeartbeats 2000000 in
theorem ck_place6 (L : List Col) (A1 : Option Addr) (n1 c1 : Nat) (cl : Int) (A : Option Addr) (n c : Nat) (l : Row) (g g2 : Nat) (w : World) (h0 : Hid (w.cell? ⟨g, 0, none⟩ = some (.slice A1 n1 c1))) (h1 : Hid (w.cell? ⟨g2, 1, none⟩ = some (.int .i64 cl))) (h2 : Hid (w.cell? ⟨g2, 2, none⟩ = some (.slice A n c)))
    (hC : Hid (Cols w A1 n1 c1 L)) (hS : Hid (Sl w (.slice A n c) n 2 (pairCells l))) :
    Calls Tryz.prog 47 #[.pointer (some ⟨g, 0, none⟩), .pointer (some ⟨g2, 0, none⟩)] w fun e w' => e = .returned (.bool (!l.any fun r => decide (sizeAt L cl ≤ r.1))) ∧ Below w.heap.size w w' := by
  have b0 := h0.out
  have b1 := h1.out
  have hn9 := hS.out.bound
  have hl : l.length = n := by have := hS.out.len; rw [pairCells_len] at this; omega
  have cA := Lib.hid (col_Size A1 n1 c1 L cl w hC)
  obtain ⟨s, hs⟩ : ∃ s, s = sizeAt L cl := ⟨_, rfl⟩
  rw [← hs] at cA ⊢
  have cC := Lib.hid (fun W gs (hb : Below w.heap.size w W) (hg : W.cell? ⟨gs, 0, none⟩ = some (.int .i64 s)) => ck_contains_pair (fun j => decide (s ≤ (l.getD j (0, 0)).1)) gs A n c l W hn9 (Lib.hid (hS.out.below hb)) (Lib.hid fun j _ W' hb' => ck_place61 _ _ s gs W' (Lib.hid (cell_kept hb' hg))))
  have e1 : anyK (fun j => decide (s ≤ (l.getD j (0, 0)).1)) 0 n = l.any fun r => decide (s ≤ r.1) := by
    have := anyK_any (0, 0) (fun x : Int × Int => decide (s ≤ x.1)) l
    rw [hl] at this
    exact this
  rw [e1] at cC
  obtain ⟨x, hx⟩ : ∃ x, x = l.any fun r => decide (s ≤ r.1) := ⟨_, rfl⟩
  rw [← hx] at cC ⊢
  clear hs hx e1 hl
  go_enter Tryz.func47, Tryz.ntmps47
  go_wp2_with fail
  refine cA.out.mono ?_
  rintro e w2 ⟨rfl, hb⟩
  have HB := Lib.hid hb
  clear hb
  have hal := alr w2 (.cells #[.int .i64 s] 3)
  have q2 := cell_kept (below_then HB.out hal) h2.out
  have HB2 := Lib.hid (below_then HB.out hal)
  have q3 := cell_new w2 #[.int .i64 s] 3 0 _ rfl
  have CC := Lib.hid (cC.out _ w2.heap.size HB2.out q3)
  clear cC hal q3
  go_wp2_with (go_at_call 49; refine CC.out.mono ?_; rintro e w3 ⟨rfl, hb⟩; have HB3 := Lib.hid (below_then HB2.out hb); clear hb)
  go_ret
  exact ⟨rfl, HB3.out⟩
section
variable {A1 A2 A3 : Option Addr} {n1 c1 n2 c2 n3 c3 : Nat} {N : Nt}
set_option maxRecDepth 100000 in
set_option maxHeartbeats 4000000 in
theorem ck_Place_in (k : Nat) (w : World) (hk : k < n2) (ht : Hid (TabOk w)) (hN : Hid (NetAt w A1 n1 c1 A2 n2 c2 A3 n3 c3 N)) :
    Calls Tryz.prog 11 #[netV A1 n1 c1 A2 n2 c2 A3 n3 c3 N.from_ N.to_, .int .i64 (k : Int)] w fun e w' => e = .returned (.int .i64 (placeE N k)) ∧ Below w.heap.size w w' := by
  obtain ⟨b, off, eA, _⟩ := hN.out.pls.at_ hk
  subst eA
  have hn1 := Nat.le_trans hN.out.cols.1 hN.out.cols.2.1
  have hn2 := Nat.le_trans hN.out.pls.1 hN.out.pls.2.1
  have hlc := hN.out.cols.2.2.1
  have hlp := hN.out.pls.2.2.1
  obtain ⟨E, hEE⟩ : ∃ E, E = placeE N k := ⟨_, rfl⟩
  rw [← hEE]
  unfold placeE at hEE
  rw [hlp, hlc, if_pos (by unfold amongB; simp; omega), Int.toNat_natCast] at hEE
  have HA := fun W => Lib.hid (ck_among_pl (some ⟨b, off, none⟩) n2 c2 (k : Int) W hn2)
  rw [show amongB n2 (k : Int) = true by unfold amongB; simp; omega] at HA
  have wa := alr w (.cells #[.slice A1 n1 c1, .slice (some ⟨b, off, none⟩) n2 c2, .slice A3 n3 c3, .int .i64 N.from_, .int .i64 N.to_] 26)
  obtain ⟨b', off', hbb, A', n', c', hE⟩ := ((hN.out.below wa).below (alr _ (.cells #[.int .i64 (k : Int)] 3))).pls.at_ hk
  injection hbb with hbb
  injection hbb with hb1 hb2
  subst hb1
  subst hb2
  obtain ⟨q, hq⟩ : ∃ q, q = N.pls.getD k default := ⟨_, rfl⟩
  rw [← hq] at hEE hE
  have hsl := Lib.hid hE.sl
  have e0 := hE.c0
  have e1 := hE.c1
  have e2 := hE.c2
  have HE := Lib.hid hEE
  have k0 : (0 : Int) ≤ (k : Int) := by omega
  have k1 : (k : Int) < (n2 : Int) := by omega
  have SZ1 := Lib.hid (show (w.alloc (.cells #[.slice A1 n1 c1, .slice (some ⟨b, off, none⟩) n2 c2, .slice A3 n3 c3, .int .i64 N.from_, .int .i64 N.to_] 26)).heap.size = w.heap.size + 1 from World.size_alloc _ _)
  have SZ2 := Lib.hid (show ((w.alloc (.cells #[.slice A1 n1 c1, .slice (some ⟨b, off, none⟩) n2 c2, .slice A3 n3 c3, .int .i64 N.from_, .int .i64 N.to_] 26)).alloc (.cells #[.int .i64 (k : Int)] 3)).heap.size = w.heap.size + 1 + 1 by rw [World.size_alloc, World.size_alloc])
  have SZ3 := Lib.hid (show (((w.alloc (.cells #[.slice A1 n1 c1, .slice (some ⟨b, off, none⟩) n2 c2, .slice A3 n3 c3, .int .i64 N.from_, .int .i64 N.to_] 26)).alloc (.cells #[.int .i64 (k : Int)] 3)).alloc (.cells #[.string q.name, .int .i64 q.colour, .slice A' n' c'] 45)).heap.size = w.heap.size + 1 + 1 + 1 by rw [World.size_alloc, World.size_alloc, World.size_alloc])
  clear hq hEE hlc hlp hE wa
  go_enter Tryz.func11, Tryz.ntmps11
  go_wp2_with fail
  refine (HA _).out.mono ?_
  rintro e w0 ⟨rfl, rfl⟩
  go_upto_region 5 with fail
  obtain ⟨w1, hw1⟩ : ∃ x, x = (((w.alloc (.cells #[.slice A1 n1 c1, .slice (some ⟨b, off, none⟩) n2 c2, .slice A3 n3 c3, .int .i64 N.from_, .int .i64 N.to_] 26)).alloc (.cells #[.int .i64 (k : Int)] 3)).alloc (.cells #[.string q.name, .int .i64 q.colour, .slice A' n' c'] 45)).alloc (.cells #[.func (.func 38) #[] #[.pointer (some ⟨w.heap.size + 1 + 1, 0, none⟩)]] 77) := ⟨_, rfl⟩
  rw [← hw1]
  have HB1 := Lib.hid (show Below w.heap.size w w1 by rw [hw1]; exact below_then (below_then (below_then (alr w _) (alr _ _)) (alr _ _)) (alr _ _))
  have HBB := Lib.hid (show Below ((w.alloc (.cells #[.slice A1 n1 c1, .slice (some ⟨b, off, none⟩) n2 c2, .slice A3 n3 c3, .int .i64 N.from_, .int .i64 N.to_] 26)).alloc (.cells #[.int .i64 (k : Int)] 3)).heap.size ((w.alloc (.cells #[.slice A1 n1 c1, .slice (some ⟨b, off, none⟩) n2 c2, .slice A3 n3 c3, .int .i64 N.from_, .int .i64 N.to_] 26)).alloc (.cells #[.int .i64 (k : Int)] 3)) w1 by rw [hw1]; exact below_then (alr _ _) (alr _ _))
  have NB1 := Lib.hid (show NBox w1 w.heap.size A1 n1 c1 (some ⟨b, off, none⟩) n2 c2 A3 n3 c3 N.from_ N.to_ by rw [hw1]; exact (((NBox.new w A1 n1 c1 (some ⟨b, off, none⟩) n2 c2 A3 n3 c3 N.from_ N.to_ 26).below (alr _ _)).below (alr _ _)).below (alr _ _))
  have K1 := Lib.hid (show w1.cell? ⟨w.heap.size + 1, 0, none⟩ = some (.int .i64 (k : Int)) by rw [hw1]; exact cell_kept (alr _ _) (cell_kept (alr _ _) (SZ1.out ▸ cell_new (w.alloc (.cells #[.slice A1 n1 c1, .slice (some ⟨b, off, none⟩) n2 c2, .slice A3 n3 c3, .int .i64 N.from_, .int .i64 N.to_] 26)) #[.int .i64 (k : Int)] 3 0 _ rfl)))
  have P0 := Lib.hid (show w1.cell? ⟨w.heap.size + 1 + 1, 0, none⟩ = some (.string q.name) by rw [hw1]; exact cell_kept (alr _ _) (SZ2.out ▸ cell_new ((w.alloc (.cells #[.slice A1 n1 c1, .slice (some ⟨b, off, none⟩) n2 c2, .slice A3 n3 c3, .int .i64 N.from_, .int .i64 N.to_] 26)).alloc (.cells #[.int .i64 (k : Int)] 3)) #[.string q.name, .int .i64 q.colour, .slice A' n' c'] 45 0 _ rfl))
  have P1 := Lib.hid (show w1.cell? ⟨w.heap.size + 1 + 1, 1, none⟩ = some (.int .i64 q.colour) by rw [hw1]; exact cell_kept (alr _ _) (SZ2.out ▸ cell_new ((w.alloc (.cells #[.slice A1 n1 c1, .slice (some ⟨b, off, none⟩) n2 c2, .slice A3 n3 c3, .int .i64 N.from_, .int .i64 N.to_] 26)).alloc (.cells #[.int .i64 (k : Int)] 3)) #[.string q.name, .int .i64 q.colour, .slice A' n' c'] 45 1 _ rfl))
  have P2 := Lib.hid (show w1.cell? ⟨w.heap.size + 1 + 1, 2, none⟩ = some (.slice A' n' c') by rw [hw1]; exact cell_kept (alr _ _) (SZ2.out ▸ cell_new ((w.alloc (.cells #[.slice A1 n1 c1, .slice (some ⟨b, off, none⟩) n2 c2, .slice A3 n3 c3, .int .i64 N.from_, .int .i64 N.to_] 26)).alloc (.cells #[.int .i64 (k : Int)] 3)) #[.string q.name, .int .i64 q.colour, .slice A' n' c'] 45 2 _ rfl))
  have FN := Lib.hid (show w1.cell? ⟨w.heap.size + 1 + 1 + 1, 0, none⟩ = some (.func (.func 38) #[] #[.pointer (some ⟨w.heap.size + 1 + 1, 0, none⟩)]) by rw [hw1]; exact SZ3.out ▸ cell_new (((w.alloc (.cells #[.slice A1 n1 c1, .slice (some ⟨b, off, none⟩) n2 c2, .slice A3 n3 c3, .int .i64 N.from_, .int .i64 N.to_] 26)).alloc (.cells #[.int .i64 (k : Int)] 3)).alloc (.cells #[.string q.name, .int .i64 q.colour, .slice A' n' c'] 45)) #[.func (.func 38) #[] #[.pointer (some ⟨w.heap.size + 1 + 1, 0, none⟩)]] 77 0 _ rfl)
  have W1 := Lib.hid hw1
  clear hw1
  go_wp2_with fail
  obtain ⟨w2, hw2⟩ : ∃ x, x = w1.alloc (.cells #[.func (.func 39) #[] #[.pointer (some ⟨w.heap.size + 1 + 1, 0, none⟩)], .int .i64 1, .func (.func 41) #[] #[.pointer (some ⟨w.heap.size, 0, none⟩), .pointer (some ⟨w.heap.size + 1, 0, none⟩), .pointer (some ⟨w.heap.size + 1 + 1 + 1, 0, none⟩)], .int .i64 5, .func (.func 43) #[] #[.pointer (some ⟨w.heap.size, 0, none⟩), .pointer (some ⟨w.heap.size + 1 + 1, 0, none⟩)], .int .i64 3, .func (.func 45) #[] #[.pointer (some ⟨w.heap.size + 1 + 1, 0, none⟩)], .int .i64 1, .func (.func 47) #[] #[.pointer (some ⟨w.heap.size, 0, none⟩), .pointer (some ⟨w.heap.size + 1 + 1, 0, none⟩)], .int .i64 8] 68) := ⟨_, rfl⟩
  rw [← hw2]
  have W2 := Lib.hid hw2
  have HB2 := Lib.hid (show Below w1.heap.size w1 w2 by rw [hw2]; exact alr _ _)
  have X0 := Lib.hid (show w2.cell? ⟨w1.heap.size, 0, none⟩ = some (.func (.func 39) #[] #[.pointer (some ⟨w.heap.size + 1 + 1, 0, none⟩)]) by rw [hw2]; exact cell_new w1 _ _ 0 _ rfl)
  have X1 := Lib.hid (show w2.cell? ⟨w1.heap.size, 1, none⟩ = some (.int .i64 1) by rw [hw2]; exact cell_new w1 _ _ 1 _ rfl)
  have X2 := Lib.hid (show w2.cell? ⟨w1.heap.size, 2, none⟩ = some (.func (.func 41) #[] #[.pointer (some ⟨w.heap.size, 0, none⟩), .pointer (some ⟨w.heap.size + 1, 0, none⟩), .pointer (some ⟨w.heap.size + 1 + 1 + 1, 0, none⟩)]) by rw [hw2]; exact cell_new w1 _ _ 2 _ rfl)
  have X3 := Lib.hid (show w2.cell? ⟨w1.heap.size, 3, none⟩ = some (.int .i64 5) by rw [hw2]; exact cell_new w1 _ _ 3 _ rfl)
  have X4 := Lib.hid (show w2.cell? ⟨w1.heap.size, 4, none⟩ = some (.func (.func 43) #[] #[.pointer (some ⟨w.heap.size, 0, none⟩), .pointer (some ⟨w.heap.size + 1 + 1, 0, none⟩)]) by rw [hw2]; exact cell_new w1 _ _ 4 _ rfl)
  have X5 := Lib.hid (show w2.cell? ⟨w1.heap.size, 5, none⟩ = some (.int .i64 3) by rw [hw2]; exact cell_new w1 _ _ 5 _ rfl)
  have X6 := Lib.hid (show w2.cell? ⟨w1.heap.size, 6, none⟩ = some (.func (.func 45) #[] #[.pointer (some ⟨w.heap.size + 1 + 1, 0, none⟩)]) by rw [hw2]; exact cell_new w1 _ _ 6 _ rfl)
  have X7 := Lib.hid (show w2.cell? ⟨w1.heap.size, 7, none⟩ = some (.int .i64 1) by rw [hw2]; exact cell_new w1 _ _ 7 _ rfl)
  have X8 := Lib.hid (show w2.cell? ⟨w1.heap.size, 8, none⟩ = some (.func (.func 47) #[] #[.pointer (some ⟨w.heap.size, 0, none⟩), .pointer (some ⟨w.heap.size + 1 + 1, 0, none⟩)]) by rw [hw2]; exact cell_new w1 _ _ 8 _ rfl)
  have X9 := Lib.hid (show w2.cell? ⟨w1.heap.size, 9, none⟩ = some (.int .i64 8) by rw [hw2]; exact cell_new w1 _ _ 9 _ rfl)
  clear hw2
  have cF := (ck_first (fun _ W => Below w2.heap.size w2 W) w2.heap.size w1.heap.size 5 5 [⟨39, #[.pointer (some ⟨w.heap.size + 1 + 1, 0, none⟩)], 1, freeB q.name⟩, ⟨41, #[.pointer (some ⟨w.heap.size, 0, none⟩), .pointer (some ⟨w.heap.size + 1, 0, none⟩), .pointer (some ⟨w.heap.size + 1 + 1 + 1, 0, none⟩)], 5, (!(N.pls.take k).any fun x => decide (x.name = q.name))⟩, ⟨43, #[.pointer (some ⟨w.heap.size, 0, none⟩), .pointer (some ⟨w.heap.size + 1 + 1, 0, none⟩)], 3, amongB n1 q.colour⟩, ⟨45, #[.pointer (some ⟨w.heap.size + 1 + 1, 0, none⟩)], 1, rightB q.first⟩, ⟨47, #[.pointer (some ⟨w.heap.size, 0, none⟩), .pointer (some ⟨w.heap.size + 1 + 1, 0, none⟩)], 8, (!q.first.any fun r => decide (sizeAt N.cols q.colour ≤ r.1))⟩] w2 rfl (by omega) (Lib.hid (Below.refl _ _)) (Lib.hid ⟨enters_of Tryz.func39 (by kernel_rfl) rfl, fun W h => ⟨cell_kept h X0.out, cell_kept h X1.out⟩, fun W h => (ck_place2 _ q.name W (Lib.hid (ht.out.below (below_then HB1.out (below_then HB2.out h)))) (Lib.hid (cell_kept (below_then HB2.out h) P0.out))).mono fun e w' he => ⟨he.1, below_then h he.2, kept_of he.2⟩, enters_of Tryz.func41 (by kernel_rfl) rfl, fun W h => ⟨cell_kept h X2.out, cell_kept h X3.out⟩, fun W h => (ck_place3 N.pls (some ⟨b, off, none⟩) n2 c2 k _ _ _ _ q.name W hk (Lib.hid (cell_kept (below_then HB2.out h) NB1.out.c1)) (Lib.hid (cell_kept (below_then HB2.out h) K1.out)) (Lib.hid (cell_kept (below_then HB2.out h) FN.out)) (Lib.hid (cell_kept (below_then HB2.out h) P0.out)) (Lib.hid (hN.out.pls.below PlAt.stays (below_then HB1.out (below_then HB2.out h))))).mono fun e w' he => ⟨he.1, below_then h he.2, kept_of he.2⟩, enters_of Tryz.func43 (by kernel_rfl) rfl, fun W h => ⟨cell_kept h X4.out, cell_kept h X5.out⟩, fun W h => (ck_place4 A1 n1 c1 q.colour _ _ W hn1 (Lib.hid (cell_kept (below_then HB2.out h) NB1.out.c0)) (Lib.hid (cell_kept (below_then HB2.out h) P1.out))).mono fun e w' he => ⟨he.1, below_then h he.2, kept_of he.2⟩, enters_of Tryz.func45 (by kernel_rfl) rfl, fun W h => ⟨cell_kept h X6.out, cell_kept h X7.out⟩, fun W h => (ck_place5 A' n' c' q.first _ W (Lib.hid (cell_kept (below_then HB2.out h) P2.out)) (Lib.hid (hsl.out.below (below_then HBB.out (below_then HB2.out h))))).mono fun e w' he => ⟨he.1, below_then h he.2, kept_of he.2⟩, enters_of Tryz.func47 (by kernel_rfl) rfl, fun W h => ⟨cell_kept h X8.out, cell_kept h X9.out⟩, fun W h => (ck_place6 N.cols A1 n1 c1 q.colour A' n' c' q.first _ _ W (Lib.hid (cell_kept (below_then HB2.out h) NB1.out.c0)) (Lib.hid (cell_kept (below_then HB2.out h) P1.out)) (Lib.hid (cell_kept (below_then HB2.out h) P2.out)) (Lib.hid (hN.out.cols.below (below_then HB1.out (below_then HB2.out h)))) (Lib.hid (hsl.out.below (below_then HBB.out (below_then HB2.out h))))).mono fun e w' he => ⟨he.1, below_then h he.2, kept_of he.2⟩, trivial⟩) (Lib.hid fun _ _ h => h.size) (Lib.hid fun i W o h => h.alloc h.size o))
  obtain ⟨y, hy⟩ : ∃ y, y = firstQ [⟨39, #[.pointer (some ⟨w.heap.size + 1 + 1, 0, none⟩)], 1, freeB q.name⟩, ⟨41, #[.pointer (some ⟨w.heap.size, 0, none⟩), .pointer (some ⟨w.heap.size + 1, 0, none⟩), .pointer (some ⟨w.heap.size + 1 + 1 + 1, 0, none⟩)], 5, (!(N.pls.take k).any fun x => decide (x.name = q.name))⟩, ⟨43, #[.pointer (some ⟨w.heap.size, 0, none⟩), .pointer (some ⟨w.heap.size + 1 + 1, 0, none⟩)], 3, amongB n1 q.colour⟩, ⟨45, #[.pointer (some ⟨w.heap.size + 1 + 1, 0, none⟩)], 1, rightB q.first⟩, ⟨47, #[.pointer (some ⟨w.heap.size, 0, none⟩), .pointer (some ⟨w.heap.size + 1 + 1, 0, none⟩)], 8, (!q.first.any fun r => decide (sizeAt N.cols q.colour ≤ r.1))⟩] := ⟨_, rfl⟩
  rw [← hy] at cF
  have HY := Lib.hid hy
  clear hy
  refine cF.mono ?_
  rintro e w3 ⟨rfl, hb3⟩
  clear cF
  have HB3 := Lib.hid (below_then HB1.out (below_then HB2.out hb3))
  clear hb3
  go_wp2_with fail
  go_ret
  refine ⟨ret1 ?_, HB3.out⟩
  rw [HE.out, HY.out, firstQ_E]
  rfl
set_option maxRecDepth 100000 in
set_option maxHeartbeats 2000000 in
theorem ck_Place (k : Int) (w : World) (ht : Hid (TabOk w)) (hN : Hid (NetAt w A1 n1 c1 A2 n2 c2 A3 n3 c3 N)) :
    Calls Tryz.prog 11 #[netV A1 n1 c1 A2 n2 c2 A3 n3 c3 N.from_ N.to_, .int .i64 k] w fun e w' => e = .returned (.int .i64 (placeE N k)) ∧ Below w.heap.size w w' := by
  have hn2 := Nat.le_trans hN.out.pls.1 hN.out.pls.2.1
  by_cases hk : 0 ≤ k ∧ k < (n2 : Int)
  · obtain ⟨j, rfl⟩ : ∃ j : Nat, k = j := ⟨k.toNat, by omega⟩
    exact ck_Place_in j w (by omega) ht hN
  · have hlp := hN.out.pls.2.2.1
    have hf : amongB n2 k = false := by rw [← Bool.not_eq_true]; unfold amongB; simp only [Bool.and_eq_true, decide_eq_true_eq]; exact hk
    have HA := fun W => Lib.hid (ck_among_pl A2 n2 c2 k W hn2)
    have HE := Lib.hid (show placeE N k = 3 by unfold placeE; rw [hlp, hf]; rfl)
    have HB1 := Lib.hid (below_then (alr w (.cells #[.slice A1 n1 c1, .slice A2 n2 c2, .slice A3 n3 c3, .int .i64 N.from_, .int .i64 N.to_] 26)) (alr _ (.cells #[.int .i64 k] 3)))
    rw [hf] at HA
    clear hf hlp hk
    go_enter Tryz.func11, Tryz.ntmps11
    go_wp2_with (go_at_call 29; refine (HA _).out.mono ?_; rintro e w0 ⟨rfl, rfl⟩)
    go_ret
    exact ⟨ret1 HE.out.symm, HB1.out⟩
end
end Go.Proofs.YtaeeblceedklnaaGreatDoor
