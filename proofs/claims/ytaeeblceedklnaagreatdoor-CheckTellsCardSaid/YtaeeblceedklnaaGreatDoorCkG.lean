/- Package check: the questions of Task. Printed by gen_ckC.py. -/
import Derived.Test.YtaeeblceedklnaaGreatDoorCkF
import Derived.Deep.DeepCutAuto
import Derived.Deep.QuietTactic
import Derived.BigQuiet
namespace Go.Proofs.YtaeeblceedklnaaGreatDoor
open Go.RowKit
theorem eq_tri (a b c d e f : Int) (w : World) (D : Nat) : (Op.equalIn (D + 2) 51 (.agg #[.int .i64 a, .int .i64 b, .int .i64 c]) (.agg #[.int .i64 d, .int .i64 e, .int .i64 f])).run Tryz.prog w = .ok (a == d && (b == e && c == f)) w := by
  obtain ⟨i, hi, _⟩ := info_parts (P := Tryz.prog) (e := 3) (z := .int .i64 0) (size := 1) (bytes := 8) (by kernel_rfl)
  rw [run_equalIn_array w (D + 1) #[.int .i64 a, .int .i64 b, .int .i64 c] #[.int .i64 d, .int .i64 e, .int .i64 f] Tryz.underlying51 hi]
  have hc : Tryz.prog.cellsOf 3 = 1 := by kernel_rfl
  have p0 : ∀ (x y z : Int) (w : World), (part 3 #[.int .i64 x, .int .i64 y, .int .i64 z] 0).run Tryz.prog w = .ok (.int .i64 x) w := fun _ _ _ _ => by kernel_rfl
  have p1 : ∀ (x y z : Int) (w : World), (part 3 #[.int .i64 x, .int .i64 y, .int .i64 z] 1).run Tryz.prog w = .ok (.int .i64 y) w := fun _ _ _ _ => by kernel_rfl
  have p2 : ∀ (x y z : Int) (w : World), (part 3 #[.int .i64 x, .int .i64 y, .int .i64 z] 2).run Tryz.prog w = .ok (.int .i64 z) w := fun _ _ _ _ => by kernel_rfl
  have e1 : List.range 3 = [0, 1, 2] := rfl
  have q := fun (x y : Int) (w : World) => run_equalIn_int (P := Tryz.prog) w D 3 .i64 .i64 x y Tryz.underlying3
  rw [hc, e1]
  simp only [Op.eqItems, Sem.run_bind, Nat.mul_one, p0, q, Result.andThen_ok]
  rcases h : (a == d) with _ | _
  · simp
  · simp only [Bool.not_true, Bool.false_eq_true, if_false, Sem.run_bind, p1, q, Result.andThen_ok, Bool.true_and]
    rcases h2 : (b == e) with _ | _
    · simp
    · simp only [Bool.not_true, Bool.false_eq_true, if_false, Sem.run_bind, p2, q, Result.andThen_ok, Bool.true_and]
      rcases (c == f) with _ | _ <;> simp
theorem eql_tri (a b c : Int) (w : World) : (binOp .eql 51 (.agg #[.int .i64 a, .int .i64 b, .int .i64 c]) (.agg #[.int .i64 0, .int .i64 0, .int .i64 0])).run Tryz.prog w = .ok (.bool (a == 0 && (b == 0 && c == 0))) w := by
  rw [run_eql_struct, eq_tri a b c 0 0 0 w 9998]; rfl
set_option maxHeartbeats 2000000 in
theorem ck_known (k : Int) (A : Option Addr) (n c : Nat) (w : World) : Calls Tryz.prog 122 #[.int .i64 k, .slice A n c] w fun e w' => e = .returned (.bool (knownK k n)) ∧ w = w' := by
  have E := Lib.hid (show knownK k n = (decide (1 ≤ k) && (decide (k ≤ 3) && (!decide (k = 3) || decide (n ≤ 4)))) from rfl)
  obtain ⟨x, hx⟩ : ∃ x, x = knownK k n := ⟨_, rfl⟩
  rw [← hx] at E ⊢
  clear hx
  by_cases h1 : 1 ≤ k
  · have D1 := Lib.hid (decide_eq_true h1)
    by_cases h2 : k ≤ 3
    · have D2 := Lib.hid (decide_eq_true h2)
      by_cases h3 : k = 3
      · subst h3
        by_cases h4 : n ≤ 4
        all_goals
          have hx : x = decide (n ≤ 4) := by rw [E.out]; simp
          have HX := Lib.hid hx
          clear hx
          go_enter Tryz.func122, Tryz.ntmps122
          go_wp2
          go_ret
          exact ⟨ret1b (by rw [HX.out]; simp; omega), rfl⟩
      · have k1 : (k == 3) = false := by simpa using h3
        have k2 : (k != 3) = true := by simpa using h3
        have hx : x = true := by rw [E.out, D1.out, D2.out]; simp [h3]
        have HX := Lib.hid hx
        clear hx h3
        go_enter Tryz.func122, Tryz.ntmps122
        go_wp2
        go_ret
        exact ⟨ret1b HX.out.symm, rfl⟩
    · have hx : x = false := by rw [E.out]; simp [h2]
      have HX := Lib.hid hx
      clear hx
      go_enter Tryz.func122, Tryz.ntmps122
      go_wp2
      go_ret
      exact ⟨ret1b HX.out.symm, rfl⟩
  · have hx : x = false := by rw [E.out]; simp [h1]
    have HX := Lib.hid hx
    clear hx
    go_enter Tryz.func122, Tryz.ntmps122
    go_wp2
    go_ret
    exact ⟨ret1b HX.out.symm, rfl⟩
def manyZ (m0 m1 m2 : Int) : Bool := decide (m0 = 0 ∧ m1 = 0 ∧ m2 = 0) || decide (1 ≤ m0 ∧ m0 ≤ m1 ∧ m1 ≤ 16 ∧ 1 ≤ m2 ∧ m2 ≤ m1)
theorem tri_zero (a b c : Int) : (a == 0 && (b == 0 && c == 0)) = decide (a = 0 ∧ b = 0 ∧ c = 0) := by
  rw [Bool.eq_iff_iff]; simp
set_option maxRecDepth 100000 in
set_option maxHeartbeats 8000000 in
theorem ck_kinds_in (nm : ByteArray) (gk gn jo sp af m0 m1 m2 : Int) (Av : Option Addr) (nv cv : Nat) (Ag : Option Addr) (mg cg : Nat) (Ai : Option Addr) (ni ci : Nat) (Ao : Option Addr) (no co : Nat) (Ac : Option Addr) (nc cc : Nat) (w : World) :
    Calls Tryz.prog 72 #[.agg #[.string nm, .slice Av nv cv, .int .i64 gk, .int .i64 gn, .slice Ag mg cg, .int .i64 jo, .int .i64 sp, .slice Ai ni ci, .slice Ao no co, .slice Ac nc cc, .int .i64 af, .int .i64 m0, .int .i64 m1, .int .i64 m2]] w fun e w' => e = .returned (.bool (knownK jo ni && (knownK sp no && (decide (0 ≤ af) && (decide (af ≤ 65536) && manyZ m0 m1 m2))))) ∧ Below w.heap.size w w' := by
  have c1 := Lib.hid (fun W => ck_known jo Ai ni ci W)
  have c2 := Lib.hid (fun W => ck_known sp Ao no co W)
  obtain ⟨x1, hx1⟩ : ∃ x, x = knownK jo ni := ⟨_, rfl⟩
  obtain ⟨x2, hx2⟩ : ∃ x, x = knownK sp no := ⟨_, rfl⟩
  obtain ⟨x3, hx3⟩ : ∃ x, x = manyZ m0 m1 m2 := ⟨_, rfl⟩
  rw [← hx1] at c1 ⊢
  rw [← hx2] at c2 ⊢
  rw [← hx3]
  have H3 := Lib.hid hx3
  clear hx1 hx2 hx3
  obtain ⟨w1, hw1⟩ : ∃ x, x = w.alloc (.cells #[.string nm, .slice Av nv cv, .int .i64 gk, .int .i64 gn, .slice Ag mg cg, .int .i64 jo, .int .i64 sp, .slice Ai ni ci, .slice Ao no co, .slice Ac nc cc, .int .i64 af, .int .i64 m0, .int .i64 m1, .int .i64 m2] 53) := ⟨_, rfl⟩
  have b0 : w1.cell? ⟨w.heap.size, 0, none⟩ = some (.string nm) := by rw [hw1]; exact cell_new w _ _ 0 _ rfl
  have b1 : w1.cell? ⟨w.heap.size, 1, none⟩ = some (.slice Av nv cv) := by rw [hw1]; exact cell_new w _ _ 1 _ rfl
  have b2 : w1.cell? ⟨w.heap.size, 2, none⟩ = some (.int .i64 gk) := by rw [hw1]; exact cell_new w _ _ 2 _ rfl
  have b3 : w1.cell? ⟨w.heap.size, 3, none⟩ = some (.int .i64 gn) := by rw [hw1]; exact cell_new w _ _ 3 _ rfl
  have b4 : w1.cell? ⟨w.heap.size, 4, none⟩ = some (.slice Ag mg cg) := by rw [hw1]; exact cell_new w _ _ 4 _ rfl
  have b5 : w1.cell? ⟨w.heap.size, 5, none⟩ = some (.int .i64 jo) := by rw [hw1]; exact cell_new w _ _ 5 _ rfl
  have b6 : w1.cell? ⟨w.heap.size, 6, none⟩ = some (.int .i64 sp) := by rw [hw1]; exact cell_new w _ _ 6 _ rfl
  have b7 : w1.cell? ⟨w.heap.size, 7, none⟩ = some (.slice Ai ni ci) := by rw [hw1]; exact cell_new w _ _ 7 _ rfl
  have b8 : w1.cell? ⟨w.heap.size, 8, none⟩ = some (.slice Ao no co) := by rw [hw1]; exact cell_new w _ _ 8 _ rfl
  have b9 : w1.cell? ⟨w.heap.size, 9, none⟩ = some (.slice Ac nc cc) := by rw [hw1]; exact cell_new w _ _ 9 _ rfl
  have b10 : w1.cell? ⟨w.heap.size, 10, none⟩ = some (.int .i64 af) := by rw [hw1]; exact cell_new w _ _ 10 _ rfl
  have b11 : w1.cell? ⟨w.heap.size, 11, none⟩ = some (.int .i64 m0) := by rw [hw1]; exact cell_new w _ _ 11 _ rfl
  have b12 : w1.cell? ⟨w.heap.size, 12, none⟩ = some (.int .i64 m1) := by rw [hw1]; exact cell_new w _ _ 12 _ rfl
  have b13 : w1.cell? ⟨w.heap.size, 13, none⟩ = some (.int .i64 m2) := by rw [hw1]; exact cell_new w _ _ 13 _ rfl
  have HB1 := Lib.hid (show Below w.heap.size w w1 by rw [hw1]; exact alr w _)
  have HW := Lib.hid hw1.symm
  clear hw1
  have eT := fun (W : World) => eql_tri m0 m1 m2 W
  rw [tri_zero] at eT
  go_enter Tryz.func72, Tryz.ntmps72
  go_upto_region 1 with fail
  rw [HW.out]
  go_quiet (fail)
  go_upto_region 2 with fail
  go_cut [6] (fun s6 wx => s6 = .bool x3 ∧ ∃ n, wx = w1.drewN n)
  case first =>
    have HE := Lib.hid (show x3 = (decide (m0 = 0 ∧ m1 = 0 ∧ m2 = 0) || decide (1 ≤ m0 ∧ m0 ≤ m1 ∧ m1 ≤ 16 ∧ 1 ≤ m2 ∧ m2 ≤ m1)) from H3.out)
    obtain ⟨z, hz⟩ : ∃ z, z = decide (m0 = 0 ∧ m1 = 0 ∧ m2 = 0) := ⟨_, rfl⟩
    rw [← hz] at eT HE
    clear hz
    cases z with
    | true =>
      have HX := Lib.hid (show x3 = true by rw [HE.out]; rfl)
      go_wp2_with fail
      go_meet
      exact ⟨by rw [HX.out], _, rfl⟩
    | false =>
      have HX := Lib.hid (show x3 = decide (1 ≤ m0 ∧ m0 ≤ m1 ∧ m1 ≤ 16 ∧ 1 ≤ m2 ∧ m2 ≤ m1) by rw [HE.out, Bool.false_or])
      by_cases h1 : 1 ≤ m0
      · by_cases h2 : m0 ≤ m1
        · by_cases h3 : m1 ≤ 16
          · by_cases h4 : 1 ≤ m2
            · by_cases h5 : m2 ≤ m1
              all_goals
                have HY := Lib.hid h5
                go_wp2_with fail
                go_meet
                exact ⟨by rw [HX.out]; have := HY.out; simp [h1, h2, h3, h4, this], _, rfl⟩
            · have HY := Lib.hid h4
              go_wp2_with fail
              go_meet
              exact ⟨by rw [HX.out, decide_eq_false (show ¬ (1 ≤ m0 ∧ m0 ≤ m1 ∧ m1 ≤ 16 ∧ 1 ≤ m2 ∧ m2 ≤ m1) by have := HY.out; omega)], _, rfl⟩
          · have HY := Lib.hid h3
            go_wp2_with fail
            go_meet
            exact ⟨by rw [HX.out, decide_eq_false (show ¬ (1 ≤ m0 ∧ m0 ≤ m1 ∧ m1 ≤ 16 ∧ 1 ≤ m2 ∧ m2 ≤ m1) by have := HY.out; omega)], _, rfl⟩
        · have HY := Lib.hid h2
          go_wp2_with fail
          go_meet
          exact ⟨by rw [HX.out, decide_eq_false (show ¬ (1 ≤ m0 ∧ m0 ≤ m1 ∧ m1 ≤ 16 ∧ 1 ≤ m2 ∧ m2 ≤ m1) by have := HY.out; omega)], _, rfl⟩
      · have HY := Lib.hid h1
        go_wp2_with fail
        go_meet
        exact ⟨by rw [HX.out, decide_eq_false (show ¬ (1 ≤ m0 ∧ m0 ≤ m1 ∧ m1 ≤ 16 ∧ 1 ≤ m2 ∧ m2 ≤ m1) by have := HY.out; omega)], _, rfl⟩
  case rest =>
    obtain ⟨rfl, n, rfl⟩ := hcut
    have HB2 := Lib.hid (below_drewN' HB1.out n)
    cases x1 with
    | false =>
      go_wp2_with fail
      refine (c1.out _).mono ?_
      rintro e w2 ⟨rfl, rfl⟩
      go_wp2_with fail
      go_ret
      exact ⟨rfl, HB2.out⟩
    | true =>
      go_wp2_with fail
      refine (c1.out _).mono ?_
      rintro e w2 ⟨rfl, rfl⟩
      cases x2 with
      | false =>
        go_wp2_with fail
        refine (c2.out _).mono ?_
        rintro e w2 ⟨rfl, rfl⟩
        go_wp2_with fail
        go_ret
        exact ⟨rfl, HB2.out⟩
      | true =>
        by_cases h1 : 0 ≤ af
        · have d1 := Lib.hid (decide_eq_true h1)
          by_cases h2 : af ≤ 65536
          · have d2 := Lib.hid (decide_eq_true h2)
            go_wp2_with fail
            refine (c2.out _).mono ?_
            rintro e w2 ⟨rfl, rfl⟩
            go_wp2_with fail
            go_ret
            exact ⟨ret1b (by have e1 := d1.out; have e2 := d2.out; simp_all), HB2.out⟩
          · go_wp2_with fail
            refine (c2.out _).mono ?_
            rintro e w2 ⟨rfl, rfl⟩
            go_wp2_with fail
            go_ret
            exact ⟨ret1b (by simp; intros; omega), HB2.out⟩
        · go_wp2_with fail
          refine (c2.out _).mono ?_
          rintro e w2 ⟨rfl, rfl⟩
          go_wp2_with fail
          go_ret
          exact ⟨ret1b (by simp; intros; omega), HB2.out⟩
theorem ck_kinds (t : Tk) (Av : Option Addr) (nv cv : Nat) (Ag : Option Addr) (mg cg : Nat) (Ai : Option Addr) (ni ci : Nat) (Ao : Option Addr) (no co : Nat) (Ac : Option Addr) (nc cc : Nat) (w : World) (hi : t.ins.length = ni) (ho : t.outs.length = no) :
    Calls Tryz.prog 72 #[t.val Av nv cv Ag mg cg Ai ni ci Ao no co Ac nc cc] w fun e w' => e = .returned (.bool (kindsB t)) ∧ Below w.heap.size w w' := by
  have h := ck_kinds_in t.name t.guard.kind t.guard.num t.join t.split t.after t.m0 t.m1 t.m2 Av nv cv Ag mg cg Ai ni ci Ao no co Ac nc cc w
  unfold kindsB
  rw [hi, ho]
  exact h
/-- A box of a task. -/
structure TBox (w : World) (g : Nat) (Av : Option Addr) (nv cv : Nat) (Ag : Option Addr) (mg cg : Nat) (Ai : Option Addr) (ni ci : Nat) (Ao : Option Addr) (no co : Nat) (Ac : Option Addr) (nc cc : Nat) (t : Tk) : Prop where
  c0 : w.cell? ⟨g, 0, none⟩ = some (.string t.name)
  c1 : w.cell? ⟨g, 1, none⟩ = some (.slice Av nv cv)
  c2 : w.cell? ⟨g, 2, none⟩ = some (.int .i64 t.guard.kind)
  c3 : w.cell? ⟨g, 3, none⟩ = some (.int .i64 t.guard.num)
  c4 : w.cell? ⟨g, 4, none⟩ = some (.slice Ag mg cg)
  c5 : w.cell? ⟨g, 5, none⟩ = some (.int .i64 t.join)
  c6 : w.cell? ⟨g, 6, none⟩ = some (.int .i64 t.split)
  c7 : w.cell? ⟨g, 7, none⟩ = some (.slice Ai ni ci)
  c8 : w.cell? ⟨g, 8, none⟩ = some (.slice Ao no co)
  c9 : w.cell? ⟨g, 9, none⟩ = some (.slice Ac nc cc)
  c10 : w.cell? ⟨g, 10, none⟩ = some (.int .i64 t.after)
  c11 : w.cell? ⟨g, 11, none⟩ = some (.int .i64 t.m0)
  c12 : w.cell? ⟨g, 12, none⟩ = some (.int .i64 t.m1)
  c13 : w.cell? ⟨g, 13, none⟩ = some (.int .i64 t.m2)
theorem TBox.below {w w' : World} {g : Nat} {Av : Option Addr} {nv cv : Nat} {Ag : Option Addr} {mg cg : Nat} {Ai : Option Addr} {ni ci : Nat} {Ao : Option Addr} {no co : Nat} {Ac : Option Addr} {nc cc : Nat} {t : Tk} (h : TBox w g Av nv cv Ag mg cg Ai ni ci Ao no co Ac nc cc t) (hb : Below w.heap.size w w') : TBox w' g Av nv cv Ag mg cg Ai ni ci Ao no co Ac nc cc t :=
  ⟨cell_kept hb h.c0, cell_kept hb h.c1, cell_kept hb h.c2, cell_kept hb h.c3, cell_kept hb h.c4, cell_kept hb h.c5, cell_kept hb h.c6, cell_kept hb h.c7, cell_kept hb h.c8, cell_kept hb h.c9, cell_kept hb h.c10, cell_kept hb h.c11, cell_kept hb h.c12, cell_kept hb h.c13⟩
theorem TBox.new (w : World) (Av : Option Addr) (nv cv : Nat) (Ag : Option Addr) (mg cg : Nat) (Ai : Option Addr) (ni ci : Nat) (Ao : Option Addr) (no co : Nat) (Ac : Option Addr) (nc cc : Nat) (t : Tk) (T : TypeId) : TBox (w.alloc (.cells #[.string t.name, .slice Av nv cv, .int .i64 t.guard.kind, .int .i64 t.guard.num, .slice Ag mg cg, .int .i64 t.join, .int .i64 t.split, .slice Ai ni ci, .slice Ao no co, .slice Ac nc cc, .int .i64 t.after, .int .i64 t.m0, .int .i64 t.m1, .int .i64 t.m2] T)) w.heap.size Av nv cv Ag mg cg Ai ni ci Ao no co Ac nc cc t :=
  ⟨cell_new w _ T 0 _ rfl, cell_new w _ T 1 _ rfl, cell_new w _ T 2 _ rfl, cell_new w _ T 3 _ rfl, cell_new w _ T 4 _ rfl, cell_new w _ T 5 _ rfl, cell_new w _ T 6 _ rfl, cell_new w _ T 7 _ rfl, cell_new w _ T 8 _ rfl, cell_new w _ T 9 _ rfl, cell_new w _ T 10 _ rfl, cell_new w _ T 11 _ rfl, cell_new w _ T 12 _ rfl, cell_new w _ T 13 _ rfl⟩
section
variable {A1 A2 A3 : Option Addr} {n1 c1 n2 c2 n3 c3 : Nat} {N : Nt}
variable {Av : Option Addr} {nv cv : Nat} {Ag : Option Addr} {mg cg : Nat} {Ai : Option Addr} {ni ci : Nat} {Ao : Option Addr} {no co : Nat} {Ac : Option Addr} {nc cc : Nat}
set_option maxRecDepth 100000 in
set_option maxHeartbeats 2000000 in
theorem ck_task4 (t : Tk) (gv gt : Nat) (w : World) (hV : Hid (w.cell? ⟨gv, 0, none⟩ = some (.int .i64 (nv : Int)))) (hT : Hid (TBox w gt Av nv cv Ag mg cg Ai ni ci Ao no co Ac nc cc t)) (hl : t.vars.length = nv ∧ t.ins.length = ni ∧ t.outs.length = no ∧ t.cancel.length = nc) :
    Calls Tryz.prog 60 #[.pointer (some ⟨gv, 0, none⟩), .pointer (some ⟨gt, 0, none⟩)] w fun e w' => e = .returned (.bool (sizesB t)) ∧ Below w.heap.size w w' := by
  have E := Lib.hid (show sizesB t = (decide (nv ≤ 16) && decide (max (max ni no) nc ≤ 16)) by unfold sizesB; rw [hl.1, hl.2.1, hl.2.2.1, hl.2.2.2])
  obtain ⟨x, hx⟩ : ∃ x, x = sizesB t := ⟨_, rfl⟩
  rw [← hx] at E ⊢
  have y7 := hT.out.c7
  have y8 := hT.out.c8
  have y9 := hT.out.c9
  have v0 := hV.out
  clear hx hl
  by_cases h1 : nv ≤ 16
  · have HX := Lib.hid (show x = decide (max (max ni no) nc ≤ 16) by rw [E.out, decide_eq_true h1, Bool.true_and])
    by_cases a1 : ni < no
    · by_cases a2 : no < nc
      all_goals
        have HA := Lib.hid (And.intro a1 a2)
        go_enter Tryz.func60, Tryz.ntmps60
        go_wp2
        all_goals
          go_ret
          exact ⟨ret1b (by rw [HX.out, Bool.eq_iff_iff]; have := HA.out; simp only [decide_eq_true_eq]; omega), Below.refl _ _⟩
    · by_cases a2 : ni < nc
      all_goals
        have HA := Lib.hid (And.intro a1 a2)
        go_enter Tryz.func60, Tryz.ntmps60
        go_wp2
        all_goals
          go_ret
          exact ⟨ret1b (by rw [HX.out, Bool.eq_iff_iff]; have := HA.out; simp only [decide_eq_true_eq]; omega), Below.refl _ _⟩
  · have HX := Lib.hid (show x = false by rw [E.out, decide_eq_false h1]; rfl)
    go_enter Tryz.func60, Tryz.ntmps60
    go_wp2
    go_ret
    exact ⟨ret1b HX.out.symm, Below.refl _ _⟩
set_option maxRecDepth 100000 in
set_option maxHeartbeats 2000000 in
theorem ck_task5 (t : Tk) (g gt : Nat) (w : World) (ht : Hid (TabOk w)) (hB : Hid (NBox w g A1 n1 c1 A2 n2 c2 A3 n3 c3 N.from_ N.to_)) (hT : Hid (TBox w gt Av nv cv Ag mg cg Ai ni ci Ao no co Ac nc cc t)) (hn1 : n1 ≤ 9223372036854775807) (hS : Hid (SlOf 2 VrAt w Av nv cv t.vars)) :
    Calls Tryz.prog 62 #[.pointer (some ⟨g, 0, none⟩), .pointer (some ⟨gt, 0, none⟩)] w fun e w' => e = .returned (.int .i64 (varsE n1 t.vars)) ∧ Below w.heap.size w w' := by
  have x0 := hB.out.c0
  have x1 := hB.out.c1
  have x2 := hB.out.c2
  have x3 := hB.out.c3
  have x4 := hB.out.c4
  have y1 := hT.out.c1
  obtain ⟨x, hx⟩ : ∃ x, x = varsE n1 t.vars := ⟨_, rfl⟩
  have cA := Lib.hid (ck_variables (A1 := A1) (n1 := n1) (c1 := c1) (A2 := A2) (n2 := n2) (c2 := c2) (A3 := A3) (n3 := n3) (c3 := c3) t.vars Av nv cv w ht hn1 hS N.from_ N.to_)
  rw [← hx] at cA ⊢
  clear hx
  go_enter Tryz.func62, Tryz.ntmps62
  go_wp2_with (go_at_call 63; refine cA.out.mono ?_; rintro e w2 ⟨rfl, hb⟩; have HB := Lib.hid hb; clear hb)
  go_ret
  exact ⟨rfl, HB.out⟩
set_option maxRecDepth 100000 in
set_option maxHeartbeats 2000000 in
theorem ck_task6 (k : Nat) (g gk : Nat) (w : World) (hB : Hid (NBox w g A1 n1 c1 A2 n2 c2 A3 n3 c3 N.from_ N.to_)) (hK : Hid (w.cell? ⟨gk, 0, none⟩ = some (.int .i64 (k : Int)))) (hN : Hid (NetAt w A1 n1 c1 A2 n2 c2 A3 n3 c3 N)) :
    Calls Tryz.prog 64 #[.pointer (some ⟨g, 0, none⟩), .pointer (some ⟨gk, 0, none⟩)] w fun e w' => e = .returned (.bool (decide (bindsE N k ≤ 1024))) ∧ Below w.heap.size w w' := by
  have x0 := hB.out.c0
  have x1 := hB.out.c1
  have x2 := hB.out.c2
  have x3 := hB.out.c3
  have x4 := hB.out.c4
  have z0 := hK.out
  have cA := Lib.hid (ck_Binds (k : Int) w hN)
  obtain ⟨x, hx⟩ : ∃ x, x = bindsE N k := ⟨_, rfl⟩
  rw [← hx] at cA ⊢
  clear hx
  by_cases h : x ≤ 1024
  all_goals
    go_enter Tryz.func64, Tryz.ntmps64
    go_wp2_with (go_at_call 16; refine cA.out.mono ?_; rintro e w2 ⟨rfl, hb⟩; have HB := Lib.hid hb; clear hb)
    go_ret
    exact ⟨ret1b (by simp [h]), HB.out⟩
set_option maxRecDepth 100000 in
set_option maxHeartbeats 2000000 in
theorem ck_task7 (t : Tk) (gt gv : Nat) (w : World) (hV : Hid (w.cell? ⟨gv, 0, none⟩ = some (.int .i64 (nv : Int)))) (hT : Hid (TBox w gt Av nv cv Ag mg cg Ai ni ci Ao no co Ac nc cc t)) (hT2 : Hid (TrAt w Ag mg cg t.guard)) (hsz : sizeT t.guard ≤ 1000000) (hl : t.vars.length = nv ∧ t.ins.length = ni ∧ t.outs.length = no ∧ t.cancel.length = nc) :
    Calls Tryz.prog 65 #[.pointer (some ⟨gt, 0, none⟩), .pointer (some ⟨gv, 0, none⟩)] w fun e w' => e = .returned (.bool (rightT t.vars.length t.guard && (decide (0 < t.ins.length) && decide (0 < t.outs.length)))) ∧ Below w.heap.size w w' := by
  have cA := Lib.hid (ex_Right (nv : Int) t.guard Ag mg cg w hT2 hsz)
  rw [hl.1, hl.2.1, hl.2.2.1]
  obtain ⟨x, hx⟩ : ∃ x, x = rightT (nv : Int) t.guard := ⟨_, rfl⟩
  rw [← hx] at cA ⊢
  have y2 := hT.out.c2
  have y3 := hT.out.c3
  have y4 := hT.out.c4
  have v0 := hV.out
  clear hx hl
  cases x with
  | false =>
    go_enter Tryz.func65, Tryz.ntmps65
    go_wp2_with (go_at_call 20; refine cA.out.mono ?_; rintro e w2 ⟨rfl, hb⟩; have HB := Lib.hid hb; clear hb)
    go_ret
    exact ⟨rfl, HB.out⟩
  | true =>
    by_cases h1 : 0 < ni
    · by_cases h2 : 0 < no
      all_goals
        have h3 : (0 : Int) < (ni : Int) := by omega
        go_enter Tryz.func65, Tryz.ntmps65
        go_wp2_with (go_at_call 20; refine cA.out.mono ?_; rintro e w2 ⟨rfl, hb⟩; have HB := Lib.hid hb; have y7 := cell_kept hb hT.out.c7; have y8 := cell_kept hb hT.out.c8; clear hb)
        go_ret
        exact ⟨ret1b (by simp [h1, h2]), HB.out⟩
    · go_enter Tryz.func65, Tryz.ntmps65
      go_wp2_with (go_at_call 20; refine cA.out.mono ?_; rintro e w2 ⟨rfl, hb⟩; have HB := Lib.hid hb; have y7 := cell_kept hb hT.out.c7; clear hb)
      go_ret
      exact ⟨ret1b (by simp [h1]), HB.out⟩
set_option maxRecDepth 100000 in
set_option maxHeartbeats 2000000 in
theorem ck_task8 (t : Tk) (g gt gv : Nat) (w : World) (hB : Hid (NBox w g A1 n1 c1 A2 n2 c2 A3 n3 c3 N.from_ N.to_)) (hT : Hid (TBox w gt Av nv cv Ag mg cg Ai ni ci Ao no co Ac nc cc t)) (hV : Hid (w.cell? ⟨gv, 0, none⟩ = some (.int .i64 (nv : Int)))) (hn2 : n2 ≤ 9223372036854775807) (hS : Hid (SlOf 4 ArAt w Ai ni ci t.ins)) (hF : Hid (∀ k, k < ni → sizeT (t.ins.getD k default).expr ≤ 1000000)) :
    Calls Tryz.prog 66 #[.pointer (some ⟨g, 0, none⟩), .pointer (some ⟨gt, 0, none⟩), .pointer (some ⟨gv, 0, none⟩)] w fun e w' => e = .returned (.int .i64 (arcsE n2 nv t.ins)) ∧ Below w.heap.size w w' := by
  have x0 := hB.out.c0
  have x1 := hB.out.c1
  have x2 := hB.out.c2
  have x3 := hB.out.c3
  have x4 := hB.out.c4
  have y1 := hT.out.c7
  have v0 := hV.out
  obtain ⟨x, hx⟩ : ∃ x, x = arcsE n2 (nv : Int) t.ins := ⟨_, rfl⟩
  have cA := Lib.hid (ck_arcs (A1 := A1) (n1 := n1) (c1 := c1) (A2 := A2) (n2 := n2) (c2 := c2) (A3 := A3) (n3 := n3) (c3 := c3) (nv : Int) t.ins Ai ni ci w hn2 hS hF N.from_ N.to_)
  rw [← hx] at cA ⊢
  clear hx
  go_enter Tryz.func66, Tryz.ntmps66
  go_wp2_with (go_at_call 67; refine cA.out.mono ?_; rintro e w2 ⟨rfl, hb⟩; have HB := Lib.hid hb; clear hb)
  go_ret
  exact ⟨rfl, HB.out⟩
set_option maxRecDepth 100000 in
set_option maxHeartbeats 2000000 in
theorem ck_task9 (t : Tk) (g gt gv : Nat) (w : World) (hB : Hid (NBox w g A1 n1 c1 A2 n2 c2 A3 n3 c3 N.from_ N.to_)) (hT : Hid (TBox w gt Av nv cv Ag mg cg Ai ni ci Ao no co Ac nc cc t)) (hV : Hid (w.cell? ⟨gv, 0, none⟩ = some (.int .i64 (nv : Int)))) (hn2 : n2 ≤ 9223372036854775807) (hS : Hid (SlOf 4 ArAt w Ao no co t.outs)) (hF : Hid (∀ k, k < no → sizeT (t.outs.getD k default).expr ≤ 1000000)) :
    Calls Tryz.prog 68 #[.pointer (some ⟨g, 0, none⟩), .pointer (some ⟨gt, 0, none⟩), .pointer (some ⟨gv, 0, none⟩)] w fun e w' => e = .returned (.int .i64 (arcsE n2 nv t.outs)) ∧ Below w.heap.size w w' := by
  have x0 := hB.out.c0
  have x1 := hB.out.c1
  have x2 := hB.out.c2
  have x3 := hB.out.c3
  have x4 := hB.out.c4
  have y1 := hT.out.c8
  have v0 := hV.out
  obtain ⟨x, hx⟩ : ∃ x, x = arcsE n2 (nv : Int) t.outs := ⟨_, rfl⟩
  have cA := Lib.hid (ck_arcs (A1 := A1) (n1 := n1) (c1 := c1) (A2 := A2) (n2 := n2) (c2 := c2) (A3 := A3) (n3 := n3) (c3 := c3) (nv : Int) t.outs Ao no co w hn2 hS hF N.from_ N.to_)
  rw [← hx] at cA ⊢
  clear hx
  go_enter Tryz.func68, Tryz.ntmps68
  go_wp2_with (go_at_call 67; refine cA.out.mono ?_; rintro e w2 ⟨rfl, hb⟩; have HB := Lib.hid hb; clear hb)
  go_ret
  exact ⟨rfl, HB.out⟩
set_option maxRecDepth 100000 in
set_option maxHeartbeats 2000000 in
theorem ck_task10 (t : Tk) (g gt : Nat) (w : World) (hB : Hid (NBox w g A1 n1 c1 A2 n2 c2 A3 n3 c3 N.from_ N.to_)) (hT : Hid (TBox w gt Av nv cv Ag mg cg Ai ni ci Ao no co Ac nc cc t)) (hn2 : n2 ≤ 9223372036854775807) (hS : Hid (Sl w (.slice Ac nc cc) nc 1 (intCells t.cancel))) :
    Calls Tryz.prog 69 #[.pointer (some ⟨g, 0, none⟩), .pointer (some ⟨gt, 0, none⟩)] w fun e w' => e = .returned (.int .i64 (cancelsE n2 t.cancel)) ∧ Below w.heap.size w w' := by
  have x0 := hB.out.c0
  have x1 := hB.out.c1
  have x2 := hB.out.c2
  have x3 := hB.out.c3
  have x4 := hB.out.c4
  have y1 := hT.out.c9
  obtain ⟨x, hx⟩ : ∃ x, x = cancelsE n2 t.cancel := ⟨_, rfl⟩
  have cA := Lib.hid (ck_cancels (A1 := A1) (n1 := n1) (c1 := c1) (A2 := A2) (n2 := n2) (c2 := c2) (A3 := A3) (n3 := n3) (c3 := c3) t.cancel Ac nc cc w hn2 hS N.from_ N.to_)
  rw [← hx] at cA ⊢
  clear hx
  go_enter Tryz.func69, Tryz.ntmps69
  go_wp2_with (go_at_call 70; refine cA.out.mono ?_; rintro e w2 ⟨rfl, hb⟩; have HB := Lib.hid hb; clear hb)
  go_ret
  exact ⟨rfl, HB.out⟩
set_option maxRecDepth 100000 in
set_option maxHeartbeats 2000000 in
theorem ck_task11 (t : Tk) (gt : Nat) (w : World) (hT : Hid (TBox w gt Av nv cv Ag mg cg Ai ni ci Ao no co Ac nc cc t)) (hi : t.ins.length = ni) (ho : t.outs.length = no) :
    Calls Tryz.prog 71 #[.pointer (some ⟨gt, 0, none⟩)] w fun e w' => e = .returned (.bool (kindsB t)) ∧ Below w.heap.size w w' := by
  have y0 := hT.out.c0
  have y1 := hT.out.c1
  have y2 := hT.out.c2
  have y3 := hT.out.c3
  have y4 := hT.out.c4
  have y5 := hT.out.c5
  have y6 := hT.out.c6
  have y7 := hT.out.c7
  have y8 := hT.out.c8
  have y9 := hT.out.c9
  have y10 := hT.out.c10
  have y11 := hT.out.c11
  have y12 := hT.out.c12
  have y13 := hT.out.c13
  obtain ⟨x, hx⟩ : ∃ x, x = kindsB t := ⟨_, rfl⟩
  have cA := Lib.hid (ck_kinds t Av nv cv Ag mg cg Ai ni ci Ao no co Ac nc cc w hi ho)
  rw [← hx] at cA ⊢
  clear hx
  go_enter Tryz.func71, Tryz.ntmps71
  go_wp2_with (go_at_call 72; refine cA.out.mono ?_; rintro e w2 ⟨rfl, hb⟩; have HB := Lib.hid hb; clear hb)
  go_ret
  exact ⟨rfl, HB.out⟩
theorem ck_found (T : Nat) (fv : Value) (F : FuncId) (C : Array Value) (hf : fv = .func (.func F) #[] C) (w : World) : Calls Tryz.prog 61 #[.pointer (some ⟨T, 0, none⟩), fv] w fun e w' => e = .returned (.func (.func 105) #[] #[.pointer (some ⟨w.heap.size + 1, 0, none⟩), .pointer (some ⟨w.heap.size, 0, none⟩)]) ∧ (w.alloc (.cells #[.pointer (some ⟨T, 0, none⟩)] 89)).alloc (.cells #[fv] 91) = w' := by
  subst hf
  go_enter Tryz.func61, Tryz.ntmps61
  go_wp2
  go_ret
  exact ⟨rfl, rfl⟩
/-- What a question that was found leaves. -/
def FoundP (gt : Nat) (x : Int) (w : World) (e : Ending) (w' : World) : Prop := e = .returned (.bool (decide (x = 0))) ∧ ∃ w1, Below w.heap.size w w1 ∧ w' = w1.setCell ⟨gt, 0, none⟩ (.int .i64 x)
set_option maxRecDepth 100000 in
set_option maxHeartbeats 4000000 in
theorem ck_found1 (F : FuncId) (C : Array Value) (x : Int) (ga ge gt : Nat) (y : Int) (w : World) (hent : Enters Tryz.prog F) (h1 : Hid (w.cell? ⟨ga, 0, none⟩ = some (.func (.func F) #[] C))) (h2 : Hid (w.cell? ⟨ge, 0, none⟩ = some (.pointer (some ⟨gt, 0, none⟩)))) (h3 : Hid (w.cell? ⟨gt, 0, none⟩ = some (.int .i64 y))) (h4 : Hid (w.frozen? ⟨gt, 0, none⟩ = false)) (hd : gt < ge)
    (hC : Hid (∀ W, Below w.heap.size w W → Calls Tryz.prog F C W fun e w' => e = .returned (.int .i64 x) ∧ Below W.heap.size W w')) :
    Calls Tryz.prog 105 #[.pointer (some ⟨ga, 0, none⟩), .pointer (some ⟨ge, 0, none⟩)] w (FoundP gt x w) := by
  have eF : ∀ args w, (callFunc F args).run Tryz.prog w = .ok (.enter F args) w := hent
  have hlt := World.block_lt_of_cell? w _ h3.out
  have BD0 : Hid (Below w.heap.size w w.drew) := Lib.hid (below_drewN' (Below.refl _ _) 1)
  have a1 := cell_kept BD0.out h1.out
  have a2 := cell_kept BD0.out h2.out
  have CQ := Lib.hid (hC.out _ BD0.out)
  have HCF := Lib.hid (show ∀ W, Below w.heap.size w W → W.cell? ⟨ge, 0, none⟩ = some (.pointer (some ⟨gt, 0, none⟩)) ∧ W.cell? ⟨gt, 0, none⟩ = some (.int .i64 y) ∧ W.frozen? ⟨gt, 0, none⟩ = false from fun W h => ⟨cell_kept h h2.out, cell_kept h h3.out, (h.frozen (p := ⟨gt, 0, none⟩) hlt).trans h4.out⟩)
  clear hent
  by_cases h0 : x = 0
  · subst h0
    go_enter Tryz.func105, Tryz.ntmps105
    go_upto_region 1 with fail
    go_region_with (go_at_fn F; refine CQ.out.mono ?_; rintro e w5 ⟨rfl, hb5⟩; have HB5 := Lib.hid (below_then BD0.out hb5); obtain ⟨f1, f2, f3⟩ := HCF.out _ HB5.out; have f4 := (World.cell?_setCell_far w5 ⟨gt, 0, none⟩ ⟨ge, 0, none⟩ (.int .i64 0) (Nat.ne_of_lt hd)).trans f1; have f5 := World.cell?_setCell_same w5 ⟨gt, 0, none⟩ (.int .i64 0) f2; clear hb5)
    all_goals
      go_wp2
      go_ret
      exact ⟨rfl, w5, HB5.out, rfl⟩
  · have y0 : (x == 0) = false := by simpa using h0
    have y1 := Lib.hid (decide_eq_false h0)
    clear h0
    go_enter Tryz.func105, Tryz.ntmps105
    go_upto_region 1 with fail
    go_region_with (go_at_fn F; refine CQ.out.mono ?_; rintro e w5 ⟨rfl, hb5⟩; have HB5 := Lib.hid (below_then BD0.out hb5); obtain ⟨f1, f2, f3⟩ := HCF.out _ HB5.out; have f4 := (World.cell?_setCell_far w5 ⟨gt, 0, none⟩ ⟨ge, 0, none⟩ (.int .i64 x) (Nat.ne_of_lt hd)).trans f1; have f5 := World.cell?_setCell_same w5 ⟨gt, 0, none⟩ (.int .i64 x) f2; clear hb5)
    all_goals
      go_wp2
      go_ret
      exact ⟨by rw [y1.out]; rfl, w5, HB5.out, rfl⟩
end
end Go.Proofs.YtaeeblceedklnaaGreatDoor
