/- Package check: Takers, Givers. Printed by gen_ckC.py. -/
import Derived.Test.YtaeeblceedklnaaGreatDoorCkH
namespace Go.Proofs.YtaeeblceedklnaaGreatDoor
open Go.RowKit
/-- The numbers below k that are so. -/
def usersK (p : Nat → Bool) : Nat → List Int
  | 0 => []
  | k + 1 => usersK p k ++ if p k then [(k : Int)] else []
theorem usersK_len (p : Nat → Bool) : ∀ k, (usersK p k).length ≤ k
  | 0 => Nat.le_refl _
  | k + 1 => by
    have := usersK_len p k
    rw [usersK, List.length_append]
    split <;> simp <;> omega
theorem usersK_mem (p : Nat → Bool) : ∀ (k : Nat) (x : Int), x ∈ usersK p k ↔ ∃ j : Nat, x = j ∧ j < k ∧ p j = true
  | 0, x => by simp [usersK]
  | k + 1, x => by
    rw [usersK, List.mem_append, usersK_mem p k x]
    constructor
    · rintro (⟨j, h1, h2, h3⟩ | h)
      · exact ⟨j, h1, by omega, h3⟩
      · split at h
        · rename_i hp
          rw [List.mem_singleton] at h
          exact ⟨k, h, by omega, hp⟩
        · cases h
    · rintro ⟨j, h1, h2, h3⟩
      by_cases hj : j = k
      · subst hj
        exact .inr (by rw [if_pos h3, List.mem_singleton]; exact h1)
      · exact .inl ⟨j, h1, by omega, h3⟩
/-- Is there an arc of that place? -/
def hasA (l : List Ar) (x : Int) : Bool := l.any fun a => decide (a.place = x)
def takersB (N : Nt) (x : Int) (k : Nat) : Bool := hasA (N.tks.getD k default).ins x
def giversB (N : Nt) (x : Int) (k : Nat) : Bool := hasA (N.tks.getD k default).outs x
/-- A row of numbers in new memory. -/
def NewInts (l : List Int) (w : World) (e : Ending) (w' : World) : Prop := ∃ A c, e = .returned (.slice A l.length c) ∧ w'.ownsRow w.heap.size 3 1 (.slice A l.length c) l.length (intCells l) ∧ Below w.heap.size w w'
set_option maxRecDepth 100000 in
set_option maxHeartbeats 1000000 in
theorem ck_users1 (q : Ar) (A' : Option Addr) (n' c' : Nat) (x : Int) (g : Nat) (w : World) (h0 : Hid (w.cell? ⟨g, 0, none⟩ = some (.int .i64 x))) :
    Calls Tryz.prog 137 #[q.val A' n' c', .pointer (some ⟨g, 0, none⟩)] w fun e w' => e = .returned (.bool (decide (q.place = x))) ∧ Below w.heap.size w w' := by
  have HB1 := Lib.hid (alr w (.cells #[.int .i64 q.place, .int .i64 q.expr.kind, .int .i64 q.expr.num, .slice A' n' c'] 65))
  have b0 := cell_kept HB1.out h0.out
  obtain ⟨pl, ex⟩ := q
  by_cases h : pl = x
  · subst h
    go_enter Tryz.func137, Tryz.ntmps137
    go_wp2
    go_ret
    exact ⟨ret1b (by simp), HB1.out⟩
  · have h1 : (pl == x) = false := by simpa using h
    have h2 := Lib.hid (decide_eq_false h)
    clear h
    go_enter Tryz.func137, Tryz.ntmps137
    go_wp2
    go_ret
    exact ⟨ret1b h2.out.symm, HB1.out⟩
theorem ck_hasA (A : Option Addr) (n c : Nat) (l : List Ar) (x : Int) (g : Nat) (w : World) (h0 : Hid (w.cell? ⟨g, 0, none⟩ = some (.int .i64 x))) (hS : Hid (SlOf 4 ArAt w A n c l)) :
    Calls Tryz.prog 136 #[.slice A n c, .func (.func 137) #[] #[.pointer (some ⟨g, 0, none⟩)]] w fun e w' => e = .returned (.bool (hasA l x)) ∧ Below w.heap.size w w' := by
  have hn := Nat.le_trans hS.out.1 hS.out.2.1
  have hl := hS.out.2.2.1
  have h := ck_contains_ar (fun j => decide ((l.getD j default).place = x)) g A n c l w hn hS (Lib.hid fun k _ W hb b o A' n' c' _ => ck_users1 _ A' n' c' x g W (Lib.hid (cell_kept hb h0.out)))
  have e1 := anyK_any default (fun a : Ar => decide (a.place = x)) l
  rw [hl] at e1
  rw [e1] at h
  exact h
section
variable {A1 A2 A3 : Option Addr} {n1 c1 n2 c2 n3 c3 : Nat} {N : Nt}
set_option maxRecDepth 100000 in
set_option maxHeartbeats 1000000 in
theorem ck_takers1 (q : Tk) (Av : Option Addr) (nv cv : Nat) (Ag : Option Addr) (mg cg : Nat) (Ai : Option Addr) (ni ci : Nat) (Ao : Option Addr) (no co : Nat) (Ac : Option Addr) (nc cc : Nat) (w : World) : Calls Tryz.prog 88 #[q.val Av nv cv Ag mg cg Ai ni ci Ao no co Ac nc cc] w fun e w' => e = .returned (.slice Ai ni ci) ∧ Below w.heap.size w w' := by
  have HB1 := Lib.hid (alr w (.cells #[.string q.name, .slice Av nv cv, .int .i64 q.guard.kind, .int .i64 q.guard.num, .slice Ag mg cg, .int .i64 q.join, .int .i64 q.split, .slice Ai ni ci, .slice Ao no co, .slice Ac nc cc, .int .i64 q.after, .int .i64 q.m0, .int .i64 q.m1, .int .i64 q.m2] 53))
  go_enter Tryz.func88, Tryz.ntmps88
  go_wp2
  go_ret
  exact ⟨rfl, HB1.out⟩
set_option maxRecDepth 100000 in
set_option maxHeartbeats 8000000 in
theorem ck_users_takers (x : Int) (w : World) (hN : Hid (NetAt w A1 n1 c1 A2 n2 c2 A3 n3 c3 N)) (hmax : n3 ≤ 1000000) :
    Calls Tryz.prog 87 #[netV A1 n1 c1 A2 n2 c2 A3 n3 c3 N.from_ N.to_, .int .i64 x, .func (.func 88) #[] #[]] w (NewInts (usersK (takersB N x) n3) w) := by
  have hn3 := Nat.le_trans hN.out.tks.1 hN.out.tks.2.1
  obtain ⟨w1, hw1⟩ : ∃ y, y = (w.alloc (.cells #[.slice A1 n1 c1, .slice A2 n2 c2, .slice A3 n3 c3, .int .i64 N.from_, .int .i64 N.to_] 26)).alloc (.cells #[.int .i64 x] 3) := ⟨_, rfl⟩
  have HB1 := Lib.hid (show Below w.heap.size w w1 by rw [hw1]; exact below_then (alr w _) (alr _ _))
  have NB1 := Lib.hid (show NBox w1 w.heap.size A1 n1 c1 A2 n2 c2 A3 n3 c3 N.from_ N.to_ by rw [hw1]; exact (NBox.new w A1 n1 c1 A2 n2 c2 A3 n3 c3 N.from_ N.to_ 26).below (alr _ _))
  have K1 := Lib.hid (show w1.cell? ⟨w.heap.size + 1, 0, none⟩ = some (.int .i64 x) by rw [hw1]; exact (show (w.alloc (.cells #[.slice A1 n1 c1, .slice A2 n2 c2, .slice A3 n3 c3, .int .i64 N.from_, .int .i64 N.to_] 26)).heap.size = w.heap.size + 1 from World.size_alloc _ _) ▸ cell_new (w.alloc (.cells #[.slice A1 n1 c1, .slice A2 n2 c2, .slice A3 n3 c3, .int .i64 N.from_, .int .i64 N.to_] 26)) #[.int .i64 x] 3 0 _ rfl)
  have hN1 := Lib.hid (hN.out.below HB1.out)
  have x2 := NB1.out.c2
  have HW := Lib.hid hw1.symm
  have hmx := hmax
  clear hw1
  go_enter Tryz.func87, Tryz.ntmps87
  go_upto_region 1 with fail
  rw [HW.out]
  go_wp2_with fail
  go_loopw [7, 13] (fun v7 v13 wr => ∃ (k : Nat) (B : Option Addr) (d : Nat), k ≤ n3 ∧ v13 = .int .i64 (k : Int) ∧ v7 = .slice B (usersK (takersB N x) k).length d ∧ Hid (wr.ownsRow w1.heap.size 3 1 (.slice B (usersK (takersB N x) k).length d) (usersK (takersB N x) k).length (intCells (usersK (takersB N x) k))) ∧ Hid (Below w1.heap.size w1 wr)) (fun _ v13 _ => n3 - (intOf v13).toNat)
  case atStart => exact ⟨0, none, 0, by omega, rfl, rfl, World.ownsRow_nil _ _ _ _, Lib.hid (Below.refl _ _)⟩
  case round =>
    obtain ⟨k, B, d, hk, rfl, rfl, hO, hB⟩ := hrel
    obtain ⟨l, hl⟩ : ∃ l, l = usersK (takersB N x) k := ⟨_, rfl⟩
    have hlk : l.length ≤ k := by rw [hl]; exact usersK_len _ _
    rw [← hl] at hO ⊢
    have HL := Lib.hid hl
    clear hl
    by_cases hlt : k < n3
    · obtain ⟨b, off, rfl, Av, nv, cv, Ag, mg, cg, Ai, ni, ci, Ao, no, co, Ac, nc, cc, hE⟩ := (hN1.out.below hB.out).tks.at_ hlt
      obtain ⟨p, hp⟩ : ∃ p, p = takersB N x k := ⟨_, rfl⟩
      have hp2 := hp
      unfold takersB at hp2
      obtain ⟨q, hq⟩ : ∃ q, q = N.tks.getD k default := ⟨_, rfl⟩
      rw [← hq] at hE hp2
      have HE := Lib.hid hE
      have HP := Lib.hid hp.symm
      have e0 := hE.c0
      have e1 := hE.c1
      have e2 := hE.c2
      have e3 := hE.c3
      have e4 := hE.c4
      have e5 := hE.c5
      have e6 := hE.c6
      have e7 := hE.c7
      have e8 := hE.c8
      have e9 := hE.c9
      have e10 := hE.c10
      have e11 := hE.c11
      have e12 := hE.c12
      have e13 := hE.c13
      have HBX := Lib.hid (alr wr (.cells #[.string q.name, .slice Av nv cv, .int .i64 q.guard.kind, .int .i64 q.guard.num, .slice Ag mg cg, .int .i64 q.join, .int .i64 q.split, .slice Ai ni ci, .slice Ao no co, .slice Ac nc cc, .int .i64 q.after, .int .i64 q.m0, .int .i64 q.m1, .int .i64 q.m2] 53))
      have cT := Lib.hid (ck_takers1 q Av nv cv Ag mg cg Ai ni ci Ao no co Ac nc cc (wr.alloc (.cells #[.string q.name, .slice Av nv cv, .int .i64 q.guard.kind, .int .i64 q.guard.num, .slice Ag mg cg, .int .i64 q.join, .int .i64 q.split, .slice Ai ni ci, .slice Ao no co, .slice Ac nc cc, .int .i64 q.after, .int .i64 q.m0, .int .i64 q.m1, .int .i64 q.m2] 53)))
      have cH := Lib.hid (fun W (h : Below wr.heap.size wr W) => (show Calls Tryz.prog 136 #[.slice Ai ni ci, .func (.func 137) #[] #[.pointer (some ⟨w.heap.size + 1, 0, none⟩)]] W fun e w' => e = .returned (.bool p) ∧ Below W.heap.size W w' by
        rw [hp2]
        exact ck_hasA Ai ni ci q.ins x (w.heap.size + 1) W (Lib.hid (cell_kept (below_then hB.out h) K1.out)) (Lib.hid (HE.out.ins.below ArAt.stays h))))
      have hlt2 : (k : Int) < (n3 : Int) := by omega
      have hk0 : (0 : Int) ≤ (k : Int) := by omega
      have hone := Lib.hid (one_int (k : Int))
      clear hp hp2 hq hE
      cases p with
      | false =>
        have HS := Lib.hid (show usersK (takersB N x) (k + 1) = l by rw [usersK, HP.out, ← HL.out]; simp)
        go_wp2_with fail
        refine cT.out.mono ?_
        rintro e w2 ⟨rfl, hb2⟩
        have HB2 := Lib.hid (below_then HBX.out hb2)
        clear hb2
        go_wp2_with fail
        refine (cH.out _ HB2.out).mono ?_
        rintro e w3 ⟨rfl, hb3⟩
        have HB3 := Lib.hid (below_then HB2.out hb3)
        clear hb3
        have HO3 := Lib.hid (own_below hO.out HB3.out)
        have HW3 := Lib.hid (below_then hB.out HB3.out)
        go_wp2_with fail
        go_roundw
        case rel => exact ⟨k + 1, B, d, by omega, by go_num, by rw [HS.out], by rw [HS.out]; exact HO3, HW3⟩
        case measure => simp [intOf]; omega
      | true =>
        have HS := Lib.hid (show usersK (takersB N x) (k + 1) = l ++ [(k : Int)] by rw [usersK, HP.out, ← HL.out]; simp)
        go_wp2_with fail
        refine cT.out.mono ?_
        rintro e w2 ⟨rfl, hb2⟩
        have HB2 := Lib.hid (below_then HBX.out hb2)
        clear hb2
        go_wp2_with fail
        refine (cH.out _ HB2.out).mono ?_
        rintro e w3 ⟨rfl, hb3⟩
        have HB3 := Lib.hid (below_then HB2.out hb3)
        clear hb3
        have HO3 := Lib.hid (own_below hO.out HB3.out)
        have HW3 := Lib.hid (below_then hB.out HB3.out)
        have hs3 := HW3.out.size
        go_wp2_with (at_builtin; refine wpList_append_sl ints_ty1 rfl (.tmp 23) (.tmp 25) rfl w1.heap.size rfl (by exact HO3.out.alloc _) rfl (by exact Sl.new _ _ [Value.int .i64 (k : Int)] 1 1 rfl (by omega)) hone.out (by omega) (by omega) (by simp; omega) ?_; intro v4 w4 hown4 hg4 hat4; obtain ⟨A4, c4, rfl, _, _⟩ := (Sl.of_own hown4).form; have HB4 := Lib.hid ((HW3.out.alloc hs3 (.cells #[.int .i64 (k : Int)] 3)).grown hg4 (by simp; omega) (fun q hq => (HO3.out.lt q hq).1)); have OW4 := Lib.hid hown4; clear hown4 hg4 hat4)
        go_roundw
        case rel => exact ⟨k + 1, A4, c4, by omega, by go_num, by rw [HS.out, List.length_append]; rfl, by rw [HS.out, List.length_append, intCells_snoc]; exact OW4, HB4⟩
        case measure => simp [intOf]; omega
    · have ek : n3 = k := by omega
      subst ek
      have HBE := Lib.hid (below_then HB1.out hB.out)
      go_wp2
      go_ret
      exact ⟨B, d, by rw [← HL.out]; rfl, by rw [← HL.out]; exact own_base hO.out HB1.out.size, HBE.out⟩
set_option maxRecDepth 100000 in
set_option maxHeartbeats 1000000 in
theorem ck_takers (x : Int) (w : World) (hN : Hid (NetAt w A1 n1 c1 A2 n2 c2 A3 n3 c3 N)) (hmax : n3 ≤ 1000000) :
    Calls Tryz.prog 23 #[netV A1 n1 c1 A2 n2 c2 A3 n3 c3 N.from_ N.to_, .int .i64 x] w (NewInts (usersK (takersB N x) n3) w) := by
  have HB1 := Lib.hid (alr w (.cells #[.slice A1 n1 c1, .slice A2 n2 c2, .slice A3 n3 c3, .int .i64 N.from_, .int .i64 N.to_] 26))
  have cU := Lib.hid (ck_users_takers x (w.alloc (.cells #[.slice A1 n1 c1, .slice A2 n2 c2, .slice A3 n3 c3, .int .i64 N.from_, .int .i64 N.to_] 26)) (Lib.hid (hN.out.below HB1.out)) hmax)
  obtain ⟨l, hl⟩ : ∃ l, l = usersK (takersB N x) n3 := ⟨_, rfl⟩
  rw [← hl] at cU ⊢
  clear hl
  go_enter Tryz.func23, Tryz.ntmps23
  go_wp2_with (go_at_call 87; refine cU.out.mono ?_; rintro e w2 ⟨A, c, rfl, ho, hb⟩; have HO := Lib.hid (own_base ho HB1.out.size); have HB := Lib.hid (below_then HB1.out hb); clear ho hb)
  go_ret
  exact ⟨A, c, rfl, HO.out, HB.out⟩
set_option maxRecDepth 100000 in
set_option maxHeartbeats 1000000 in
theorem ck_givers1 (q : Tk) (Av : Option Addr) (nv cv : Nat) (Ag : Option Addr) (mg cg : Nat) (Ai : Option Addr) (ni ci : Nat) (Ao : Option Addr) (no co : Nat) (Ac : Option Addr) (nc cc : Nat) (w : World) : Calls Tryz.prog 89 #[q.val Av nv cv Ag mg cg Ai ni ci Ao no co Ac nc cc] w fun e w' => e = .returned (.slice Ao no co) ∧ Below w.heap.size w w' := by
  have HB1 := Lib.hid (alr w (.cells #[.string q.name, .slice Av nv cv, .int .i64 q.guard.kind, .int .i64 q.guard.num, .slice Ag mg cg, .int .i64 q.join, .int .i64 q.split, .slice Ai ni ci, .slice Ao no co, .slice Ac nc cc, .int .i64 q.after, .int .i64 q.m0, .int .i64 q.m1, .int .i64 q.m2] 53))
  go_enter Tryz.func89, Tryz.ntmps89
  go_wp2
  go_ret
  exact ⟨rfl, HB1.out⟩
set_option maxRecDepth 100000 in
set_option maxHeartbeats 8000000 in
theorem ck_users_givers (x : Int) (w : World) (hN : Hid (NetAt w A1 n1 c1 A2 n2 c2 A3 n3 c3 N)) (hmax : n3 ≤ 1000000) :
    Calls Tryz.prog 87 #[netV A1 n1 c1 A2 n2 c2 A3 n3 c3 N.from_ N.to_, .int .i64 x, .func (.func 89) #[] #[]] w (NewInts (usersK (giversB N x) n3) w) := by
  have hn3 := Nat.le_trans hN.out.tks.1 hN.out.tks.2.1
  obtain ⟨w1, hw1⟩ : ∃ y, y = (w.alloc (.cells #[.slice A1 n1 c1, .slice A2 n2 c2, .slice A3 n3 c3, .int .i64 N.from_, .int .i64 N.to_] 26)).alloc (.cells #[.int .i64 x] 3) := ⟨_, rfl⟩
  have HB1 := Lib.hid (show Below w.heap.size w w1 by rw [hw1]; exact below_then (alr w _) (alr _ _))
  have NB1 := Lib.hid (show NBox w1 w.heap.size A1 n1 c1 A2 n2 c2 A3 n3 c3 N.from_ N.to_ by rw [hw1]; exact (NBox.new w A1 n1 c1 A2 n2 c2 A3 n3 c3 N.from_ N.to_ 26).below (alr _ _))
  have K1 := Lib.hid (show w1.cell? ⟨w.heap.size + 1, 0, none⟩ = some (.int .i64 x) by rw [hw1]; exact (show (w.alloc (.cells #[.slice A1 n1 c1, .slice A2 n2 c2, .slice A3 n3 c3, .int .i64 N.from_, .int .i64 N.to_] 26)).heap.size = w.heap.size + 1 from World.size_alloc _ _) ▸ cell_new (w.alloc (.cells #[.slice A1 n1 c1, .slice A2 n2 c2, .slice A3 n3 c3, .int .i64 N.from_, .int .i64 N.to_] 26)) #[.int .i64 x] 3 0 _ rfl)
  have hN1 := Lib.hid (hN.out.below HB1.out)
  have x2 := NB1.out.c2
  have HW := Lib.hid hw1.symm
  have hmx := hmax
  clear hw1
  go_enter Tryz.func87, Tryz.ntmps87
  go_upto_region 1 with fail
  rw [HW.out]
  go_wp2_with fail
  go_loopw [7, 13] (fun v7 v13 wr => ∃ (k : Nat) (B : Option Addr) (d : Nat), k ≤ n3 ∧ v13 = .int .i64 (k : Int) ∧ v7 = .slice B (usersK (giversB N x) k).length d ∧ Hid (wr.ownsRow w1.heap.size 3 1 (.slice B (usersK (giversB N x) k).length d) (usersK (giversB N x) k).length (intCells (usersK (giversB N x) k))) ∧ Hid (Below w1.heap.size w1 wr)) (fun _ v13 _ => n3 - (intOf v13).toNat)
  case atStart => exact ⟨0, none, 0, by omega, rfl, rfl, World.ownsRow_nil _ _ _ _, Lib.hid (Below.refl _ _)⟩
  case round =>
    obtain ⟨k, B, d, hk, rfl, rfl, hO, hB⟩ := hrel
    obtain ⟨l, hl⟩ : ∃ l, l = usersK (giversB N x) k := ⟨_, rfl⟩
    have hlk : l.length ≤ k := by rw [hl]; exact usersK_len _ _
    rw [← hl] at hO ⊢
    have HL := Lib.hid hl
    clear hl
    by_cases hlt : k < n3
    · obtain ⟨b, off, rfl, Av, nv, cv, Ag, mg, cg, Ai, ni, ci, Ao, no, co, Ac, nc, cc, hE⟩ := (hN1.out.below hB.out).tks.at_ hlt
      obtain ⟨p, hp⟩ : ∃ p, p = giversB N x k := ⟨_, rfl⟩
      have hp2 := hp
      unfold giversB at hp2
      obtain ⟨q, hq⟩ : ∃ q, q = N.tks.getD k default := ⟨_, rfl⟩
      rw [← hq] at hE hp2
      have HE := Lib.hid hE
      have HP := Lib.hid hp.symm
      have e0 := hE.c0
      have e1 := hE.c1
      have e2 := hE.c2
      have e3 := hE.c3
      have e4 := hE.c4
      have e5 := hE.c5
      have e6 := hE.c6
      have e7 := hE.c7
      have e8 := hE.c8
      have e9 := hE.c9
      have e10 := hE.c10
      have e11 := hE.c11
      have e12 := hE.c12
      have e13 := hE.c13
      have HBX := Lib.hid (alr wr (.cells #[.string q.name, .slice Av nv cv, .int .i64 q.guard.kind, .int .i64 q.guard.num, .slice Ag mg cg, .int .i64 q.join, .int .i64 q.split, .slice Ai ni ci, .slice Ao no co, .slice Ac nc cc, .int .i64 q.after, .int .i64 q.m0, .int .i64 q.m1, .int .i64 q.m2] 53))
      have cT := Lib.hid (ck_givers1 q Av nv cv Ag mg cg Ai ni ci Ao no co Ac nc cc (wr.alloc (.cells #[.string q.name, .slice Av nv cv, .int .i64 q.guard.kind, .int .i64 q.guard.num, .slice Ag mg cg, .int .i64 q.join, .int .i64 q.split, .slice Ai ni ci, .slice Ao no co, .slice Ac nc cc, .int .i64 q.after, .int .i64 q.m0, .int .i64 q.m1, .int .i64 q.m2] 53)))
      have cH := Lib.hid (fun W (h : Below wr.heap.size wr W) => (show Calls Tryz.prog 136 #[.slice Ao no co, .func (.func 137) #[] #[.pointer (some ⟨w.heap.size + 1, 0, none⟩)]] W fun e w' => e = .returned (.bool p) ∧ Below W.heap.size W w' by
        rw [hp2]
        exact ck_hasA Ao no co q.outs x (w.heap.size + 1) W (Lib.hid (cell_kept (below_then hB.out h) K1.out)) (Lib.hid (HE.out.outs.below ArAt.stays h))))
      have hlt2 : (k : Int) < (n3 : Int) := by omega
      have hk0 : (0 : Int) ≤ (k : Int) := by omega
      have hone := Lib.hid (one_int (k : Int))
      clear hp hp2 hq hE
      cases p with
      | false =>
        have HS := Lib.hid (show usersK (giversB N x) (k + 1) = l by rw [usersK, HP.out, ← HL.out]; simp)
        go_wp2_with fail
        refine cT.out.mono ?_
        rintro e w2 ⟨rfl, hb2⟩
        have HB2 := Lib.hid (below_then HBX.out hb2)
        clear hb2
        go_wp2_with fail
        refine (cH.out _ HB2.out).mono ?_
        rintro e w3 ⟨rfl, hb3⟩
        have HB3 := Lib.hid (below_then HB2.out hb3)
        clear hb3
        have HO3 := Lib.hid (own_below hO.out HB3.out)
        have HW3 := Lib.hid (below_then hB.out HB3.out)
        go_wp2_with fail
        go_roundw
        case rel => exact ⟨k + 1, B, d, by omega, by go_num, by rw [HS.out], by rw [HS.out]; exact HO3, HW3⟩
        case measure => simp [intOf]; omega
      | true =>
        have HS := Lib.hid (show usersK (giversB N x) (k + 1) = l ++ [(k : Int)] by rw [usersK, HP.out, ← HL.out]; simp)
        go_wp2_with fail
        refine cT.out.mono ?_
        rintro e w2 ⟨rfl, hb2⟩
        have HB2 := Lib.hid (below_then HBX.out hb2)
        clear hb2
        go_wp2_with fail
        refine (cH.out _ HB2.out).mono ?_
        rintro e w3 ⟨rfl, hb3⟩
        have HB3 := Lib.hid (below_then HB2.out hb3)
        clear hb3
        have HO3 := Lib.hid (own_below hO.out HB3.out)
        have HW3 := Lib.hid (below_then hB.out HB3.out)
        have hs3 := HW3.out.size
        go_wp2_with (at_builtin; refine wpList_append_sl ints_ty1 rfl (.tmp 23) (.tmp 25) rfl w1.heap.size rfl (by exact HO3.out.alloc _) rfl (by exact Sl.new _ _ [Value.int .i64 (k : Int)] 1 1 rfl (by omega)) hone.out (by omega) (by omega) (by simp; omega) ?_; intro v4 w4 hown4 hg4 hat4; obtain ⟨A4, c4, rfl, _, _⟩ := (Sl.of_own hown4).form; have HB4 := Lib.hid ((HW3.out.alloc hs3 (.cells #[.int .i64 (k : Int)] 3)).grown hg4 (by simp; omega) (fun q hq => (HO3.out.lt q hq).1)); have OW4 := Lib.hid hown4; clear hown4 hg4 hat4)
        go_roundw
        case rel => exact ⟨k + 1, A4, c4, by omega, by go_num, by rw [HS.out, List.length_append]; rfl, by rw [HS.out, List.length_append, intCells_snoc]; exact OW4, HB4⟩
        case measure => simp [intOf]; omega
    · have ek : n3 = k := by omega
      subst ek
      have HBE := Lib.hid (below_then HB1.out hB.out)
      go_wp2
      go_ret
      exact ⟨B, d, by rw [← HL.out]; rfl, by rw [← HL.out]; exact own_base hO.out HB1.out.size, HBE.out⟩
set_option maxRecDepth 100000 in
set_option maxHeartbeats 1000000 in
theorem ck_givers (x : Int) (w : World) (hN : Hid (NetAt w A1 n1 c1 A2 n2 c2 A3 n3 c3 N)) (hmax : n3 ≤ 1000000) :
    Calls Tryz.prog 24 #[netV A1 n1 c1 A2 n2 c2 A3 n3 c3 N.from_ N.to_, .int .i64 x] w (NewInts (usersK (giversB N x) n3) w) := by
  have HB1 := Lib.hid (alr w (.cells #[.slice A1 n1 c1, .slice A2 n2 c2, .slice A3 n3 c3, .int .i64 N.from_, .int .i64 N.to_] 26))
  have cU := Lib.hid (ck_users_givers x (w.alloc (.cells #[.slice A1 n1 c1, .slice A2 n2 c2, .slice A3 n3 c3, .int .i64 N.from_, .int .i64 N.to_] 26)) (Lib.hid (hN.out.below HB1.out)) hmax)
  obtain ⟨l, hl⟩ : ∃ l, l = usersK (giversB N x) n3 := ⟨_, rfl⟩
  rw [← hl] at cU ⊢
  clear hl
  go_enter Tryz.func24, Tryz.ntmps24
  go_wp2_with (go_at_call 87; refine cU.out.mono ?_; rintro e w2 ⟨A, c, rfl, ho, hb⟩; have HO := Lib.hid (own_base ho HB1.out.size); have HB := Lib.hid (below_then HB1.out hb); clear ho hb)
  go_ret
  exact ⟨A, c, rfl, HO.out, HB.out⟩
end
end Go.Proofs.YtaeeblceedklnaaGreatDoor
