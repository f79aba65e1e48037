/- Joined: Same: the program's and the document's. The document's Same: rows of texts, arcs. Printed by gen_pbP.py. The document's Same of tasks that are one. Printed by gen_pbQ.py. -/
import Derived.Test.YtkpjhjoopdbkaaaGreatDoorG28
import Derived.Deep.RegionHeld3
import Derived.Deep.RegionWith
import Derived.Deep.DeepCutAuto
namespace Go.Proofs.YtkpjhjoopdbkaaaGreatDoor
open Go.RowKit
/-- What Same is to tell of expressions of so many parts. -/
def SameAt (f : Nat) (N : Nat) : Prop := ∀ (a b : Tr), a.sz ≤ N → ∀ (A : Option Addr) (m c : Nat) (B : Option Addr) (n d : Nat) (w : World), Hid (TrAt w A m c a) → Hid (TrAt w B n d b) → Calls Tryz.prog f #[a.val A m c, b.val B n d] w fun e w' => e = .returned (.bool (sameT a b)) ∧ Below w.heap.size w w'
set_option maxRecDepth 100000 in
set_option maxHeartbeats 2000000 in
theorem ex_EqualFunc (N : Nat) (IH : Hid (SameAt 11 N)) (a b : Tr) (hN : a.sz ≤ N + 1) (A : Option Addr) (m c : Nat) (B : Option Addr) (n d : Nat) (w : World) (ha : Hid (TrAt w A m c a)) (hb : Hid (TrAt w B n d b)) :
    Calls Tryz.prog 30 #[.slice A m c, .slice B n d, .func (.func 11) #[] #[]] w fun e w' => e = .returned (.bool (sameL a.kids b.kids)) ∧ Below w.heap.size w w' := by
  obtain ⟨hl, hc, hc9⟩ := ha.out.len
  obtain ⟨hl2, hd, hd9⟩ := hb.out.len
  by_cases hmn : m = n
  · subst hmn
    obtain ⟨R, hR⟩ : ∃ R, R = sameL a.kids b.kids := ⟨_, rfl⟩
    rw [← hR]
    have HR := Lib.hid hR
    clear hR
    go_enter Tryz.func30, Tryz.ntmps30
    go_wp2
    go_loopw [17] (fun v17 wr => ∃ (k : Nat), k ≤ m ∧ v17 = .int .i64 (k : Int) ∧ Hid (sameL (a.kids.drop k) (b.kids.drop k) = R) ∧ Hid (Below w.heap.size w wr)) (fun v17 _ => m - (intOf v17).toNat)
    case atStart => exact ⟨0, by omega, rfl, HR.out.symm, Below.refl _ _⟩
    case round =>
      obtain ⟨k, hk, rfl, hP, hB⟩ := hrel
      by_cases hlt : k < m
      · obtain ⟨ba, oa, rfl, A', m', c', hK⟩ := (ha.out.kept hB.out).kid hlt
        obtain ⟨bb, ob, rfl, B', n', d', hL⟩ := (hb.out.kept hB.out).kid hlt
        have hst := hP.out
        rw [drop_tr (by omega), drop_tr (L := b.kids) (by omega), sameL_cons] at hst
        have hkd := Tr.kid_lt (t := a) (j := k) (by omega)
        obtain ⟨q, hq⟩ : ∃ q, q = a.kids.getD k default := ⟨_, rfl⟩
        obtain ⟨r, hr⟩ : ∃ r, r = b.kids.getD k default := ⟨_, rfl⟩
        rw [← hq] at hK hst hkd
        rw [← hr] at hL hst
        have c0 := hK.c0
        have c1 := hK.c1
        have c2 := hK.c2
        have h1 := (Below.refl wr.heap.size wr).alloc (Nat.le_refl _) (.cells #[.int .i64 q.kind, .int .i64 q.num, .slice A' m' c'] 30)
        have e0 := cell_kept h1 hL.c0
        have e1 := cell_kept h1 hL.c1
        have e2 := cell_kept h1 hL.c2
        have h2 := h1.alloc (by simp) (.cells #[.int .i64 r.kind, .int .i64 r.num, .slice B' n' d'] 30)
        have CQ := Lib.hid (IH.out q r (by omega) A' m' c' B' n' d' _ (Lib.hid (hK.tr.kept h2)) (Lib.hid (hL.tr.kept h2)))
        have HB2 := Lib.hid (hB.out.trans (h2.mono hB.out.size))
        obtain ⟨y, hy⟩ : ∃ y, y = sameT q r := ⟨_, rfl⟩
        rw [← hy] at hst CQ
        have hlt2 : (k : Int) < (m : Int) := by omega
        have hk0 : (0 : Int) ≤ (k : Int) := by omega
        have HST := Lib.hid hst
        clear hK hL hq hr hy hst h1 h2
        cases y with
        | false =>
          go_wp2_with (go_at_call 11; refine CQ.out.mono ?_; rintro e w5 ⟨rfl, hb5⟩; have HB5 := Lib.hid (below_then HB2.out hb5); clear hb5)
          go_ret
          exact ⟨ret1b (by have := HST.out; rw [Bool.false_and] at this; exact this), HB5.out⟩
        | true =>
          go_wp2_with (go_at_call 11; refine CQ.out.mono ?_; rintro e w5 ⟨rfl, hb5⟩; have HB5 := Lib.hid (below_then HB2.out hb5); clear hb5)
          go_roundw
          case rel => exact ⟨k + 1, by omega, by go_num, by have := HST.out; rw [Bool.true_and] at this; exact this, HB5⟩
          case measure => simp [intOf]; omega
      · have e1 : a.kids.drop k = [] := List.drop_eq_nil_of_le (by omega)
        have e2 : b.kids.drop k = [] := List.drop_eq_nil_of_le (by omega)
        have hst := hP.out
        rw [e1, e2, sameL_nil] at hst
        have HST := Lib.hid hst
        clear hst e1 e2
        go_wp2
        go_ret
        exact ⟨ret1b HST.out, hB.out⟩
  · have HF := Lib.hid (sameL_len a.kids b.kids (by omega))
    have bm : ((m : Int) != (n : Int)) = true := by simp; omega
    clear hmn
    go_enter Tryz.func30, Tryz.ntmps30
    go_wp2
    go_ret
    exact ⟨ret1b HF.out.symm, Below.refl _ _⟩
set_option maxRecDepth 100000 in
set_option maxHeartbeats 2000000 in
theorem ex_Same_step (N : Nat) (IH : Hid (SameAt 11 N)) : SameAt 11 (N + 1) := by
  intro a b hN A m c B n d w ha hb
  obtain ⟨hl, hc, hc9⟩ := ha.out.len
  obtain ⟨hl2, hd, hd9⟩ := hb.out.len
  have HS := sameT_eq a b
  have hz : (w.alloc (.cells #[.int .i64 a.kind, .int .i64 a.num, .slice A m c] 30)).heap.size = w.heap.size + 1 := World.size_alloc _ _
  have hb1 := (Below.refl w.heap.size w).alloc (Nat.le_refl _) (.cells #[.int .i64 a.kind, .int .i64 a.num, .slice A m c] 30)
  have hb2 := hb1.alloc (by rw [hz]; omega) (.cells #[.int .i64 b.kind, .int .i64 b.num, .slice B n d] 30)
  have hk := (Below.refl _ (w.alloc (.cells #[.int .i64 a.kind, .int .i64 a.num, .slice A m c] 30))).alloc (Nat.le_refl _) (.cells #[.int .i64 b.kind, .int .i64 b.num, .slice B n d] 30)
  have x0 := cell_kept hk (cell_new w #[.int .i64 a.kind, .int .i64 a.num, .slice A m c] 30 0 _ rfl)
  have x1 := cell_kept hk (cell_new w #[.int .i64 a.kind, .int .i64 a.num, .slice A m c] 30 1 _ rfl)
  have x2 := cell_kept hk (cell_new w #[.int .i64 a.kind, .int .i64 a.num, .slice A m c] 30 2 _ rfl)
  have y0 := cell_new (w.alloc (.cells #[.int .i64 a.kind, .int .i64 a.num, .slice A m c] 30)) #[.int .i64 b.kind, .int .i64 b.num, .slice B n d] 30 0 _ rfl
  have y1 := cell_new (w.alloc (.cells #[.int .i64 a.kind, .int .i64 a.num, .slice A m c] 30)) #[.int .i64 b.kind, .int .i64 b.num, .slice B n d] 30 1 _ rfl
  have y2 := cell_new (w.alloc (.cells #[.int .i64 a.kind, .int .i64 a.num, .slice A m c] 30)) #[.int .i64 b.kind, .int .i64 b.num, .slice B n d] 30 2 _ rfl
  rw [hz] at y0 y1 y2
  obtain ⟨w1, hw1⟩ : ∃ w1, w1 = (w.alloc (.cells #[.int .i64 a.kind, .int .i64 a.num, .slice A m c] 30)).alloc (.cells #[.int .i64 b.kind, .int .i64 b.num, .slice B n d] 30) := ⟨_, rfl⟩
  obtain ⟨g, hg⟩ : ∃ g, g = w.heap.size := ⟨_, rfl⟩
  have HW1 := Lib.hid hw1
  have HG := Lib.hid hg
  rw [← hw1] at hb2 x0 x1 x2 y0 y1 y2
  rw [← hg] at x0 x1 x2 y0 y1 y2
  have HB1 := Lib.hid hb2
  have HTA := Lib.hid (ha.out.kept hb2)
  have HTB := Lib.hid (hb.out.kept hb2)
  clear hz hb1 hb2 hk hw1 hg
  have CF := ex_EqualFunc N IH a b hN A m c B n d w1 HTA HTB
  obtain ⟨R, hR⟩ : ∃ R, R = sameL a.kids b.kids := ⟨_, rfl⟩
  rw [← hR] at CF HS
  have CFH := Lib.hid CF
  have HSH := Lib.hid HS
  clear hR CF HS
  by_cases hk : a.kind = b.kind
  · have bk : (a.kind == b.kind) = true := by simpa using hk
    by_cases hn : a.num = b.num
    · have bn : (a.num == b.num) = true := by simpa using hn
      have HR : Hid (R = sameT a b) := Lib.hid (by rw [HSH.out, decide_eq_true hk, decide_eq_true hn]; simp)
      clear hk hn
      go_enter Tryz.func11, Tryz.ntmps11
      go_upto_region 1 with fail
      rw [← HG.out, ← HW1.out]
      go_wp2_with fail
      refine CFH.out.mono ?_
      rintro e w5 ⟨rfl, hb5⟩
      have HB5 := Lib.hid (below_then HB1.out hb5)
      clear hb5
      go_wp2_with fail
      go_ret
      exact ⟨ret1b HR.out, HB5.out⟩
    · have bn : (a.num == b.num) = false := by simpa using hn
      have HR : Hid (sameT a b = false) := Lib.hid (by rw [HSH.out, decide_eq_false hn]; simp)
      clear hk hn
      go_enter Tryz.func11, Tryz.ntmps11
      go_upto_region 1 with fail
      rw [← HG.out, ← HW1.out]
      go_wp2_with fail
      go_ret
      exact ⟨ret1b HR.out.symm, HB1.out⟩
  · have bk : (a.kind == b.kind) = false := by simpa using hk
    have HR : Hid (sameT a b = false) := Lib.hid (by rw [HSH.out, decide_eq_false hk]; simp)
    clear hk
    go_enter Tryz.func11, Tryz.ntmps11
    go_upto_region 1 with fail
    rw [← HG.out, ← HW1.out]
    go_wp2_with fail
    go_ret
    exact ⟨ret1b HR.out.symm, HB1.out⟩
theorem ex_Same : ∀ N, SameAt 11 N
  | 0 => fun a b hN _ _ _ _ _ _ _ _ _ => by have := a.sz_pos; omega
  | N + 1 => ex_Same_step N (Lib.hid (ex_Same N))
set_option maxRecDepth 100000 in
set_option maxHeartbeats 4000000 in
theorem r_Same_step (N : Nat) (IH : Hid (SameAt 77 N)) : SameAt 77 (N + 1) := by
  intro a b hN A m c B n d w ha hb
  obtain ⟨hl, hc, hc9⟩ := ha.out.len
  obtain ⟨hl2, hd, hd9⟩ := hb.out.len
  have HS := sameT_eq a b
  have hz : (w.alloc (.cells #[.int .i64 a.kind, .int .i64 a.num, .slice A m c] 30)).heap.size = w.heap.size + 1 := World.size_alloc _ _
  have hb1 := (Below.refl w.heap.size w).alloc (Nat.le_refl _) (.cells #[.int .i64 a.kind, .int .i64 a.num, .slice A m c] 30)
  have hb2 := hb1.alloc (by rw [hz]; omega) (.cells #[.int .i64 b.kind, .int .i64 b.num, .slice B n d] 30)
  have hk := (Below.refl _ (w.alloc (.cells #[.int .i64 a.kind, .int .i64 a.num, .slice A m c] 30))).alloc (Nat.le_refl _) (.cells #[.int .i64 b.kind, .int .i64 b.num, .slice B n d] 30)
  have x0 := cell_kept hk (cell_new w #[.int .i64 a.kind, .int .i64 a.num, .slice A m c] 30 0 _ rfl)
  have x1 := cell_kept hk (cell_new w #[.int .i64 a.kind, .int .i64 a.num, .slice A m c] 30 1 _ rfl)
  have x2 := cell_kept hk (cell_new w #[.int .i64 a.kind, .int .i64 a.num, .slice A m c] 30 2 _ rfl)
  have y0 := cell_new (w.alloc (.cells #[.int .i64 a.kind, .int .i64 a.num, .slice A m c] 30)) #[.int .i64 b.kind, .int .i64 b.num, .slice B n d] 30 0 _ rfl
  have y1 := cell_new (w.alloc (.cells #[.int .i64 a.kind, .int .i64 a.num, .slice A m c] 30)) #[.int .i64 b.kind, .int .i64 b.num, .slice B n d] 30 1 _ rfl
  have y2 := cell_new (w.alloc (.cells #[.int .i64 a.kind, .int .i64 a.num, .slice A m c] 30)) #[.int .i64 b.kind, .int .i64 b.num, .slice B n d] 30 2 _ rfl
  rw [hz] at y0 y1 y2
  obtain ⟨w1, hw1⟩ : ∃ w1, w1 = (w.alloc (.cells #[.int .i64 a.kind, .int .i64 a.num, .slice A m c] 30)).alloc (.cells #[.int .i64 b.kind, .int .i64 b.num, .slice B n d] 30) := ⟨_, rfl⟩
  obtain ⟨g, hg⟩ : ∃ g, g = w.heap.size := ⟨_, rfl⟩
  have HW1 := Lib.hid hw1
  have HG := Lib.hid hg
  rw [← hw1] at hb2 x0 x1 x2 y0 y1 y2
  rw [← hg] at x0 x1 x2 y0 y1 y2
  have HB1 := Lib.hid hb2
  have HTA := Lib.hid (ha.out.kept hb2)
  have HTB := Lib.hid (hb.out.kept hb2)
  clear hz hb1 hb2 hk hw1 hg
  by_cases hk : a.kind = b.kind
  · have bk : (a.kind != b.kind) = false := by simpa using hk
    by_cases hn : a.num = b.num
    · have bn : (a.num != b.num) = false := by simpa using hn
      by_cases hm : m = n
      · subst hm
        have bm : ((m : Int) != (m : Int)) = false := by simp
        obtain ⟨R, hR⟩ : ∃ R, R = sameL a.kids b.kids := ⟨_, rfl⟩
        rw [← hR] at HS
        have HR : Hid (R = sameT a b) := Lib.hid (by rw [HS, decide_eq_true hk, decide_eq_true hn]; simp)
        have HRL := Lib.hid hR
        clear hk hn HS hR
        go_enter Tryz.func77, Tryz.ntmps77
        go_upto_region 1 with fail
        rw [← HG.out, ← HW1.out]
        go_wp2_with fail
        go_loopw [5] (fun v5 wr => ∃ (k : Nat), k ≤ m ∧ v5 = .int .i64 (k : Int) ∧ Hid (sameL (a.kids.drop k) (b.kids.drop k) = R) ∧ Hid (Below w1.heap.size w1 wr)) (fun v5 _ => m - (intOf v5).toNat)
        case atStart => exact ⟨0, by omega, rfl, HRL.out.symm, Below.refl _ _⟩
        case round =>
          obtain ⟨k, hk, rfl, hP, hB⟩ := hrel
          have r2 := cell_kept hB.out x2
          have s2 := cell_kept hB.out y2
          by_cases hlt : k < m
          · obtain ⟨ba, oa, rfl, A', m', c', hK⟩ := (HTA.out.kept hB.out).kid hlt
            obtain ⟨bb, ob, rfl, B', n', d', hL⟩ := (HTB.out.kept hB.out).kid hlt
            have hst := hP.out
            rw [drop_tr (by omega), drop_tr (L := b.kids) (by omega), sameL_cons] at hst
            have hkd := Tr.kid_lt (t := a) (j := k) (by omega)
            obtain ⟨q, hq⟩ : ∃ q, q = a.kids.getD k default := ⟨_, rfl⟩
            obtain ⟨r, hr⟩ : ∃ r, r = b.kids.getD k default := ⟨_, rfl⟩
            rw [← hq] at hK hst hkd
            rw [← hr] at hL hst
            have c0 := hK.c0
            have c1 := hK.c1
            have c2 := hK.c2
            have e0 := hL.c0
            have e1 := hL.c1
            have e2 := hL.c2
            have CQ := Lib.hid (fun W h1 h2 => IH.out q r (by omega) A' m' c' B' n' d' W h1 h2)
            have hdr : Below wr.heap.size wr wr.drew := below_drewN' (Below.refl _ _) 1
            have HTQ := Lib.hid (hK.tr.kept hdr)
            have HTR := Lib.hid (hL.tr.kept hdr)
            have HBD := Lib.hid (below_then hB.out hdr)
            obtain ⟨y, hy⟩ : ∃ y, y = sameT q r := ⟨_, rfl⟩
            rw [← hy] at hst CQ
            have hlt2 : (k : Int) < (m : Int) := by omega
            have hk0 : (0 : Int) ≤ (k : Int) := by omega
            have HST := Lib.hid hst
            clear hK hL hq hr hy hst hdr
            cases y with
            | false =>
              go_wp2_with fail
              go_region_with (go_at_call 77; refine (CQ.out wr.drew HTQ HTR).mono ?_; rintro e w5 ⟨rfl, hb5⟩; have HB5 := Lib.hid (below_then HBD.out hb5); clear hb5)
              all_goals
                go_wp2_with fail
                go_ret
                exact ⟨ret1b (by have := HST.out; rw [Bool.false_and] at this; rw [← HR.out]; exact this), below_then HB1.out HB5.out⟩
            | true =>
              go_wp2_with fail
              go_region_with (go_at_call 77; refine (CQ.out wr.drew HTQ HTR).mono ?_; rintro e w5 ⟨rfl, hb5⟩; have HB5 := Lib.hid (below_then HBD.out hb5); clear hb5)
              all_goals
                go_wp2_with fail
                go_roundw
                case rel => exact ⟨k + 1, by omega, by go_num, by have := HST.out; rw [Bool.true_and] at this; exact this, HB5⟩
                case measure => simp [intOf]; omega
          · have e1 : a.kids.drop k = [] := List.drop_eq_nil_of_le (by omega)
            have e2 : b.kids.drop k = [] := List.drop_eq_nil_of_le (by omega)
            have hst := hP.out
            rw [e1, e2, sameL_nil] at hst
            have HST := Lib.hid hst
            clear hst e1 e2
            go_wp2_with fail
            go_ret
            exact ⟨ret1b (HST.out.trans HR.out), below_then HB1.out hB.out⟩
      · have bm : ((m : Int) != (n : Int)) = true := by simp; omega
        have HR : Hid (sameT a b = false) := Lib.hid (by rw [HS, sameL_len a.kids b.kids (by omega)]; simp)
        clear hk hn hm HS
        go_enter Tryz.func77, Tryz.ntmps77
        go_upto_region 1 with fail
        rw [← HG.out, ← HW1.out]
        go_wp2_with fail
        go_ret
        exact ⟨ret1b HR.out.symm, HB1.out⟩
    · have bn : (a.num != b.num) = true := by simpa using hn
      have HR : Hid (sameT a b = false) := Lib.hid (by rw [HS, decide_eq_false hn]; simp)
      clear hk hn HS
      go_enter Tryz.func77, Tryz.ntmps77
      go_upto_region 1 with fail
      rw [← HG.out, ← HW1.out]
      go_wp2_with fail
      go_ret
      exact ⟨ret1b HR.out.symm, HB1.out⟩
  · have bk : (a.kind != b.kind) = true := by simpa using hk
    have HR : Hid (sameT a b = false) := Lib.hid (by rw [HS, decide_eq_false hk]; simp)
    clear hk HS
    go_enter Tryz.func77, Tryz.ntmps77
    go_upto_region 1 with fail
    rw [← HG.out, ← HW1.out]
    go_wp2_with fail
    go_ret
    exact ⟨ret1b HR.out.symm, HB1.out⟩
theorem r_Same : ∀ N, SameAt 77 N
  | 0 => fun a b hN _ _ _ _ _ _ _ _ _ => by have := a.sz_pos; omega
  | N + 1 => r_Same_step N (Lib.hid (r_Same N))
end Go.Proofs.YtkpjhjoopdbkaaaGreatDoor
namespace Go.Proofs.YtkpjhjoopdbkaaaGreatDoor
open Go.RowKit
theorem beq_str (x : ByteArray) : (x.toList != x.toList) = false := by simp
theorem neq_var (s : ByteArray) (k : Int) (w : World) : (binOp .neq 132 (.agg #[.string s, .int .i64 k]) (.agg #[.string s, .int .i64 k])).run Tryz.prog w = .ok (.bool false) w := by
  rw [run_neq_struct, run_equalIn_agg w 9999 _ _ _ (by kernel_rfl) (by kernel_rfl)]
  have hf : ((Tryz.prog.fieldsOf 132).toList.map fun f => (f.name != "_", f.type, f.offset)) = [(true, 9, 0), (true, 3, 1)] := by kernel_rfl
  obtain ⟨fs, hfs⟩ : ∃ fs, fs = (Tryz.prog.fieldsOf 132).toList := ⟨_, rfl⟩
  rw [← hfs] at hf ⊢
  have p0 : ∀ (x : ByteArray) (y : Int) (w : World), (part 9 #[.string x, .int .i64 y] 0).run Tryz.prog w = .ok (.string x) w := fun _ _ _ => by kernel_rfl
  have p1 : ∀ (x : ByteArray) (y : Int) (w : World), (part 3 #[.string x, .int .i64 y] 1).run Tryz.prog w = .ok (.int .i64 y) w := fun _ _ _ => by kernel_rfl
  have q := fun (x y : Int) (w : World) => run_equalIn_int (P := Tryz.prog) w 9998 3 .i64 .i64 x y Tryz.underlying3
  have q2 := fun (x y : ByteArray) (w : World) => run_equalIn_string (P := Tryz.prog) w 9998 9 x y Tryz.underlying9
  clear hfs
  obtain ⟨f0, f1, rfl⟩ : ∃ f0 f1, fs = [f0, f1] := by
    rcases fs with _ | ⟨f0, _ | ⟨f1, _ | ⟨f2, r⟩⟩⟩
    · simp at hf
    · simp at hf
    · exact ⟨f0, f1, rfl⟩
    · simp at hf
  simp only [List.map_cons, List.map_nil, List.cons.injEq, Prod.mk.injEq, and_true] at hf
  obtain ⟨⟨_, a1, a2⟩, _, b1, b2⟩ := hf
  simp [Op.eqFields, Sem.run_bind, a1, a2, b1, b2, p0, p1, q, q2]
theorem neq_tri (a b c : Int) (w : World) : (binOp .neq 57 (.agg #[.int .i64 a, .int .i64 b, .int .i64 c]) (.agg #[.int .i64 a, .int .i64 b, .int .i64 c])).run Tryz.prog w = .ok (.bool false) w := by
  rw [run_neq_struct, eq_tri a b c a b c w 9998]; simp
set_option maxHeartbeats 1000000 in
theorem r_Strings (A B : Option Addr) (n m c d : Nat) (l : List ByteArray) (w : World) (hA : Hid (Sl w (.slice A n c) n 1 (strCells l))) (hB : Hid (Sl w (.slice B m d) m 1 (strCells l))) (hn : n ≤ 9223372036854775807) :
    Calls Tryz.prog 33 #[.slice A n c, .slice B m d] w fun e w' => e = .returned (.bool true) ∧ ∃ k, w' = w.drewN k := by
  have h1 := hA.out.len
  have h2 := hB.out.len
  have hnm : n = m := by omega
  subst hnm
  clear h1 h2
  go_enter Tryz.func33, Tryz.ntmps33
  go_wp2
  go_loopw [5] (fun v wr => ∃ (k q : Nat), k ≤ n ∧ v = .int .i64 (k : Int) ∧ wr = w.drewN q) (fun v _ => n - (RowKit.intOf v).toNat)
  case atStart => exact ⟨0, 0, by omega, rfl, rfl⟩
  case round =>
    obtain ⟨k, q, hk, rfl, rfl⟩ := hrel
    by_cases hlt : k < n
    · obtain ⟨b1, o1, rfl, c1⟩ := hA.out.str_at hlt
      obtain ⟨b2, o2, rfl, c2⟩ := hB.out.str_at hlt
      obtain ⟨x, hx⟩ : ∃ x, x = l.getD k ByteArray.empty := ⟨_, rfl⟩
      rw [← hx] at c1 c2
      have hxy := beq_str x
      have hlt2 : (k : Int) < (n : Int) := by omega
      have hk0 : (0 : Int) ≤ (k : Int) := by omega
      clear hx
      go_wp2
      go_quiet (fail)
      go_wp2
      go_roundw
      case rel => exact ⟨k + 1, _, by omega, by go_num, rfl⟩
      case measure => simp [RowKit.intOf]; omega
    · go_wp2
      go_ret
      exact ⟨rfl, _, rfl⟩
set_option maxRecDepth 100000 in
set_option maxHeartbeats 4000000 in
theorem r_arcs (A B : Option Addr) (n m c d : Nat) (l : List Ar) (w : World) (hA : Hid (SlOf 4 ArAt w A n c l)) (hB : Hid (SlOf 4 ArAt w B m d l)) :
    Calls Tryz.prog 78 #[.slice A n c, .slice B m d] w fun e w' => e = .returned (.bool true) ∧ Below w.heap.size w w' := by
  obtain ⟨h1, _, h9⟩ := hA.out.len
  have h2 := hB.out.len.1
  have hnm : n = m := by omega
  subst hnm
  have HN := Lib.hid (show n ≤ 9223372036854775807 by have := hA.out.len; omega)
  clear h1 h2 h9
  go_enter Tryz.func78, Tryz.ntmps78
  go_wp2_with fail
  go_loopw [5] (fun v wr => ∃ (k : Nat), k ≤ n ∧ v = .int .i64 (k : Int) ∧ Hid (Below w.heap.size w wr)) (fun v _ => n - (RowKit.intOf v).toNat)
  case atStart => exact ⟨0, by omega, rfl, Lib.hid (Below.refl _ _)⟩
  case round =>
    obtain ⟨k, hk, rfl, hBW⟩ := hrel
    have hn9 := HN.out
    by_cases hlt : k < n
    · obtain ⟨b1, o1, rfl, Aa, ma, ca, P⟩ := (hA.out.below ArAt.stays hBW.out).at_ hlt
      obtain ⟨b2, o2, rfl, Ab, mb, cb, Q⟩ := (hB.out.below ArAt.stays hBW.out).at_ hlt
      have HP := Lib.hid P.tr
      have HQ := Lib.hid Q.tr
      obtain ⟨x, hx⟩ : ∃ x, x = l.getD k default := ⟨_, rfl⟩
      rw [← hx] at P Q HP HQ
      have c0 := P.c0
      have c1 := P.c1
      have c2 := P.c2
      have c3 := P.c3
      have d0 := Q.c0
      have d1 := Q.c1
      have d2 := Q.c2
      have d3 := Q.c3
      have CS := Lib.hid (show Calls Tryz.prog 77 #[x.expr.val Aa ma ca, x.expr.val Ab mb cb] wr.drew fun e w' => e = .returned (.bool true) ∧ Below wr.heap.size wr w' by
        have h := r_Same x.expr.sz x.expr x.expr (Nat.le_refl _) Aa ma ca Ab mb cb wr.drew (Lib.hid (HP.out.kept (below_drewN' (Below.refl _ _) 1))) (Lib.hid (HQ.out.kept (below_drewN' (Below.refl _ _) 1)))
        rw [sameT_self] at h
        exact h.mono fun e w' q => ⟨q.1, below_then (below_drewN' (Below.refl _ _) 1) q.2⟩)
      have bn : (x.place != x.place) = false := by simp
      have hlt2 : (k : Int) < (n : Int) := by omega
      have hk0 : (0 : Int) ≤ (k : Int) := by omega
      clear hx P Q
      go_wp2_with fail
      have HC := Lib.hid (show ∀ W, Below wr.heap.size wr W → W.cell? ⟨b1, o1 + k * 4, none⟩ = some (.int .i64 x.place) ∧ W.cell? ⟨b1, o1 + k * 4 + 1, none⟩ = some (.int .i64 x.expr.kind) ∧ W.cell? ⟨b1, o1 + k * 4 + 2, none⟩ = some (.int .i64 x.expr.num) ∧ W.cell? ⟨b1, o1 + k * 4 + 3, none⟩ = some (.slice Aa ma ca) ∧ W.cell? ⟨b2, o2 + k * 4, none⟩ = some (.int .i64 x.place) ∧ W.cell? ⟨b2, o2 + k * 4 + 1, none⟩ = some (.int .i64 x.expr.kind) ∧ W.cell? ⟨b2, o2 + k * 4 + 2, none⟩ = some (.int .i64 x.expr.num) ∧ W.cell? ⟨b2, o2 + k * 4 + 3, none⟩ = some (.slice Ab mb cb) from fun W h => ⟨cell_kept h c0, cell_kept h c1, cell_kept h c2, cell_kept h c3, cell_kept h d0, cell_kept h d1, cell_kept h d2, cell_kept h d3⟩)
      have BD := Lib.hid (below_drewN' (Below.refl wr.heap.size wr) 1)
      go_region_held3 (fun W => W.cell? ⟨b1, o1 + k * 4, none⟩ = some (.int .i64 x.place) ∧ W.cell? ⟨b1, o1 + k * 4 + 1, none⟩ = some (.int .i64 x.expr.kind) ∧ W.cell? ⟨b1, o1 + k * 4 + 2, none⟩ = some (.int .i64 x.expr.num) ∧ W.cell? ⟨b1, o1 + k * 4 + 3, none⟩ = some (.slice Aa ma ca) ∧ W.cell? ⟨b2, o2 + k * 4, none⟩ = some (.int .i64 x.place) ∧ W.cell? ⟨b2, o2 + k * 4 + 1, none⟩ = some (.int .i64 x.expr.kind) ∧ W.cell? ⟨b2, o2 + k * 4 + 2, none⟩ = some (.int .i64 x.expr.num) ∧ W.cell? ⟨b2, o2 + k * 4 + 3, none⟩ = some (.slice Ab mb cb))
        (first | exact HC.out _ BD1.out | exact HC.out _ BD.out)
        (first
          | (go_at_call 77; refine CS.out.mono ?_; rintro e w5 ⟨rfl, hb5⟩; have BD1 := Lib.hid hb5; clear hb5))
      all_goals
        go_wp2_with fail
        go_roundw
        case rel => exact ⟨k + 1, by omega, by go_num, Lib.hid (below_then hBW.out BD1.out)⟩
        case measure => simp [RowKit.intOf]; omega
    · go_wp2
      go_ret
      exact ⟨rfl, hBW.out⟩
end Go.Proofs.YtkpjhjoopdbkaaaGreatDoor
namespace Go.Proofs.YtkpjhjoopdbkaaaGreatDoor
open Go.RowKit
/-- What a task's slices lead to. -/
structure TkS (w : World) (Aav : Option Addr) (nav cav : Nat) (Aag : Option Addr) (nag cag : Nat) (Aai : Option Addr) (nai cai : Nat) (Aao : Option Addr) (nao cao : Nat) (Aac : Option Addr) (nac cac : Nat) (t : Tk) : Prop where
  vars : SlOf 2 VrAt w Aav nav cav t.vars
  guard : TrAt w Aag nag cag t.guard
  ins : SlOf 4 ArAt w Aai nai cai t.ins
  outs : SlOf 4 ArAt w Aao nao cao t.outs
  cancel : Sl w (.slice Aac nac cac) nac 1 (intCells t.cancel)
theorem TkS.below {w w' : World} {Aav : Option Addr} {nav cav : Nat} {Aag : Option Addr} {nag cag : Nat} {Aai : Option Addr} {nai cai : Nat} {Aao : Option Addr} {nao cao : Nat} {Aac : Option Addr} {nac cac : Nat} {t : Tk} (h : TkS w Aav nav cav Aag nag cag Aai nai cai Aao nao cao Aac nac cac t) (hb : Below w.heap.size w w') : TkS w' Aav nav cav Aag nag cag Aai nai cai Aao nao cao Aac nac cac t :=
  ⟨h.vars.below VrAt.stays hb, h.guard.kept hb, h.ins.below ArAt.stays hb, h.outs.below ArAt.stays hb, h.cancel.below hb⟩
theorem TkAt'.tks {w : World} {b o : Nat} {Aav : Option Addr} {nav cav : Nat} {Aag : Option Addr} {nag cag : Nat} {Aai : Option Addr} {nai cai : Nat} {Aao : Option Addr} {nao cao : Nat} {Aac : Option Addr} {nac cac : Nat} {t : Tk} (h : TkAt' w b o Aav nav cav Aag nag cag Aai nai cai Aao nao cao Aac nac cac t) : TkS w Aav nav cav Aag nag cag Aai nai cai Aao nao cao Aac nac cac t := ⟨h.vars, h.guard, h.ins, h.outs, h.cancel⟩
set_option maxRecDepth 100000 in
set_option maxHeartbeats 16000000 in
theorem r_SameTask (t : Tk) (Aav : Option Addr) (nav cav : Nat) (Aag : Option Addr) (nag cag : Nat) (Aai : Option Addr) (nai cai : Nat) (Aao : Option Addr) (nao cao : Nat) (Aac : Option Addr) (nac cac : Nat) (Abv : Option Addr) (nbv cbv : Nat) (Abg : Option Addr) (nbg cbg : Nat) (Abi : Option Addr) (nbi cbi : Nat) (Abo : Option Addr) (nbo cbo : Nat) (Abc : Option Addr) (nbc cbc : Nat) (w : World) (ha : Hid (TkS w Aav nav cav Aag nag cag Aai nai cai Aao nao cao Aac nac cac t)) (hb : Hid (TkS w Abv nbv cbv Abg nbg cbg Abi nbi cbi Abo nbo cbo Abc nbc cbc t)) :
    Calls Tryz.prog 34 #[t.val Aav nav cav Aag nag cag Aai nai cai Aao nao cao Aac nac cac, t.val Abv nbv cbv Abg nbg cbg Abi nbi cbi Abo nbo cbo Abc nbc cbc] w fun e w' => e = .returned (.bool true) ∧ Below w.heap.size w w' := by
  obtain ⟨w1, hw1⟩ : ∃ y, y = (w.alloc (.cells #[.string t.name, .slice Aav nav cav, .int .i64 t.guard.kind, .int .i64 t.guard.num, .slice Aag nag cag, .int .i64 t.join, .int .i64 t.split, .slice Aai nai cai, .slice Aao nao cao, .slice Aac nac cac, .int .i64 t.after, .int .i64 t.m0, .int .i64 t.m1, .int .i64 t.m2] 59)).alloc (.cells #[.string t.name, .slice Abv nbv cbv, .int .i64 t.guard.kind, .int .i64 t.guard.num, .slice Abg nbg cbg, .int .i64 t.join, .int .i64 t.split, .slice Abi nbi cbi, .slice Abo nbo cbo, .slice Abc nbc cbc, .int .i64 t.after, .int .i64 t.m0, .int .i64 t.m1, .int .i64 t.m2] 59) := ⟨_, rfl⟩
  have HB1 := Lib.hid (show Below w.heap.size w w1 by rw [hw1]; exact below_then (alrB w _) (alrB _ _))
  have hsz : (w.alloc (.cells #[.string t.name, .slice Aav nav cav, .int .i64 t.guard.kind, .int .i64 t.guard.num, .slice Aag nag cag, .int .i64 t.join, .int .i64 t.split, .slice Aai nai cai, .slice Aao nao cao, .slice Aac nac cac, .int .i64 t.after, .int .i64 t.m0, .int .i64 t.m1, .int .i64 t.m2] 59)).heap.size = w.heap.size + 1 := World.size_alloc _ _
  have RA := Lib.hid (show w1.heap[w.heap.size]? = some (.cells #[.string t.name, .slice Aav nav cav, .int .i64 t.guard.kind, .int .i64 t.guard.num, .slice Aag nag cag, .int .i64 t.join, .int .i64 t.split, .slice Aai nai cai, .slice Aao nao cao, .slice Aac nac cac, .int .i64 t.after, .int .i64 t.m0, .int .i64 t.m1, .int .i64 t.m2] 59 (0, 0)) by rw [hw1]; exact row_alloc (heap_alloc_new w _) _)
  have RB := Lib.hid (show w1.heap[w.heap.size + 1]? = some (.cells #[.string t.name, .slice Abv nbv cbv, .int .i64 t.guard.kind, .int .i64 t.guard.num, .slice Abg nbg cbg, .int .i64 t.join, .int .i64 t.split, .slice Abi nbi cbi, .slice Abo nbo cbo, .slice Abc nbc cbc, .int .i64 t.after, .int .i64 t.m0, .int .i64 t.m1, .int .i64 t.m2] 59 (0, 0)) by rw [hw1, ← hsz]; exact heap_alloc_new _ _)
  have HW := Lib.hid hw1.symm
  obtain ⟨g, hg⟩ : ∃ y, y = w.heap.size := ⟨_, rfl⟩
  have HG := Lib.hid hg.symm
  rw [← hg] at RA RB
  have HTA := Lib.hid (ha.out.below HB1.out)
  have HTB := Lib.hid (hb.out.below HB1.out)
  have HC := Lib.hid (show ∀ W, Below w1.heap.size w1 W → W.cell? ⟨g, 0, none⟩ = some (.string t.name) ∧ W.cell? ⟨g, 1, none⟩ = some (.slice Aav nav cav) ∧ W.cell? ⟨g, 2, none⟩ = some (.int .i64 t.guard.kind) ∧ W.cell? ⟨g, 3, none⟩ = some (.int .i64 t.guard.num) ∧ W.cell? ⟨g, 4, none⟩ = some (.slice Aag nag cag) ∧ W.cell? ⟨g, 5, none⟩ = some (.int .i64 t.join) ∧ W.cell? ⟨g, 6, none⟩ = some (.int .i64 t.split) ∧ W.cell? ⟨g, 7, none⟩ = some (.slice Aai nai cai) ∧ W.cell? ⟨g, 8, none⟩ = some (.slice Aao nao cao) ∧ W.cell? ⟨g, 9, none⟩ = some (.slice Aac nac cac) ∧ W.cell? ⟨g, 10, none⟩ = some (.int .i64 t.after) ∧ W.cell? ⟨g, 11, none⟩ = some (.int .i64 t.m0) ∧ W.cell? ⟨g, 12, none⟩ = some (.int .i64 t.m1) ∧ W.cell? ⟨g, 13, none⟩ = some (.int .i64 t.m2) ∧ W.cell? ⟨g + 1, 0, none⟩ = some (.string t.name) ∧ W.cell? ⟨g + 1, 1, none⟩ = some (.slice Abv nbv cbv) ∧ W.cell? ⟨g + 1, 2, none⟩ = some (.int .i64 t.guard.kind) ∧ W.cell? ⟨g + 1, 3, none⟩ = some (.int .i64 t.guard.num) ∧ W.cell? ⟨g + 1, 4, none⟩ = some (.slice Abg nbg cbg) ∧ W.cell? ⟨g + 1, 5, none⟩ = some (.int .i64 t.join) ∧ W.cell? ⟨g + 1, 6, none⟩ = some (.int .i64 t.split) ∧ W.cell? ⟨g + 1, 7, none⟩ = some (.slice Abi nbi cbi) ∧ W.cell? ⟨g + 1, 8, none⟩ = some (.slice Abo nbo cbo) ∧ W.cell? ⟨g + 1, 9, none⟩ = some (.slice Abc nbc cbc) ∧ W.cell? ⟨g + 1, 10, none⟩ = some (.int .i64 t.after) ∧ W.cell? ⟨g + 1, 11, none⟩ = some (.int .i64 t.m0) ∧ W.cell? ⟨g + 1, 12, none⟩ = some (.int .i64 t.m1) ∧ W.cell? ⟨g + 1, 13, none⟩ = some (.int .i64 t.m2) from fun W h =>
    ⟨row_cell (row_below RA.out h) 0 _ rfl, row_cell (row_below RA.out h) 1 _ rfl, row_cell (row_below RA.out h) 2 _ rfl, row_cell (row_below RA.out h) 3 _ rfl, row_cell (row_below RA.out h) 4 _ rfl, row_cell (row_below RA.out h) 5 _ rfl, row_cell (row_below RA.out h) 6 _ rfl, row_cell (row_below RA.out h) 7 _ rfl, row_cell (row_below RA.out h) 8 _ rfl, row_cell (row_below RA.out h) 9 _ rfl, row_cell (row_below RA.out h) 10 _ rfl, row_cell (row_below RA.out h) 11 _ rfl, row_cell (row_below RA.out h) 12 _ rfl, row_cell (row_below RA.out h) 13 _ rfl, row_cell (row_below RB.out h) 0 _ rfl, row_cell (row_below RB.out h) 1 _ rfl, row_cell (row_below RB.out h) 2 _ rfl, row_cell (row_below RB.out h) 3 _ rfl, row_cell (row_below RB.out h) 4 _ rfl, row_cell (row_below RB.out h) 5 _ rfl, row_cell (row_below RB.out h) 6 _ rfl, row_cell (row_below RB.out h) 7 _ rfl, row_cell (row_below RB.out h) 8 _ rfl, row_cell (row_below RB.out h) 9 _ rfl, row_cell (row_below RB.out h) 10 _ rfl, row_cell (row_below RB.out h) 11 _ rfl, row_cell (row_below RB.out h) 12 _ rfl, row_cell (row_below RB.out h) 13 _ rfl⟩)
  obtain ⟨z0, z1, z2, z3, z4, z5, z6, z7, z8, z9, z10, z11, z12, z13, z14, z15, z16, z17, z18, z19, z20, z21, z22, z23, z24, z25, z26, z27⟩ := HC.out w1 (Below.refl _ _)
  obtain rfl : nav = nbv := (HTA.out.vars.len.1.symm.trans HTB.out.vars.len.1)
  have HN := Lib.hid (show nav ≤ 9223372036854775807 by have := HTA.out.vars.len; omega)
  have CG := Lib.hid (fun W (h : Below w1.heap.size w1 W) => (show Calls Tryz.prog 77 #[t.guard.val Aag nag cag, t.guard.val Abg nbg cbg] W fun e w' => e = .returned (.bool true) ∧ Below W.heap.size W w' by
    have q := r_Same t.guard.sz t.guard t.guard (Nat.le_refl _) Aag nag cag Abg nbg cbg W (Lib.hid (HTA.out.guard.kept h)) (Lib.hid (HTB.out.guard.kept h))
    rw [sameT_self] at q
    exact q))
  have CI := Lib.hid (fun W (h : Below w1.heap.size w1 W) => r_arcs Aai Abi nai nbi cai cbi t.ins W (Lib.hid (HTA.out.ins.below ArAt.stays h)) (Lib.hid (HTB.out.ins.below ArAt.stays h)))
  have CO := Lib.hid (fun W (h : Below w1.heap.size w1 W) => r_arcs Aao Abo nao nbo cao cbo t.outs W (Lib.hid (HTA.out.outs.below ArAt.stays h)) (Lib.hid (HTB.out.outs.below ArAt.stays h)))
  have CC := Lib.hid (fun W (h : Below w1.heap.size w1 W) => (show Calls Tryz.prog 79 #[.slice Aac nac cac, .slice Abc nbc cbc] W fun e w' => e = .returned (.bool true) ∧ ∃ k, w' = W.drewN k by
    have q := ref_Ints Aac Abc nac nbc cac cbc t.cancel t.cancel W (Lib.hid (HTA.out.cancel.below h)) (Lib.hid (HTB.out.cancel.below h)) (by have h1 := HTA.out.cancel; obtain ⟨_, _, e, q1, q2, _⟩ := h1; injection e with e1 e2 e3; omega) (by have h1 := HTB.out.cancel; obtain ⟨_, _, e, q1, q2, _⟩ := h1; injection e with e1 e2 e3; omega)
    simpa using q))
  have nt := neq_tri
  have bs := beq_str
  have bi : ∀ x : Int, (x != x) = false := fun x => by simp
  clear hsz hw1 hg
  go_enter Tryz.func34, Tryz.ntmps34
  go_upto_region 1 with fail
  rw [HG.out, HW.out]
  go_wp2_with (go_at_call 77; refine (CG.out w1 (Below.refl _ _)).mono ?_; rintro e w2 ⟨rfl, hB2⟩; have HB2 := Lib.hid hB2; clear hB2)
  clear z0 z1 z2 z3 z4 z5 z6 z7 z8 z9 z10 z11 z12 z13 z14 z15 z16 z17 z18 z19 z20 z21 z22 z23 z24 z25 z26 z27 nt bs bi
  go_loopw [5] (fun v wr => ∃ (k : Nat), k ≤ nav ∧ v = .int .i64 (k : Int) ∧ Hid (Below w1.heap.size w1 wr)) (fun v _ => nav - (RowKit.intOf v).toNat)
  case atStart => exact ⟨0, by omega, rfl, HB2⟩
  case round =>
    obtain ⟨k, hk, rfl, hBW⟩ := hrel
    obtain ⟨z0, z1, z2, z3, z4, z5, z6, z7, z8, z9, z10, z11, z12, z13, z14, z15, z16, z17, z18, z19, z20, z21, z22, z23, z24, z25, z26, z27⟩ := HC.out wr hBW.out
    have hn9 := HN.out
    by_cases hlt : k < nav
    · obtain ⟨b1, o1, rfl, P⟩ := (HTA.out.vars.below VrAt.stays hBW.out).at_ hlt
      obtain ⟨b2, o2, rfl, Q⟩ := (HTB.out.vars.below VrAt.stays hBW.out).at_ hlt
      obtain ⟨x, hx⟩ : ∃ x, x = t.vars.getD k default := ⟨_, rfl⟩
      rw [← hx] at P Q
      have c0 := P.c0
      have c1 := P.c1
      have d0 := Q.c0
      have d1 := Q.c1
      have nv := neq_var x.name x.colour
      have hlt2 : (k : Int) < (nav : Int) := by omega
      have hk0 : (0 : Int) ≤ (k : Int) := by omega
      clear hx P Q
      go_wp2
      go_quiet (fail)
      go_wp2
      go_roundw
      case rel => exact ⟨k + 1, by omega, by go_num, Lib.hid (below_drewN' hBW.out _)⟩
      case measure => simp [RowKit.intOf]; omega
    · go_wp2_with fail
      refine (CI.out _ hBW.out).mono ?_
      rintro e w3 ⟨rfl, hB3⟩
      have HB3 := Lib.hid (below_then hBW.out hB3)
      clear hB3 z0 z1 z2 z3 z4 z5 z6 z7 z8 z9 z10 z11 z12 z13 z14 z15 z16 z17 z18 z19 z20 z21 z22 z23 z24 z25 z26 z27
      obtain ⟨z0, z1, z2, z3, z4, z5, z6, z7, z8, z9, z10, z11, z12, z13, z14, z15, z16, z17, z18, z19, z20, z21, z22, z23, z24, z25, z26, z27⟩ := HC.out w3 HB3.out
      go_wp2_with fail
      refine (CO.out _ HB3.out).mono ?_
      rintro e w4 ⟨rfl, hB4⟩
      have HB4 := Lib.hid (below_then HB3.out hB4)
      clear hB4 z0 z1 z2 z3 z4 z5 z6 z7 z8 z9 z10 z11 z12 z13 z14 z15 z16 z17 z18 z19 z20 z21 z22 z23 z24 z25 z26 z27
      obtain ⟨z0, z1, z2, z3, z4, z5, z6, z7, z8, z9, z10, z11, z12, z13, z14, z15, z16, z17, z18, z19, z20, z21, z22, z23, z24, z25, z26, z27⟩ := HC.out w4 HB4.out
      go_wp2_with fail
      refine (CC.out _ HB4.out).mono ?_
      rintro e w5 ⟨rfl, q, rfl⟩
      go_wp2
      go_ret
      exact ⟨rfl, below_then HB1.out (below_drewN' HB4.out q)⟩
end Go.Proofs.YtkpjhjoopdbkaaaGreatDoor
