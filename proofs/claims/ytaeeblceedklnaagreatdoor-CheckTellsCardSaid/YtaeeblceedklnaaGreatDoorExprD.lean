/- parts, Right: the program's. -/
import Derived.Test.YtaeeblceedklnaaGreatDoorExprC
namespace Go.Proofs.YtaeeblceedklnaaGreatDoor
open Go.RowKit
def kidsN (k : Int) : Int := if k = 1 ∨ k = 2 then 0 else if k = 3 ∨ k = 4 then 1 else if k = 5 then 2 else if k = 6 then 3 else -1
/-- Is a part by itself right? -/
def okN (vars k n : Int) (m : Nat) : Bool := decide ((m : Int) = kidsN k) && !(decide (k = 2) && (decide (n < 0) || decide (vars ≤ n))) && !(decide (k = 5) && !knownB n)
mutual
def partsT (vars : Int) : Tr → Bool
  | .mk k n l => okN vars k n l.length && partsL vars l
def partsL (vars : Int) : List Tr → Bool
  | [] => true
  | t :: r => partsT vars t && partsL vars r
end
theorem partsT_eq (vars : Int) (t : Tr) : partsT vars t = (okN vars t.kind t.num t.kids.length && partsL vars t.kids) := by
  obtain ⟨k, n, l⟩ := t
  rw [partsT]; rfl
theorem partsL_cons (vars : Int) (t : Tr) (r : List Tr) : partsL vars (t :: r) = (partsT vars t && partsL vars r) := by rw [partsL]
set_option maxHeartbeats 1000000 in
theorem ex_kids (k : Int) (w : World) : Calls Tryz.prog 132 #[.int .i64 k] w fun e w' => e = .returned (.int .i64 (kidsN k)) ∧ w = w' := by
  go_enter Tryz.func132, Tryz.ntmps132
  go_wp2
  all_goals
    go_ret
    exact ⟨ret1 (by simp_all [kidsN]), rfl⟩
/-- The contract of parts, at trees of so many parts. -/
def PartsAt (vars : Int) (N : Nat) : Prop := ∀ (t : Tr), t.sz ≤ N → ∀ (A : Option Addr) (m c : Nat) (w : World), Hid (TrAt w A m c t) → Calls Tryz.prog 86 #[t.val A m c, .int .i64 vars] w fun e w' => e = .returned (.bool (partsT vars t)) ∧ Below w.heap.size w w'
set_option maxRecDepth 100000 in
set_option maxHeartbeats 1000000 in
theorem ex_parts1 (vars : Int) (N g : Nat) (IH : Hid (PartsAt vars N)) (t : Tr) (hN : t.sz ≤ N) (A : Option Addr) (m c : Nat) (w : World) (h : Hid (TrAt w A m c t)) (hg : Hid (w.cell? ⟨g, 0, none⟩ = some (.int .i64 vars))) :
    Calls Tryz.prog 135 #[t.val A m c, .pointer (some ⟨g, 0, none⟩)] w fun e w' => e = .returned (.bool (!partsT vars t)) ∧ Below w.heap.size w w' := by
  have hb1 := (Below.refl w.heap.size w).alloc (Nat.le_refl _) (.cells #[.int .i64 t.kind, .int .i64 t.num, .slice A m c] 49)
  have HB1 := Lib.hid hb1
  have g1 := cell_kept hb1 hg.out
  have cP := Lib.hid (IH.out t hN A m c _ (Lib.hid (h.out.kept hb1)))
  obtain ⟨x, hx⟩ : ∃ x, x = partsT vars t := ⟨_, rfl⟩
  rw [← hx] at cP ⊢
  clear hx hb1
  go_enter Tryz.func135, Tryz.ntmps135
  go_wp2_with (go_at_call 86; refine cP.out.mono ?_; rintro e w5 ⟨rfl, hb5⟩; have HB5 := Lib.hid (below_then HB1.out hb5); clear hb5)
  go_ret
  exact ⟨rfl, HB5.out⟩
set_option maxRecDepth 100000 in
set_option maxHeartbeats 2000000 in
theorem ex_IndexFunc (vars : Int) (N g : Nat) (IH : Hid (PartsAt vars N)) (t : Tr) (hN : t.sz ≤ N + 1) (A : Option Addr) (m c : Nat) (w : World) (h : Hid (TrAt w A m c t)) (hg : Hid (w.cell? ⟨g, 0, none⟩ = some (.int .i64 vars))) :
    Calls Tryz.prog 152 #[.slice A m c, .func (.func 135) #[] #[.pointer (some ⟨g, 0, none⟩)]] w fun e w' => (∃ x : Int, e = .returned (.int .i64 x) ∧ Hid (decide (0 ≤ x) = !partsL vars t.kids)) ∧ Below w.heap.size w w' := by
  obtain ⟨hl, hc, hc9⟩ := h.out.len
  obtain ⟨R, hR⟩ : ∃ R, R = partsL vars t.kids := ⟨_, rfl⟩
  have HR := Lib.hid hR
  rw [← hR]
  clear hR
  go_enter Tryz.func152, Tryz.ntmps152
  go_wp2
  go_loopw [8] (fun v8 wr => ∃ (k : Nat), k ≤ m ∧ v8 = .int .i64 (k : Int) ∧ Hid (partsL vars (t.kids.drop k) = R) ∧ Hid (Below w.heap.size w wr)) (fun v8 _ => m - (intOf v8).toNat)
  case atStart => exact ⟨0, by omega, rfl, HR.out.symm, Below.refl _ _⟩
  case round =>
    obtain ⟨k, hk, rfl, hP, hB⟩ := hrel
    by_cases hlt : k < m
    · obtain ⟨b, off, rfl, A', m', c', hK⟩ := (h.out.kept hB.out).kid hlt
      have hst := hP.out
      rw [drop_tr (by omega), partsL_cons] at hst
      have hkd := Tr.kid_lt (t := t) (j := k) (by omega)
      obtain ⟨q, hq⟩ : ∃ q, q = t.kids.getD k default := ⟨_, rfl⟩
      rw [← hq] at hK hst hkd
      have c0 := hK.c0
      have c1 := hK.c1
      have c2 := hK.c2
      have cQ := ex_parts1 vars N g IH q (by omega) A' m' c' wr (Lib.hid hK.tr) (Lib.hid (cell_kept hB.out hg.out))
      obtain ⟨y, hy⟩ : ∃ y, y = partsT vars q := ⟨_, rfl⟩
      rw [← hy] at hst cQ
      have CQ := Lib.hid cQ
      have hlt2 : (k : Int) < (m : Int) := by omega
      have hk0 : (0 : Int) ≤ (k : Int) := by omega
      have HST := Lib.hid hst
      clear hK hq hy hst cQ
      cases y with
      | false =>
        go_wp2_with (go_at_call 135; refine CQ.out.mono ?_; rintro e w5 ⟨rfl, hb5⟩; have HB5 := Lib.hid (hB.out.trans (hb5.mono hB.out.size)); clear hb5)
        go_ret
        refine ⟨⟨_, rfl, ?_⟩, HB5.out⟩
        show decide (0 ≤ (k : Int)) = !R
        rw [← HST.out]
        simp
      | true =>
        go_wp2_with (go_at_call 135; refine CQ.out.mono ?_; rintro e w5 ⟨rfl, hb5⟩; have HB5 := Lib.hid (hB.out.trans (hb5.mono hB.out.size)); clear hb5)
        go_roundw
        case rel => exact ⟨k + 1, by omega, by go_num, by have := HST.out; rw [Bool.true_and] at this; exact this, HB5⟩
        case measure => simp [intOf]; omega
    · have e1 : t.kids.drop k = [] := List.drop_eq_nil_of_le (by omega)
      have hst := hP.out
      rw [e1, partsL] at hst
      have HST := Lib.hid hst
      clear hst e1
      go_wp2
      go_ret
      refine ⟨⟨_, rfl, ?_⟩, hB.out⟩
      show decide ((0 : Int) ≤ -1) = !R
      rw [← HST.out]
      rfl
set_option maxRecDepth 100000 in
set_option maxHeartbeats 1000000 in
theorem ex_ContainsFunc (vars : Int) (N g : Nat) (IH : Hid (PartsAt vars N)) (t : Tr) (hN : t.sz ≤ N + 1) (A : Option Addr) (m c : Nat) (w : World) (h : Hid (TrAt w A m c t)) (hg : Hid (w.cell? ⟨g, 0, none⟩ = some (.int .i64 vars))) :
    Calls Tryz.prog 134 #[.slice A m c, .func (.func 135) #[] #[.pointer (some ⟨g, 0, none⟩)]] w fun e w' => e = .returned (.bool (!partsL vars t.kids)) ∧ Below w.heap.size w w' := by
  have cI := Lib.hid (ex_IndexFunc vars N g IH t hN A m c w h hg)
  go_enter Tryz.func134, Tryz.ntmps134
  go_wp2_with (go_at_call 152; refine cI.out.mono ?_; rintro e w5 ⟨⟨x, rfl, hx⟩, hb5⟩; have HB5 := Lib.hid hb5; clear hb5)
  go_ret
  exact ⟨ret1b hx.out, HB5.out⟩
end Go.Proofs.YtaeeblceedklnaaGreatDoor
