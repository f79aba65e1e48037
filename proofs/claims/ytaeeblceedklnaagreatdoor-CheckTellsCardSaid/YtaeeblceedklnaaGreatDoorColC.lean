/- Package colour: colours in memory; size. -/
import Derived.Test.YtaeeblceedklnaaGreatDoorColB
import Derived.Test.YtaeeblceedklnaaGreatDoorExprB
namespace Go.Proofs.YtaeeblceedklnaaGreatDoor
open Go.RowKit
structure Col where
  name : ByteArray
  kind : Int
  lo : Int
  hi : Int
  names : List ByteArray
  first : Int
  then_ : Int
instance : Inhabited Col := ⟨⟨ByteArray.empty, 0, 0, 0, [], 0, 0⟩⟩
def Col.ok (c : Col) : Prop := I64 c.kind ∧ I64 c.lo ∧ I64 c.hi ∧ I64 c.first ∧ I64 c.then_
/-- A colour's value, with its slice of names. -/
abbrev Col.val (c : Col) (A : Option Addr) (n d : Nat) : Value := .agg #[.string c.name, .int .i64 c.kind, .int .i64 c.lo, .int .i64 c.hi, .slice A n d, .int .i64 c.first, .int .i64 c.then_]
/-- A colour's cells. -/
structure ColAt (w : World) (b o : Nat) (A : Option Addr) (n d : Nat) (c : Col) : Prop where
  c0 : w.cell? ⟨b, o, none⟩ = some (.string c.name)
  c1 : w.cell? ⟨b, o + 1, none⟩ = some (.int .i64 c.kind)
  c2 : w.cell? ⟨b, o + 2, none⟩ = some (.int .i64 c.lo)
  c3 : w.cell? ⟨b, o + 3, none⟩ = some (.int .i64 c.hi)
  c4 : w.cell? ⟨b, o + 4, none⟩ = some (.slice A n d)
  c5 : w.cell? ⟨b, o + 5, none⟩ = some (.int .i64 c.first)
  c6 : w.cell? ⟨b, o + 6, none⟩ = some (.int .i64 c.then_)
  names : Sl w (.slice A n d) n 1 (strCells c.names)
  ok : c.ok
theorem ColAt.below {w w' : World} {b o n d : Nat} {A : Option Addr} {c : Col} (h : ColAt w b o A n d c) (hb : Below w.heap.size w w') : ColAt w' b o A n d c :=
  ⟨cell_kept hb h.c0, cell_kept hb h.c1, cell_kept hb h.c2, cell_kept hb h.c3, cell_kept hb h.c4, cell_kept hb h.c5, cell_kept hb h.c6, h.names.below hb, h.ok⟩
theorem ColAt.len {w : World} {b o n d : Nat} {A : Option Addr} {c : Col} (h : ColAt w b o A n d c) : c.names.length = n ∧ n ≤ 9223372036854775807 := by
  have h1 := h.names.len
  rw [strCells_len] at h1
  obtain ⟨_, _, e, h2, h3, _⟩ := h.names
  exact ⟨by omega, by omega⟩
/-- Colours in a row. -/
def Cols (w : World) (A : Option Addr) (n c : Nat) (L : List Col) : Prop :=
  n ≤ c ∧ c ≤ 9223372036854775807 ∧ L.length = n ∧ (0 < n → ∃ b off, A = some ⟨b, off, none⟩ ∧ ∀ k, k < n → ∃ B m d, ColAt w b (off + k * 7) B m d (L.getD k default))
theorem Cols.below {w w' : World} {A : Option Addr} {n c : Nat} {L : List Col} (h : Cols w A n c L) (hb : Below w.heap.size w w') : Cols w' A n c L := by
  refine ⟨h.1, h.2.1, h.2.2.1, fun hn => ?_⟩
  obtain ⟨b, off, e, hc⟩ := h.2.2.2 hn
  refine ⟨b, off, e, fun k hk => ?_⟩
  obtain ⟨B, m, d, h1⟩ := hc k hk
  exact ⟨B, m, d, h1.below hb⟩
theorem Cols.at_ {w : World} {A : Option Addr} {n c : Nat} {L : List Col} (h : Cols w A n c L) {k : Nat} (hk : k < n) : ∃ b off, A = some ⟨b, off, none⟩ ∧ ∃ B m d, ColAt w b (off + k * 7) B m d (L.getD k default) := by
  obtain ⟨b, off, e, hc⟩ := h.2.2.2 (by omega)
  exact ⟨b, off, e, hc k hk⟩
/-- A colour's size, where those ahead are known. -/
def sizeF (c : Col) (out : List Int) : Int :=
  if c.kind = 1 then spanF c.lo c.hi
  else if c.kind = 2 then (if namesF c.names then (c.names.length : Int) else 0)
  else if c.kind = 3 then (if 0 ≤ min c.first c.then_ ∧ max c.first c.then_ < out.length then out.getD c.first.toNat 0 * out.getD c.then_.toNat 0 else 0)
  else 0
def Few1024 (out : List Int) : Prop := ∀ x ∈ out, 1 ≤ x ∧ x ≤ 1024
theorem Few1024.at_ {out : List Int} (h : Few1024 out) {k : Nat} (hk : k < out.length) : 1 ≤ out.getD k 0 ∧ out.getD k 0 ≤ 1024 := by
  refine h _ ?_
  rw [List.getD, List.getElem?_eq_getElem hk]
  exact List.getElem_mem hk
theorem mul_1024 {a b : Int} (ha : 1 ≤ a ∧ a ≤ 1024) (hb : 1 ≤ b ∧ b ≤ 1024) : 1 ≤ a * b ∧ a * b ≤ 1048576 := by
  have h1 : 1 * b ≤ a * b := Int.mul_le_mul_of_nonneg_right ha.1 (by omega)
  have h2 : a * b ≤ 1024 * b := Int.mul_le_mul_of_nonneg_right ha.2 (by omega)
  omega
theorem Sl.int_at' {w : World} {A : Option Addr} {n c : Nat} {l : List Int} (h : Sl w (.slice A n c) n 1 (intCells l)) {k : Nat} (hk : k < n) : ∃ b off, A = some ⟨b, off, none⟩ ∧ w.cell? ⟨b, off + k, none⟩ = some (.int .i64 (l.getD k 0)) := by
  have hl := h.len
  rw [intCells_len] at hl
  obtain ⟨b, off, e, hc⟩ := h.at_ (by omega)
  exact ⟨b, off, e, hc k _ (intCells_at (by omega))⟩
set_option maxRecDepth 100000 in

set_option maxRecDepth 100000 in
set_option maxHeartbeats 4000000 in
theorem col_size (c : Col) (B : Option Addr) (m d : Nat) (A : Option Addr) (n e0 : Nat) (out : List Int) (w : World) (hc : c.ok) (hm : m ≤ 9223372036854775807) (hN : Hid (Sl w (.slice B m d) m 1 (strCells c.names))) (hO : Hid (Sl w (.slice A n e0) n 1 (intCells out))) (hF : Hid (Few1024 out)) :
    Calls Tryz.prog 129 #[c.val B m d, .slice A n e0] w fun e w' => e = .returned (.int .i64 (sizeF c out)) ∧ Below w.heap.size w w' := by
  obtain ⟨nm, kd, lo, hi, ns, fi, th⟩ := c
  obtain ⟨i1, i2, i3, i4, i5⟩ := hc
  have hol := Lib.hid (show out.length = n by have := hO.out.len; rw [intCells_len] at this; omega)
  have HB0 := Lib.hid ((Below.refl w.heap.size w).alloc (Nat.le_refl _) (.cells #[.string nm, .int .i64 kd, .int .i64 lo, .int .i64 hi, .slice B m d, .int .i64 fi, .int .i64 th] 62))
  have hN0 := Lib.hid (hN.out.below HB0.out)
  have hO0 := Lib.hid (hO.out.below HB0.out)
  simp only at i1 i2 i3 i4 i5 hN hN0
  have hnl := Lib.hid (show ns.length = m by have := hN.out.len; rw [strCells_len] at this; omega)
  unfold sizeF
  simp only
  by_cases k1 : kd = 1
  · subst k1
    rw [if_pos rfl]
    go_enter Tryz.func129, Tryz.ntmps129
    go_wp2_with (go_at_call 148; refine (col_span lo hi _ i2 i3).mono ?_; rintro e w' ⟨rfl, rfl⟩)
    go_ret
    exact ⟨rfl, HB0.out⟩
  · rw [if_neg k1]
    have b1 : (kd == 1) = false := by simpa using k1
    clear k1
    by_cases k2 : kd = 2
    · subst k2
      rw [if_pos rfl]
      rcases hns : namesF ns with _ | _
      · have cN := Lib.hid (col_names B m d ns _ hN0 hm)
        rw [hns] at cN
        clear hns
        go_enter Tryz.func129, Tryz.ntmps129
        go_wp2_with (go_at_call 149; refine cN.out.mono ?_; rintro e w' ⟨rfl, hb⟩; have HB2 := Lib.hid (below_then HB0.out hb); clear hb)
        go_ret
        exact ⟨rfl, HB2.out⟩
      · have cN := Lib.hid (col_names B m d ns _ hN0 hm)
        rw [hns] at cN
        clear hns
        rw [if_pos rfl, hnl.out]
        have qn := fun w2 (hb : Below (w.alloc (.cells #[.string nm, .int .i64 2, .int .i64 lo, .int .i64 hi, .slice B m d, .int .i64 fi, .int .i64 th] 62)).heap.size (w.alloc (.cells #[.string nm, .int .i64 2, .int .i64 lo, .int .i64 hi, .slice B m d, .int .i64 fi, .int .i64 th] 62)) w2) => Lib.hid (cell_kept hb (cell_new w #[.string nm, .int .i64 2, .int .i64 lo, .int .i64 hi, .slice B m d, .int .i64 fi, .int .i64 th] 62 4 _ rfl))
        have QN := Lib.hid qn
        clear qn
        go_enter Tryz.func129, Tryz.ntmps129
        go_wp2_with (go_at_call 149; refine cN.out.mono ?_; rintro e w' ⟨rfl, hb⟩; have q4 := (QN.out _ hb).out; have HB2 := Lib.hid (below_then HB0.out hb); clear hb)
        go_ret
        exact ⟨rfl, HB2.out⟩
    · rw [if_neg k2]
      have b2 : (kd == 2) = false := by simpa using k2
      clear k2
      by_cases k3 : kd = 3
      · subst k3
        rw [if_pos rfl, hol.out]
        by_cases g1 : 0 ≤ min fi th
        · by_cases g2 : max fi th < (n : Int)
          · rw [if_pos ⟨g1, g2⟩]
            have f0 : 0 ≤ fi := by omega
            have t0 : 0 ≤ th := by omega
            have fn : fi < (n : Int) := by omega
            have tn : th < (n : Int) := by omega
            obtain ⟨p, rfl⟩ : ∃ p : Nat, fi = (p : Int) := ⟨fi.toNat, by omega⟩
            obtain ⟨q, rfl⟩ : ∃ q : Nat, th = (q : Int) := ⟨th.toNat, by omega⟩
            obtain ⟨b, off, rfl, c0⟩ := hO0.out.int_at' (k := p) (by omega)
            obtain ⟨b2, off2, e2, c1⟩ := hO0.out.int_at' (k := q) (by omega)
            injection e2 with e2
            injection e2 with e2 e3
            subst e2; subst e3
            have hx := hF.out.at_ (k := p) (by rw [hol.out]; omega)
            have hy := hF.out.at_ (k := q) (by rw [hol.out]; omega)
            rw [Int.toNat_natCast, Int.toNat_natCast]
            obtain ⟨x, hxx⟩ : ∃ x, x = out.getD p 0 := ⟨_, rfl⟩
            obtain ⟨y, hyy⟩ : ∃ y, y = out.getD q 0 := ⟨_, rfl⟩
            rw [← hxx] at c0 hx ⊢
            rw [← hyy] at c1 hy ⊢
            have hxy := mul_1024 hx hy
            have d1 : IntKind.i64.wrap (x * y) = x * y := IntWalk.i64_in _ (by omega)
            clear hxx hyy
            go_enter Tryz.func129, Tryz.ntmps129
            go_wp2
            all_goals
              go_quiet (fail)
              go_wp2
              go_ret
              exact ⟨rfl, below_drewN' HB0.out _⟩
          · rw [if_neg (fun h => g2 h.2)]
            have g3 : decide (max fi th < (n : Int)) = false := by simpa using g2
            go_enter Tryz.func129, Tryz.ntmps129
            go_wp2
            all_goals
              go_ret
              exact ⟨rfl, HB0.out⟩
        · rw [if_neg (fun h => g1 h.1)]
          have g3 : decide (0 ≤ min fi th) = false := by simpa using g1
          go_enter Tryz.func129, Tryz.ntmps129
          go_wp2
          all_goals
            go_ret
            exact ⟨rfl, HB0.out⟩
      · rw [if_neg k3]
        have b3 : (kd == 3) = false := by simpa using k3
        clear k3
        go_enter Tryz.func129, Tryz.ntmps129
        go_wp2
        go_ret
        exact ⟨rfl, HB0.out⟩
end Go.Proofs.YtaeeblceedklnaaGreatDoor
