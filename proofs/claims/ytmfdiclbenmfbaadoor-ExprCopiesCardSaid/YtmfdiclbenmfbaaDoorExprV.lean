/- Text: the document's. Printed by gen_exprV.py. -/
import Derived.Test.YtmfdiclbenmfbaaDoorExprU
import Derived.Deep.RegionHeld3
namespace Go.Proofs.YtmfdiclbenmfbaaDoor
open Go.RowKit
/-- A text as a string. -/
def bs (l : List UInt8) : ByteArray := ⟨l.toArray⟩
theorem bs_data (l : List UInt8) : (bs l).data.toList = l := rfl
theorem bs_size (l : List UInt8) : (bs l).size = l.length := by show l.toArray.size = _; simp
theorem bs_eq {a : ByteArray} {l : List UInt8} (h : a.data.toList = l) : a = bs l := by subst h; rfl
/-- Does a kid bind less? -/
def looseB (t : Tr) (j : Nat) (s : Int) : Bool := decide (j < t.kids.length ∧ (t.kids.getD j default).kind = 5 ∧ strI (t.kids.getD j default).num < s)
theorem looseB_eq (t : Tr) (j : Nat) (s : Int) : looseB t j s = decide (j < t.kids.length ∧ (t.kids.getD j default).kind = 5 ∧ strI (t.kids.getD j default).num < s) := rfl
/-- A kid's text, in brackets if so. -/
def kidR (names : List ByteArray) (t : Tr) (j : Nat) (around : Bool) : List UInt8 :=
  if j < t.kids.length then (if around then [40] ++ textT names (t.kids.getD j default) ++ [41] else textT names (t.kids.getD j default)) else [63]
theorem kidR_eq (names : List ByteArray) (t : Tr) (j : Nat) (around : Bool) : kidR names t j around = if j < t.kids.length then (if around then [40] ++ textT names (t.kids.getD j default) ++ [41] else textT names (t.kids.getD j default)) else [63] := rfl
theorem kidR_kidS (names : List ByteArray) (t : Tr) (j : Nat) (s : Int) : kidR names t j (looseB t j s) = kidS (textL names t.kids) j s := by
  unfold kidR looseB
  by_cases h : j < t.kids.length
  · rw [if_pos h, kidS_at h]
    by_cases h2 : (t.kids.getD j default).kind = 5 ∧ strI (t.kids.getD j default).num < s
    · rw [if_pos h2, if_pos (by simpa [h] using h2)]
    · rw [if_neg h2, if_neg (by simpa [h] using h2)]
  · rw [if_neg h, kidS_no (by omega)]
theorem kidR_kidS0 (names : List ByteArray) (t : Tr) (j : Nat) : kidR names t j false = kidS (textL names t.kids) j 0 := by
  rw [← kidR_kidS]
  have : looseB t j 0 = false := by
    unfold looseB
    apply decide_eq_false
    rintro ⟨_, _, h⟩
    have := strI_bd (t.kids.getD j default).num
    omega
  rw [this]
set_option maxRecDepth 100000 in
set_option maxHeartbeats 1000000 in
theorem r_loose (t : Tr) (A : Option Addr) (m c : Nat) (j : Nat) (s : Int) (w : World) (h : Hid (TrAt w A m c t)) (hj2 : j ≤ 2) :
    Calls Tryd.prog 39 #[t.val A m c, .int .i64 (j : Int), .int .i64 s] w fun e w' => e = .returned (.bool (looseB t j s)) ∧ Below w.heap.size w w' := by
  obtain ⟨hl, hc, hc9⟩ := h.out.len
  have hb1 := (Below.refl w.heap.size w).alloc (Nat.le_refl _) (.cells #[.int .i64 t.kind, .int .i64 t.num, .slice A m c] 24)
  have HB1 := Lib.hid hb1
  have HLB := looseB_eq t j s
  rw [hl] at HLB
  have HLB := Lib.hid HLB
  by_cases hjm : j < m
  · obtain ⟨b0, off, rfl, A', m', c', hK⟩ := (h.out.kept hb1).kid hjm
    obtain ⟨q, hq⟩ : ∃ q, q = t.kids.getD j default := ⟨_, rfl⟩
    rw [← hq] at hK HLB
    have c0 := hK.c0
    have c1 := hK.c1
    have hjm2 : (j : Int) < (m : Int) := by omega
    have hj0 : (0 : Int) ≤ (j : Int) := by omega
    have HJ := Lib.hid hjm
    clear hK hq hb1 hl hc hc9
    by_cases k5 : q.kind = 5
    · have bk : (q.kind == 5) = true := by simpa using k5
      have HK5 := Lib.hid k5
      clear k5
      by_cases hlt : strI q.num < s
      · have e : looseB t j s = true := by rw [HLB.out]; exact decide_eq_true ⟨HJ.out, HK5.out, hlt⟩
        rw [e]
        clear e HLB
        go_enter Tryd.func39, Tryd.ntmps39
        go_wp2_with fail
        refine (ref01_Strength q.num _).mono ?_
        rintro e w3 ⟨rfl, hb3⟩
        have HB3 := Lib.hid (below_then HB1.out hb3)
        clear hb3
        go_wp2_with fail
        go_ret
        exact ⟨rfl, HB3.out⟩
      · have e : looseB t j s = false := by rw [HLB.out]; exact decide_eq_false fun h => hlt h.2.2
        rw [e]
        have hl2 : decide (strI q.num < s) = false := decide_eq_false hlt
        clear e HLB hlt
        go_enter Tryd.func39, Tryd.ntmps39
        go_wp2_with fail
        refine (ref01_Strength q.num _).mono ?_
        rintro e w3 ⟨rfl, hb3⟩
        have HB3 := Lib.hid (below_then HB1.out hb3)
        clear hb3
        go_wp2_with fail
        go_ret
        exact ⟨rfl, HB3.out⟩
    · have bk : (q.kind == 5) = false := by simpa using k5
      have e : looseB t j s = false := by rw [HLB.out]; exact decide_eq_false fun h => k5 h.2.1
      rw [e]
      clear e HLB k5
      go_enter Tryd.func39, Tryd.ntmps39
      go_wp2_with fail
      go_ret
      exact ⟨rfl, HB1.out⟩
  · have hge : decide (j < m) = false := decide_eq_false hjm
    have e : looseB t j s = false := by rw [HLB.out]; exact decide_eq_false fun h => hjm h.1
    rw [e]
    clear e HLB hb1 hl
    go_enter Tryd.func39, Tryd.ntmps39
    go_wp2_with fail
    go_ret
    exact ⟨rfl, HB1.out⟩
/-- What the document's Text is to tell. -/
def RTextAt (names : List ByteArray) (NA : Option Addr) (nn nc : Nat) (N : Nat) : Prop :=
  ∀ (t : Tr), t.sz ≤ N → ∀ (A : Option Addr) (m c : Nat) (w : World), Hid (TrAt w A m c t) → Hid (Sl w (.slice NA nn nc) nn 1 (strCells names)) → (textT names t).length ≤ 1000000000000 →
    Calls Tryd.prog 18 #[t.val A m c, .slice NA nn nc] w fun e w' => e = .returned (.string (bs (textT names t))) ∧ Below w.heap.size w w'
set_option maxRecDepth 100000 in
set_option maxHeartbeats 1000000 in
theorem r_kid (names : List ByteArray) (NA : Option Addr) (nn nc : Nat) (N : Nat) (IH : Hid (RTextAt names NA nn nc N)) (t : Tr) (hN : t.sz ≤ N + 1) (A : Option Addr) (m c : Nat) (j : Nat) (around : Bool) (w : World) (h : Hid (TrAt w A m c t)) (hS : Hid (Sl w (.slice NA nn nc) nn 1 (strCells names))) (hj2 : j ≤ 2) (hlen : (kidR names t j around).length ≤ 1000000000000) :
    Calls Tryd.prog 38 #[t.val A m c, .int .i64 (j : Int), .slice NA nn nc, .bool around] w fun e w' => e = .returned (.string (bs (kidR names t j around))) ∧ Below w.heap.size w w' := by
  obtain ⟨hl, hc, hc9⟩ := h.out.len
  have hb1 := (Below.refl w.heap.size w).alloc (Nat.le_refl _) (.cells #[.int .i64 t.kind, .int .i64 t.num, .slice A m c] 24)
  have HB1 := Lib.hid hb1
  have s2 := cell_new w #[.int .i64 t.kind, .int .i64 t.num, .slice A m c] 24 2 _ rfl
  have HKR := kidR_eq names t j around
  rw [hl] at HKR
  have HKR := Lib.hid HKR
  by_cases hjm : j < m
  · obtain ⟨b0, off, rfl, A', m', c', hK⟩ := (h.out.kept hb1).kid hjm
    have hkd := Tr.kid_lt (t := t) (j := j) (by omega)
    obtain ⟨q, hq⟩ : ∃ q, q = t.kids.getD j default := ⟨_, rfl⟩
    rw [← hq] at hK HKR hkd
    rw [if_pos hjm] at HKR
    have c0 := hK.c0
    have c1 := hK.c1
    have c2 := hK.c2
    have hjm2 : (j : Int) < (m : Int) := by omega
    have hj0 : (0 : Int) ≤ (j : Int) := by omega
    have hle : (textT names q).length ≤ 1000000000000 := by
      unfold kidR at hlen
      rw [if_pos (by omega), ← hq] at hlen
      split at hlen
      · simp only [List.length_append] at hlen; omega
      · exact hlen
    have CQ := Lib.hid (IH.out q (by omega) A' m' c' _ (Lib.hid hK.tr) (Lib.hid (hS.out.below hb1)) hle)
    have hsz := bs_size (textT names q)
    obtain ⟨d, hd⟩ : ∃ d, d = bs (textT names q) := ⟨_, rfl⟩
    rw [← hd] at CQ hsz
    have HD := Lib.hid hd
    have q1 : (9223372036854775807 < 1 + d.size) = False := eq_false (by omega)
    have q2 : (9223372036854775807 < 1 + d.size + 1) = False := eq_false (by omega)
    clear hK hq hb1 hl hc hc9 hsz hd hlen hle
    cases around with
    | false =>
      go_enter Tryd.func38, Tryd.ntmps38
      go_wp2_with fail
      refine CQ.out.mono ?_
      rintro e w3 ⟨rfl, hb3⟩
      have HB3 := Lib.hid (below_then HB1.out hb3)
      clear hb3
      go_wp2_with fail
      go_ret
      exact ⟨by have := HKR.out; rw [if_neg (by simp)] at this; rw [this, ← HD.out]; rfl, HB3.out⟩
    | true =>
      go_enter Tryd.func38, Tryd.ntmps38
      go_wp2_with fail
      refine CQ.out.mono ?_
      rintro e w3 ⟨rfl, hb3⟩
      have HB3 := Lib.hid (below_then HB1.out hb3)
      clear hb3
      go_wp2_with fail
      go_ret
      have e : (⟨#[40]⟩ ++ d ++ ⟨#[41]⟩ : ByteArray) = bs (kidR names t j true) := bs_eq (by have := HKR.out; rw [if_pos (by trivial)] at this; rw [this, HD.out]; simp [bs])
      exact ⟨by rw [← e]; rfl, HB3.out⟩
  · have hge : (m : Int) ≤ (j : Int) := by omega
    rw [if_neg hjm] at HKR
    clear hb1 hl hlen
    go_enter Tryd.func38, Tryd.ntmps38
    go_wp2_with fail
    go_ret
    exact ⟨by have := HKR.out; rw [this]; rfl, HB1.out⟩
end Go.Proofs.YtmfdiclbenmfbaaDoor
