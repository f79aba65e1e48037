/- Package colour: sets of texts, names, span. -/
import Derived.Test.YtaeeblceedklnaaGreatDoorColA
import Derived.Maps.OwnSet
namespace Go.Proofs.YtaeeblceedklnaaGreatDoor
open Go.RowKit
theorem col_Name' (s : ByteArray) (w : World) : Calls Tryz.prog 18 #[.string s] w fun e w' => e = .returned (.bool (nameOk s.data.toList)) ∧ w = w' := by
  by_cases hs : s.size ≤ 9223372036854775805
  · exact col_Name s w hs
  · have hl := Lib.hid (show s.data.toList.length = s.size by simp)
    have he : s.toList.isEmpty = false := by
      rw [toList_data]
      rcases h : s.data.toList.isEmpty with _ | _
      · rfl
      · have h2 : s.data.toList = [] := by simpa using h
        have h3 := hl.out
        rw [h2] at h3
        simp at h3
        omega
    have h32 : (32 : Int) < (s.size : Int) := by omega
    have e1 : nameOk s.data.toList = false := by
      have : ¬ s.data.toList.length ≤ 32 := by rw [hl.out]; omega
      simp [nameOk]; omega
    rw [e1]
    go_enter Tryz.func18, Tryz.ntmps18
    go_wp2
    go_ret
    exact ⟨rfl, rfl⟩
theorem name_short {s : ByteArray} (h : nameOk s.data.toList = true) : s.size ≤ 32 := by
  unfold nameOk at h
  simp only [Bool.and_eq_true, decide_eq_true_eq] at h
  have := h.1.1.2
  simpa using this
theorem keyS : Maps.Keyed Tryz.prog 9 := Maps.string_keyed Tryz.underlying9
abbrev OwnS (w : World) (b n : Nat) (D : DataW Unit) : Prop := w.ownsMap Tryz.prog 9 (plainElem Tryz.prog 4) b n D
theorem zeroB (w : World) : (zeroValue 4).run Tryz.prog w = .ok (.bool false) w := by kernel_rfl
theorem key_s {s : ByteArray} (h : s.size ≤ 32) : keyOf Tryz.prog 9 (.string s) = some (.string s.data.toList) := by
  have hm : s.size ≤ maxLen := by unfold maxLen; omega
  simp [keyOf, Tryz.underlying9, mapKey, hm]
theorem pe_bool {P : Program} {e : TypeId} (he : P.underlying e = some .bool) {v : Value} {x : Bool} {ps : List MemPlace} (h : plainElem (H := Unit) P e v = some (.lit (.bool x), ps)) : v = .bool x := by
  unfold plainElem at h
  rw [he] at h
  cases v <;> simp at h
  rw [h.1]
/-- The texts that a map holds. -/
def HadOf (D : DataW Unit) (l : List (List UInt8)) : Prop := Maps.IsMap D ∧ ∀ s, D.atKey (.string s) (.lit (.bool false)) = .lit (.bool (l.contains s))
theorem HadOf.nil : HadOf (.map []) [] := ⟨⟨_, rfl⟩, fun _ => rfl⟩
theorem HadOf.put {D : DataW Unit} {l : List (List UInt8)} (h : HadOf D l) (s : List UInt8) : HadOf (D.put (.string s) (.lit (.bool true))) (s :: l) := by
  refine ⟨?_, fun x => ?_⟩
  · obtain ⟨es, rfl⟩ := h.1
    exact ⟨_, rfl⟩
  · by_cases e : x = s
    · rw [e, Maps.atKey_put_same h.1 (show WideAt.IsKeyLit (.string s) from trivial)]
      simp
    · rw [Maps.atKey_put_other (fun h1 => e (by injection h1)), h.2 x]
      have : (s :: l).contains x = l.contains x := by
        rw [List.contains_cons]
        have : (x == s) = false := by simpa using e
        rw [this]; rfl
      rw [this]
theorem look_had {w : World} {b n : Nat} {D : DataW Unit} {l : List (List UInt8)} (h : OwnS w b n D) (hd : HadOf D l) {s : ByteArray} (hs : s.size ≤ 32) :
    (Instr.lookup 132 (.map (some b)) (.string s) false).run Tryz.prog w = .ok (.bool (l.contains s.data.toList)) w := by
  obtain ⟨v, ps, hrun, hv⟩ := h.lookup keyS Tryz.underlying132 (zeroB w) (plainElem_bool Tryz.underlying4 false) (key_s hs)
  rw [hd.2] at hv
  have hv2 := pe_bool Tryz.underlying4 hv
  subst hv2
  exact hrun
theorem ownS_below {w w' : World} {B b n : Nat} {D : DataW Unit} (h : OwnS w b n D) (hb : Below B w w') (hB : b < B) : OwnS w' b n D := by
  obtain ⟨es, cl, h1, h2⟩ := h
  exact ⟨es, cl, by rw [hb.block b hB]; exact h1, h2⟩
/-- Names, none twice. -/
def namesG : List (List UInt8) → List ByteArray → Bool
  | _, [] => true
  | had, s :: r => if nameOk s.data.toList && !had.contains s.data.toList then namesG (s.data.toList :: had) r else false
theorem namesG_bad {had : List (List UInt8)} {s : ByteArray} {r : List ByteArray} (h : nameOk s.data.toList = false) : namesG had (s :: r) = false := by rw [namesG, h]; rfl
theorem namesG_dup {had : List (List UInt8)} {s : ByteArray} {r : List ByteArray} (h : had.contains s.data.toList = true) : namesG had (s :: r) = false := by rw [namesG, h]; simp
theorem namesG_ok {had : List (List UInt8)} {s : ByteArray} {r : List ByteArray} (h : nameOk s.data.toList = true) (h2 : had.contains s.data.toList = false) : namesG had (s :: r) = namesG (s.data.toList :: had) r := by rw [namesG, h, h2]; rfl
abbrev namesF (l : List ByteArray) : Bool := namesG [] l
def strCells (l : List ByteArray) : List Value := l.map Value.string
theorem strCells_len (l : List ByteArray) : (strCells l).length = l.length := by simp [strCells]
theorem Sl.str_at {w : World} {A : Option Addr} {n c : Nat} {l : List ByteArray} (h : Sl w (.slice A n c) n 1 (strCells l)) {k : Nat} (hk : k < n) :
    ∃ b off, A = some ⟨b, off, none⟩ ∧ w.cell? ⟨b, off + k, none⟩ = some (.string (l.getD k ByteArray.empty)) := by
  have hl := h.len
  rw [strCells_len] at hl
  obtain ⟨b, off, e, hc⟩ := h.at_ (by omega)
  refine ⟨b, off, e, hc k _ ?_⟩
  simp [strCells, List.getD, List.getElem?_eq_getElem (show k < l.length by omega)]
theorem drop_str {l : List ByteArray} {k : Nat} (h : k < l.length) : l.drop k = l.getD k ByteArray.empty :: l.drop (k + 1) := by
  rw [List.drop_eq_getElem_cons h, List.getD, List.getElem?_eq_getElem h]; rfl
set_option maxRecDepth 100000 in
set_option maxHeartbeats 2000000 in
theorem col_names (A : Option Addr) (n c : Nat) (l : List ByteArray) (w : World) (hS : Hid (Sl w (.slice A n c) n 1 (strCells l))) (hn : n ≤ 9223372036854775807) :
    Calls Tryz.prog 149 #[.slice A n c] w fun e w' => e = .returned (.bool (namesF l)) ∧ Below w.heap.size w w' := by
  have hl := Lib.hid (show l.length = n by have := hS.out.len; rw [strCells_len] at this; omega)
  have hmm := @run_makeMap Tryz.prog
  have hmb := Lib.hid (World.ownsMap_made (H := Unit) w Tryz.prog 9 (plainElem Tryz.prog 4))
  have HB1 := Lib.hid ((Below.refl w.heap.size w).alloc (Nat.le_refl _) (.map #[] 0))
  go_enter Tryz.func149, Tryz.ntmps149
  go_wp2
  go_loopw [9] (fun v wr => ∃ (k m : Nat) (D : DataW Unit) (had : List (List UInt8)), k ≤ n ∧ v = .int .i64 (k : Int) ∧ m ≤ k ∧ Hid (OwnS wr w.heap.size m D) ∧ Hid (HadOf D had) ∧ Hid (namesG had (l.drop k) = namesF l) ∧ Hid (Below w.heap.size w wr)) (fun v _ => n - (intOf v).toNat)
  case atStart => exact ⟨0, 0, .map [], [], by omega, rfl, Nat.le_refl _, hmb.out, HadOf.nil, rfl, HB1.out⟩
  case round =>
    obtain ⟨k, m, D, had, hk, rfl, hm, hO, hD, hN, hB⟩ := hrel
    by_cases hlt : k < n
    · obtain ⟨b, off, rfl, c0⟩ := (hS.out.below hB.out).str_at hlt
      have hst := hN.out
      rw [drop_str (by rw [hl.out]; exact hlt)] at hst
      obtain ⟨s, hs⟩ : ∃ s, s = l.getD k ByteArray.empty := ⟨_, rfl⟩
      rw [← hs] at c0 hst
      have hlt2 : (k : Int) < (n : Int) := by omega
      have hk0 : (0 : Int) ≤ (k : Int) := by omega
      rcases hnm : nameOk s.data.toList with _ | _
      · rw [namesG_bad hnm] at hst
        have cN := Lib.hid (col_Name' s wr)
        rw [hnm] at cN
        have HST := Lib.hid hst
        clear hst hs hnm
        go_wp2_with (go_at_call 18; refine cN.out.mono ?_; rintro e w' ⟨rfl, rfl⟩)
        go_ret
        exact ⟨ret1b HST.out, hB.out⟩
      · have cN := Lib.hid (col_Name' s wr)
        rw [hnm] at cN
        have hsz := name_short hnm
        have lk := look_had hO.out hD.out hsz
        have hky := key_s hsz
        rcases hc : had.contains s.data.toList with _ | _
        · rw [namesG_ok hnm hc] at hst
          rw [hc] at lk
          have HST := Lib.hid hst
          have HP := Lib.hid (hD.out.put s.data.toList)
          have hwlt := hB.out.size
          clear hst hs hnm hc
          go_wp2_with (first
            | (go_at_call 18; refine cN.out.mono ?_; rintro e w' ⟨rfl, rfl⟩)
            | (at_mapUpdate; refine wpList_mapUpdate_own _ rfl _ _ _ 132 rfl 9 4 keyS Tryz.underlying132 _ w.heap.size _ _ rfl hO.out (by unfold maxLen; omega) _ _ _ rfl rfl hky _ [] (plainElem_bool Tryz.underlying4 true) ?_; intro w3 hout3 hg3; have HO3 := Lib.hid hout3; have HB3 := Lib.hid (hB.out.grown hg3 hwlt (fun q hq => by cases hq; exact Nat.le_refl _)); clear hout3 hg3))
          go_roundw
          case rel => exact ⟨k + 1, m + 1, _, _, by omega, by go_num, by omega, HO3, HP, HST, HB3⟩
          case measure => simp [intOf]; omega
        · rw [namesG_dup hc] at hst
          rw [hc] at lk
          have HST := Lib.hid hst
          clear hst hs hnm hc
          go_wp2_with (go_at_call 18; refine cN.out.mono ?_; rintro e w' ⟨rfl, rfl⟩)
          go_ret
          exact ⟨ret1b HST.out, hB.out⟩
    · go_wp2
      go_ret
      have e1 : l.drop k = [] := by rw [List.drop_eq_nil_of_le]; rw [hl.out]; omega
      have h := hN.out
      rw [e1] at h
      exact ⟨ret1b h, hB.out⟩
/-- How many numbers there are from one to another. -/
def spanF (lo hi : Int) : Int := if hi < lo then 0 else min (hi - lo) 1024 + 1
theorem span_wrap {lo hi : Int} (h1 : I64 lo) (h2 : I64 hi) (h : lo ≤ hi) : IntKind.u64.wrap (IntKind.u64.wrap hi - IntKind.u64.wrap lo) = hi - lo := by
  unfold I64 at h1 h2
  have e : ∀ x : Int, IntKind.u64.wrap x = x % 18446744073709551616 := fun x => by
    simp only [IntKind.wrap]
    rfl
  rw [e, e, e]
  omega
set_option maxHeartbeats 1000000 in
theorem col_span (lo hi : Int) (w : World) (h1 : I64 lo) (h2 : I64 hi) : Calls Tryz.prog 148 #[.int .i64 lo, .int .i64 hi] w fun e w' => e = .returned (.int .i64 (spanF lo hi)) ∧ w = w' := by
  unfold spanF
  by_cases h : hi < lo
  · rw [if_pos h]
    go_enter Tryz.func148, Tryz.ntmps148
    go_wp2
    go_ret
    exact ⟨rfl, rfl⟩
  · rw [if_neg h]
    have h3 : lo ≤ hi := by omega
    have u1 := span_wrap h1 h2 h3
    go_enter Tryz.func148, Tryz.ntmps148
    go_wp2
    all_goals
      go_ret
      exact ⟨ret1 (by omega), rfl⟩
end Go.Proofs.YtaeeblceedklnaaGreatDoor
