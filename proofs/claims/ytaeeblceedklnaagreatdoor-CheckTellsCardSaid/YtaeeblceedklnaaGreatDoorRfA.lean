/- The document's answer: Name, names, Word, free. Printed by gen_rfA.py. -/
import Derived.Test.YtaeeblceedklnaaGreatDoorCkD
namespace Go.Proofs.YtaeeblceedklnaaGreatDoor
open Go.RowKit
set_option maxHeartbeats 400000 in
theorem rf_letter (c : UInt8) (w : World) :
    Calls Tryz.prog 139 #[.int .u8 c.toNat] w fun e w' => e = .returned (.bool (isLetter c)) ∧ w = w' := by
  go_enter Tryz.func139, Tryz.ntmps139
  go_wp2
  all_goals
    go_ret
    exact ⟨ret1b (by rw [Bool.eq_iff_iff]; simp_all [isLetter]; try omega), rfl⟩
set_option maxHeartbeats 400000 in
theorem rf_digit (c : UInt8) (w : World) :
    Calls Tryz.prog 140 #[.int .u8 c.toNat] w fun e w' => e = .returned (.bool (isDigit c)) ∧ w = w' := by
  go_enter Tryz.func140, Tryz.ntmps140
  go_wp2
  all_goals
    go_ret
    exact ⟨ret1b (by rw [Bool.eq_iff_iff]; simp_all [isDigit]; try omega), rfl⟩
set_option maxHeartbeats 2000000 in
theorem rf_Name (s : ByteArray) (w : World) :
    Calls Tryz.prog 101 #[.string s] w fun e w' => e = .returned (.bool (nameOk s.data.toList)) ∧ w = w' := by
  have hl := Lib.hid (show s.data.toList.length = s.size by simp)
  by_cases h0 : s.size = 0
  · have e1 : nameOk s.data.toList = false := by
      have : s.data.toList = [] := List.eq_nil_of_length_eq_zero (by rw [hl.out]; exact h0)
      rw [this]; rfl
    rw [e1]
    have h00 : (s.size : Int) < 1 := by omega
    clear e1 h0
    go_enter Tryz.func101, Tryz.ntmps101
    go_wp2
    go_ret
    exact ⟨rfl, rfl⟩
  have h0 : 0 < s.size := by omega
  have h00 : ¬ (s.size : Int) < 1 := by omega
  have h000 : (0 : Int) < (s.size : Int) := by omega
  by_cases h32 : (32 : Int) < (s.size : Int)
  · have e1 : nameOk s.data.toList = false := by
      have : ¬ s.data.toList.length ≤ 32 := by rw [hl.out]; omega
      simp [nameOk]; omega
    rw [e1]
    clear e1
    go_enter Tryz.func101, Tryz.ntmps101
    go_wp2
    go_ret
    exact ⟨rfl, rfl⟩
  have hs32 : s.size ≤ 32 := by omega
  rcases hL : isLetter s[0] with _ | _
  · have cL := rf_letter s[0] w
    rw [hL] at cL
    have CL := Lib.hid cL
    have e1 : nameOk s.data.toList = false := by
      have : s.data.toList.getD 0 0 = s[0] := by
        have h1 : 0 < s.data.toList.length := by rw [hl.out]; exact h0
        rw [List.getD, List.getElem?_eq_getElem h1]; rfl
      unfold nameOk
      rw [this, hL]; simp
    rw [e1]
    clear e1 hL cL
    go_enter Tryz.func101, Tryz.ntmps101
    go_wp2_with (go_at_call 139; refine CL.out.mono ?_; rintro e w' ⟨rfl, rfl⟩)
    go_ret
    exact ⟨rfl, rfl⟩
  · have cL := rf_letter s[0] w
    rw [hL] at cL
    have CL := Lib.hid cL
    have HL := Lib.hid hL
    clear cL hL
    go_enter Tryz.func101, Tryz.ntmps101
    go_wp2_with (go_at_call 139; refine CL.out.mono ?_; rintro e w' ⟨rfl, rfl⟩)
    go_loop [3] (fun i => ∃ k : Nat, k ≤ s.size ∧ i = .int .i64 k ∧ Hid (∀ j, j < k → isNamed (s.data.toList.getD j 0) = true)) (fun i => s.size - (intOf i).toNat)
    case atStart => exact ⟨0, by omega, rfl, fun j hj => by omega⟩
    case round =>
      obtain ⟨k, hk, rfl, hno⟩ := hrel
      by_cases hlt : k < s.size
      · have hlt2 : (k : Int) < (s.size : Int) := by omega
        have hk0 : (0 : Int) ≤ (k : Int) := by omega
        have hc : s[k] = s.data.toList.getD k 0 := by
          have h1 : k < s.data.toList.length := by rw [hl.out]; exact hlt
          rw [List.getD, List.getElem?_eq_getElem h1]; rfl
        obtain ⟨c, hcc⟩ : ∃ c, s[k] = c := ⟨_, rfl⟩
        have HC := Lib.hid (hcc.symm.trans hc)
        clear hc
        have HB := Lib.hid (show isNamed c = false → nameOk s.data.toList = false by
          intro h
          have h1 : k < s.data.toList.length := by rw [hl.out]; exact hlt
          have h2 : s.data.toList.all isNamed = false := by
            rw [List.all_eq_false]
            refine ⟨s.data.toList[k], List.getElem_mem h1, ?_⟩
            have h3 := HC.out
            rw [List.getD, List.getElem?_eq_getElem h1] at h3
            have h4 : c = s.data.toList[k] := h3
            rw [← h4, h]; simp
          unfold nameOk
          rw [h2, Bool.and_false])
        have HR := Lib.hid (show isNamed c = true → ∀ j, j < k + 1 → isNamed (s.data.toList.getD j 0) = true by
          intro h j hj
          by_cases e : j = k
          · rw [e, ← HC.out]; exact h
          · exact hno.out j (by omega))
        have cA := fun W => rf_letter c W
        have cB := fun W => rf_digit c W
        obtain ⟨a, ha⟩ : ∃ a, a = isLetter c := ⟨_, rfl⟩
        obtain ⟨b, hb⟩ : ∃ b, b = isDigit c := ⟨_, rfl⟩
        rw [← ha] at cA
        rw [← hb] at cB
        have CA := Lib.hid cA
        have CB := Lib.hid cB
        have HN := Lib.hid (show isNamed c = (a || b || decide (c.toNat = 95)) by unfold isNamed; rw [← ha, ← hb])
        clear cA cB ha hb
        cases a with
        | true =>
          have HX := Lib.hid (HR.out (by rw [HN.out]; rfl))
          go_wp2_with (go_at_call 139; refine (CA.out _).mono ?_; rintro e w' ⟨rfl, rfl⟩)
          go_round
          case rel => exact ⟨k + 1, by omega, by go_num, HX⟩
          case measure => simp [intOf]; omega
        | false =>
          cases b with
          | true =>
            have HX := Lib.hid (HR.out (by rw [HN.out]; rfl))
            go_wp2_with (first
              | (go_at_call 139; refine (CA.out _).mono ?_; rintro e w' ⟨rfl, rfl⟩)
              | (go_at_call 140; refine (CB.out _).mono ?_; rintro e w' ⟨rfl, rfl⟩))
            go_round
            case rel => exact ⟨k + 1, by omega, by go_num, HX⟩
            case measure => simp [intOf]; omega
          | false =>
            by_cases h95 : c.toNat = 95
            · have HX := Lib.hid (HR.out (by rw [HN.out, decide_eq_true h95]; rfl))
              have n95 : ((c.toNat : Int) != 95) = false := by simp; omega
              clear h95
              go_wp2_with (first
                | (go_at_call 139; refine (CA.out _).mono ?_; rintro e w' ⟨rfl, rfl⟩)
                | (go_at_call 140; refine (CB.out _).mono ?_; rintro e w' ⟨rfl, rfl⟩))
              go_round
              case rel => exact ⟨k + 1, by omega, by go_num, HX⟩
              case measure => simp [intOf]; omega
            · have HX := Lib.hid (HB.out (by rw [HN.out, decide_eq_false h95]; rfl))
              have n95 : ((c.toNat : Int) != 95) = true := by simp; omega
              clear h95
              go_wp2_with (first
                | (go_at_call 139; refine (CA.out _).mono ?_; rintro e w' ⟨rfl, rfl⟩)
                | (go_at_call 140; refine (CB.out _).mono ?_; rintro e w' ⟨rfl, rfl⟩))
              go_ret
              exact ⟨ret1b HX.out.symm, rfl⟩
      · go_wp2
        go_ret
        have e1 : nameOk s.data.toList = true := by
          have h1 : 0 < s.data.toList.length := by rw [hl.out]; exact h0
          have h2 : s.data.toList.getD 0 0 = s[0] := by
            rw [List.getD, List.getElem?_eq_getElem h1]; rfl
          have h3 : s.data.toList.all isNamed = true := by
            rw [List.all_eq_true]
            intro b hb
            obtain ⟨j, hj, rfl⟩ := List.mem_iff_getElem.1 hb
            have h4 := hno.out j (by rw [hl.out] at hj; omega)
            rw [List.getD, List.getElem?_eq_getElem hj] at h4
            exact h4
          unfold nameOk
          rw [h2, h3, HL.out]
          have h5 : s.data.toList ≠ [] := List.length_pos_iff.1 h1
          have h6 : s.data.toList.length ≤ 32 := by rw [hl.out]; omega
          rw [decide_eq_true h5, decide_eq_true h6]
          rfl
        rw [e1]
        exact ⟨rfl, rfl⟩
/-- Names, none twice: said of each. -/
theorem namesG_iff : ∀ {l : List ByteArray} {had : List (List UInt8)}, namesG had l = true ↔ ∀ j, j < l.length → nameOk (l.getD j ByteArray.empty).data.toList = true ∧ had.contains (l.getD j ByteArray.empty).data.toList = false ∧ ∀ a, a < j → l.getD a ByteArray.empty ≠ l.getD j ByteArray.empty
  | [], had => ⟨fun _ j hj => absurd hj (Nat.not_lt_zero _), fun _ => rfl⟩
  | s :: r, had => by
    constructor
    · intro h
      by_cases h1 : nameOk s.data.toList = true
      · by_cases h2 : had.contains s.data.toList = true
        · rw [namesG_dup h2] at h; cases h
        · have h2' : had.contains s.data.toList = false := by simpa using h2
          rw [namesG_ok h1 h2'] at h
          have ih := namesG_iff.1 h
          intro j hj
          cases j with
          | zero => exact ⟨h1, h2', fun a ha => absurd ha (Nat.not_lt_zero _)⟩
          | succ j =>
            obtain ⟨g1, g2, g3⟩ := ih j (by simpa using hj)
            have e : (s :: r).getD (j + 1) ByteArray.empty = r.getD j ByteArray.empty := by simp [List.getD]
            rw [e]
            rw [List.contains_cons, Bool.or_eq_false_iff] at g2
            refine ⟨g1, g2.2, fun a ha => ?_⟩
            cases a with
            | zero =>
              have e0 : (s :: r).getD 0 ByteArray.empty = s := rfl
              rw [e0]
              intro e2
              have := g2.1
              rw [← e2] at this
              simp at this
            | succ a =>
              have e2 : (s :: r).getD (a + 1) ByteArray.empty = r.getD a ByteArray.empty := by simp [List.getD]
              rw [e2]
              exact g3 a (by omega)
      · have h1' : nameOk s.data.toList = false := by simpa using h1
        rw [namesG_bad h1'] at h; cases h
    · intro h
      obtain ⟨h1, h2, _⟩ := h 0 (by simp)
      have e0 : (s :: r).getD 0 ByteArray.empty = s := rfl
      rw [e0] at h1 h2
      rw [namesG_ok h1 h2]
      refine namesG_iff.2 fun j hj => ?_
      obtain ⟨g1, g2, g3⟩ := h (j + 1) (by simpa using hj)
      have e : (s :: r).getD (j + 1) ByteArray.empty = r.getD j ByteArray.empty := by simp [List.getD]
      rw [e] at g1 g2 g3
      refine ⟨g1, ?_, fun a ha => ?_⟩
      · rw [List.contains_cons, g2, Bool.or_false]
        have g4 := g3 0 (by omega)
        rw [e0] at g4
        have : (r.getD j ByteArray.empty).data.toList ≠ s.data.toList := by
          intro e2
          have e3 : (r.getD j ByteArray.empty).data = s.data := Array.toList_inj.1 e2
          apply g4
          revert e3
          generalize r.getD j ByteArray.empty = x
          intro e3
          cases x; cases s; simp only at e3; rw [e3]
        simpa using this
      · have := g3 (a + 1) (by omega)
        have e2 : (s :: r).getD (a + 1) ByteArray.empty = r.getD a ByteArray.empty := by simp [List.getD]
        rwa [e2] at this
theorem namesF_iff {l : List ByteArray} : namesF l = true ↔ ∀ j, j < l.length → nameOk (l.getD j ByteArray.empty).data.toList = true ∧ ∀ a, a < j → l.getD a ByteArray.empty ≠ l.getD j ByteArray.empty :=
  namesG_iff.trans ⟨fun h j hj => ⟨(h j hj).1, (h j hj).2.2⟩, fun h j hj => ⟨(h j hj).1, rfl, (h j hj).2⟩⟩
theorem same_beq {x y : ByteArray} : (x.toList == y.toList) = decide (x = y) := sameS_eq x y
set_option maxRecDepth 100000 in
set_option maxHeartbeats 2000000 in
theorem rf_names (A : Option Addr) (n c : Nat) (l : List ByteArray) (w : World) (hS : Hid (Sl w (.slice A n c) n 1 (strCells l))) :
    Calls Tryz.prog 141 #[.slice A n c] w fun e w' => e = .returned (.bool (namesF l)) ∧ ∃ t, w' = w.drewN t := by
  have hl := Lib.hid (show l.length = n by have := hS.out.len; rw [strCells_len] at this; omega)
  have hn := hS.out.bound
  go_enter Tryz.func141, Tryz.ntmps141
  go_wp2
  go_loopw [3] (fun v wr => ∃ (k t : Nat), k ≤ n ∧ v = .int .i64 (k : Int) ∧ wr = w.drewN t ∧ Hid (∀ j, j < k → nameOk (l.getD j ByteArray.empty).data.toList = true ∧ ∀ a, a < j → l.getD a ByteArray.empty ≠ l.getD j ByteArray.empty)) (fun v _ => n - (intOf v).toNat)
  case atStart => exact ⟨0, 0, by omega, rfl, rfl, Lib.hid fun j hj => absurd hj (Nat.not_lt_zero _)⟩
  case round =>
    obtain ⟨k, t, hk, rfl, rfl, hno⟩ := hrel
    by_cases hlt : k < n
    · obtain ⟨b, off, rfl, c0⟩ := hS.out.str_at hlt
      have C0 := Lib.hid c0
      obtain ⟨s, hs⟩ : ∃ s, s = l.getD k ByteArray.empty := ⟨_, rfl⟩
      rw [← hs] at c0
      have C1 := Lib.hid c0
      have HS := Lib.hid hs
      have cN := fun W => rf_Name s W
      obtain ⟨x, hx⟩ : ∃ x, x = nameOk s.data.toList := ⟨_, rfl⟩
      rw [← hx] at cN
      have CN := Lib.hid cN
      have HX := Lib.hid hx
      have hlt2 : (k : Int) < (n : Int) := by omega
      have hk0 : (0 : Int) ≤ (k : Int) := by omega
      have q0 : w.cell? ⟨b, off + k, none⟩ = some (.string s) := c0
      clear hs cN hx c0
      go_wp2_with (go_at_call 101; refine (CN.out _).mono ?_; rintro e w' ⟨rfl, rfl⟩)
      clear q0
      go_loopw [4, 5] (fun v4 v5 wx => ∃ (j u : Nat) (y : Bool), j ≤ k ∧ v5 = .int .i64 (j : Int) ∧ v4 = .bool y ∧ wx = w.drewN u ∧ Hid (y = true ↔ (nameOk s.data.toList = true ∧ ∀ a, a < j → l.getD a ByteArray.empty ≠ s))) (fun _ v5 _ => k - (intOf v5).toNat)
      case atStart => exact ⟨0, t, x, by omega, rfl, rfl, rfl, Lib.hid ⟨fun h => ⟨by rw [← HX.out]; exact h, fun a ha => absurd ha (Nat.not_lt_zero _)⟩, fun h => by rw [HX.out]; exact h.1⟩⟩
      case round =>
        obtain ⟨j, u, y, hj, rfl, rfl, rfl, hy⟩ := hrel
        by_cases hjt : j < k
        · obtain ⟨b2, off2, e2, c1⟩ := hS.out.str_at (k := j) (by omega)
          injection e2 with e2
          injection e2 with e3 e4
          subst e3; subst e4
          obtain ⟨z, hz⟩ : ∃ z, z = l.getD j ByteArray.empty := ⟨_, rfl⟩
          rw [← hz] at c1
          have HZ := Lib.hid hz
          have q0 : w.cell? ⟨b, off + k, none⟩ = some (.string s) := C1.out
          have q1 : w.cell? ⟨b, off + j, none⟩ = some (.string z) := c1
          have j1 : (j : Int) < (k : Int) := by omega
          have j2 : (j : Int) < (n : Int) := by omega
          have j0 : (0 : Int) ≤ (j : Int) := by omega
          clear hz c1
          have HR := Lib.hid (show ∀ v : Bool, v = (y && !decide (z = s)) → (v = true ↔ (nameOk s.data.toList = true ∧ ∀ a, a < j + 1 → l.getD a ByteArray.empty ≠ s)) by
            intro v hv
            rw [hv, Bool.and_eq_true, hy.out, HZ.out]
            constructor
            · rintro ⟨⟨g1, g2⟩, g3⟩
              refine ⟨g1, fun a ha => ?_⟩
              by_cases e : a = j
              · rw [e]; simpa using g3
              · exact g2 a (by omega)
            · rintro ⟨g1, g2⟩
              exact ⟨⟨g1, fun a ha => g2 a (by omega)⟩, by simpa using g2 j (by omega)⟩)
          clear hy
          cases y with
          | false =>
            go_wp2
            go_quiet (fail)
            go_wp2
            go_roundw
            case rel => exact ⟨j + 1, _, false, by omega, by go_num, rfl, rfl, Lib.hid (HR.out _ rfl)⟩
            case measure => simp [intOf]; omega
          | true =>
            rcases hzs : (z.toList == s.toList) with _ | _
            · have HZS := Lib.hid hzs
              go_wp2
              go_quiet (fail)
              go_wp2
              go_roundw
              case rel => exact ⟨j + 1, _, true, by omega, by go_num, rfl, rfl, Lib.hid (HR.out _ (by rw [← same_beq, HZS.out]; rfl))⟩
              case measure => simp [intOf]; omega
            · have HZS := Lib.hid hzs
              go_wp2
              go_quiet (fail)
              go_wp2
              go_roundw
              case rel => exact ⟨j + 1, _, false, by omega, by go_num, rfl, rfl, Lib.hid (HR.out _ (by rw [← same_beq, HZS.out]; rfl))⟩
              case measure => simp [intOf]; omega
        · have ej : j = k := by omega
          subst ej
          cases y with
          | false =>
            have HZ := Lib.hid (show namesF l = false by
              rw [← Bool.not_eq_true, namesF_iff]
              intro h
              have h2 := h j (by rw [hl.out]; exact hlt)
              rw [← HS.out] at h2
              have := hy.out.2 h2
              cases this)
            go_wp2
            go_ret
            exact ⟨ret1b HZ.out.symm, _, rfl⟩
          | true =>
            have HN := Lib.hid (show ∀ a, a < j + 1 → nameOk (l.getD a ByteArray.empty).data.toList = true ∧ ∀ b, b < a → l.getD b ByteArray.empty ≠ l.getD a ByteArray.empty by
              intro a ha
              by_cases e : a = j
              · rw [e, ← HS.out]; exact hy.out.1 rfl
              · exact hno.out a (by omega))
            go_wp2
            go_roundw
            case rel => exact ⟨j + 1, _, by omega, by go_num, rfl, HN⟩
            case measure => simp [intOf]; omega
    · have ek : k = n := by omega
      subst ek
      go_wp2
      go_ret
      exact ⟨ret1b (namesF_iff.2 fun j hj => hno.out j (by rw [hl.out] at hj; exact hj)).symm, _, rfl⟩
theorem word_lit : wordCells = #[.string ⟨#[99, 111, 108, 111, 117, 114]⟩, .string ⟨#[112, 108, 97, 99, 101]⟩, .string ⟨#[116, 97, 115, 107]⟩, .string ⟨#[118, 97, 114]⟩, .string ⟨#[119, 104, 101, 110]⟩, .string ⟨#[106, 111, 105, 110]⟩, .string ⟨#[115, 112, 108, 105, 116]⟩, .string ⟨#[105, 110]⟩, .string ⟨#[111, 117, 116]⟩, .string ⟨#[99, 97, 110, 99, 101, 108]⟩, .string ⟨#[97, 102, 116, 101, 114]⟩, .string ⟨#[109, 97, 110, 121]⟩, .string ⟨#[102, 114, 111, 109]⟩, .string ⟨#[116, 111]⟩, .string ⟨#[105, 110, 116]⟩, .string ⟨#[101, 110, 117, 109]⟩, .string ⟨#[112, 97, 105, 114]⟩, .string ⟨#[97, 110, 100]⟩, .string ⟨#[120, 111, 114]⟩, .string ⟨#[111, 114]⟩, .string ⟨#[105, 102]⟩] := by kernel_rfl
theorem wordStrs_len : wordStrs.length = 21 := rfl
set_option maxRecDepth 100000 in
set_option maxHeartbeats 1000000 in
theorem rf_Word (s : ByteArray) (w : World) :
    Calls Tryz.prog 102 #[.string s] w fun e w' => e = .returned (.bool (isWord s)) ∧ Below w.heap.size w w' := by
  obtain ⟨w1, hw1⟩ : ∃ x, x = w.alloc (.cells #[.string ⟨#[99, 111, 108, 111, 117, 114]⟩, .string ⟨#[112, 108, 97, 99, 101]⟩, .string ⟨#[116, 97, 115, 107]⟩, .string ⟨#[118, 97, 114]⟩, .string ⟨#[119, 104, 101, 110]⟩, .string ⟨#[106, 111, 105, 110]⟩, .string ⟨#[115, 112, 108, 105, 116]⟩, .string ⟨#[105, 110]⟩, .string ⟨#[111, 117, 116]⟩, .string ⟨#[99, 97, 110, 99, 101, 108]⟩, .string ⟨#[97, 102, 116, 101, 114]⟩, .string ⟨#[109, 97, 110, 121]⟩, .string ⟨#[102, 114, 111, 109]⟩, .string ⟨#[116, 111]⟩, .string ⟨#[105, 110, 116]⟩, .string ⟨#[101, 110, 117, 109]⟩, .string ⟨#[112, 97, 105, 114]⟩, .string ⟨#[97, 110, 100]⟩, .string ⟨#[120, 111, 114]⟩, .string ⟨#[111, 114]⟩, .string ⟨#[105, 102]⟩] 9) := ⟨_, rfl⟩
  have HB := Lib.hid (show Below w.heap.size w w1 by rw [hw1]; exact (Below.refl _ _).alloc (Nat.le_refl _) _)
  have HC := Lib.hid (show ∀ j, j < 21 → w1.cell? ⟨w.heap.size, j, none⟩ = some (.string (wordStrs.getD j ByteArray.empty)) by
    intro j hj
    rw [hw1, ← word_lit, cell_of_row _ _ _ _ _ _ (heap_alloc_new w _)]
    have : wordCells = (wordStrs.map Value.string).toArray := rfl
    rw [this]
    have hj2 : j < wordStrs.length := hj
    simp [List.getD, List.getElem?_eq_getElem hj2])
  have HW := Lib.hid hw1.symm
  clear hw1
  go_enter Tryz.func102, Tryz.ntmps102
  go_upto_region 2 with fail
  rw [HW.out]
  go_wp2
  go_loop [4] (fun v => ∃ (k : Nat), k ≤ 21 ∧ v = .int .i64 (k : Int) ∧ Hid (∀ j, j < k → wordStrs.getD j ByteArray.empty ≠ s)) (fun v => 21 - (intOf v).toNat)
  case atStart => exact ⟨0, by omega, rfl, Lib.hid fun j hj => absurd hj (Nat.not_lt_zero _)⟩
  case round =>
    obtain ⟨k, hk, rfl, hno⟩ := hrel
    by_cases hlt : k < 21
    · have q0 := HC.out k hlt
      obtain ⟨z, hz⟩ : ∃ z, z = wordStrs.getD k ByteArray.empty := ⟨_, rfl⟩
      rw [← hz] at q0
      have HZ := Lib.hid hz
      have k1 : (k : Int) < 21 := by omega
      have k0 : (0 : Int) ≤ (k : Int) := by omega
      clear hz
      rcases hzs : (z.toList == s.toList) with _ | _
      · have HR := Lib.hid (show ∀ j, j < k + 1 → wordStrs.getD j ByteArray.empty ≠ s by
          intro j hj
          by_cases e : j = k
          · rw [e, ← HZ.out]
            have := hzs
            rw [same_beq] at this
            simpa using this
          · exact hno.out j (by omega))
        go_wp2
        go_round
        case rel => exact ⟨k + 1, by omega, by go_num, HR⟩
        case measure => simp [intOf]; omega
      · have HR := Lib.hid (show isWord s = true by
          have h2 := hzs
          rw [same_beq] at h2
          have h3 : z = s := of_decide_eq_true h2
          unfold isWord
          rw [Lib.containsS_iff, ← h3, HZ.out]
          have hk2 : k < wordStrs.length := hlt
          rw [List.getD, List.getElem?_eq_getElem hk2]
          exact List.getElem_mem hk2)
        go_wp2
        go_ret
        exact ⟨ret1b HR.out.symm, HB.out⟩
    · have HR := Lib.hid (show isWord s = false by
        rw [← Bool.not_eq_true]
        unfold isWord
        rw [Lib.containsS_iff]
        intro h
        obtain ⟨j, hj, e⟩ := List.mem_iff_getElem.1 h
        have hj2 : j < 21 := hj
        refine hno.out j (by omega) ?_
        rw [List.getD, List.getElem?_eq_getElem hj]
        exact e)
      go_wp2
      go_ret
      exact ⟨ret1b HR.out.symm, HB.out⟩
set_option maxHeartbeats 400000 in
theorem rf_free (s : ByteArray) (w : World) :
    Calls Tryz.prog 51 #[.string s] w fun e w' => e = .returned (.bool (freeB s)) ∧ Below w.heap.size w w' := by
  have cN := fun W => rf_Name s W
  have cW := fun W => rf_Word s W
  have HF := Lib.hid (show freeB s = (nameOk s.data.toList && !isWord s) from rfl)
  obtain ⟨x, hx⟩ : ∃ x, x = nameOk s.data.toList := ⟨_, rfl⟩
  obtain ⟨y, hy⟩ : ∃ y, y = isWord s := ⟨_, rfl⟩
  rw [← hx] at cN HF
  rw [← hy] at cW HF
  have CN := Lib.hid cN
  have CW := Lib.hid cW
  clear hx hy cN cW
  cases x with
  | false =>
    go_enter Tryz.func51, Tryz.ntmps51
    go_wp2_with fail
    refine (CN.out _).mono ?_
    rintro e w2 ⟨rfl, rfl⟩
    go_wp2_with fail
    go_ret
    exact ⟨ret1b HF.out.symm, Below.refl _ _⟩
  | true =>
    go_enter Tryz.func51, Tryz.ntmps51
    go_wp2_with fail
    refine (CN.out _).mono ?_
    rintro e w2 ⟨rfl, rfl⟩
    go_wp2_with fail
    refine (CW.out _).mono ?_
    rintro e w2 ⟨rfl, hb⟩
    have HB := Lib.hid hb
    clear hb
    go_wp2_with fail
    go_ret
    exact ⟨ret1b HF.out.symm, HB.out⟩
end Go.Proofs.YtaeeblceedklnaaGreatDoor
