/- Decimals, the document's. -/
import Derived.Test.YtmfdiclbenmfbaaDoorExprN
import Derived.Laws.IdiomStrings
import Derived.IntWalk
namespace Go.Proofs.YtmfdiclbenmfbaaDoor
open Go.RowKit
theorem dec_step {K : Nat} (hK : K ≠ 0) (s : List UInt8) : (if K = 0 then [] else Lib.decDigits K) ++ s = (if K / 10 = 0 then [] else Lib.decDigits (K / 10)) ++ (UInt8.ofNat (48 + K % 10) :: s) := by
  rw [if_neg hK]
  by_cases h : K < 10
  · rw [Lib.decDigits_one h, if_pos (by omega), Nat.mod_eq_of_lt h]; rfl
  · rw [Lib.decDigits, dif_neg h, if_neg (by omega)]
    simp
theorem dec_len2 (u : Nat) (hu : u ≤ 9223372036854775808) : (Lib.decDigits u).length ≤ 21 := by
  have h1 := @dec_len (-(u : Int)) (by unfold I64; omega)
  have h2 : Lib.itoa (-(u : Int)) = if u = 0 then [48] else 45 :: Lib.decDigits u := by
    unfold Lib.itoa
    by_cases h : u = 0
    · subst h; simp [Lib.decDigits_one]
    · rw [if_pos (by omega), if_neg h]; simp
  rw [h2] at h1
  by_cases h : u = 0
  · subst h; rw [Lib.decDigits_one (by omega)]; simp
  · rw [if_neg h] at h1
    simpa using h1
theorem ret_str {a : ByteArray} {l : List UInt8} (h : a.data.toList = l) : Ending.returned (.string a) = .returned (.string ⟨l.toArray⟩) := by
  subst h; rfl
/-- k is K, with the sign. -/
def sgn (neg : Bool) (K : Nat) : Int := if neg then -(K : Int) else (K : Int)
theorem sgn_mod (neg : Bool) (K : Nat) : (sgn neg K).tmod 10 = sgn neg (K % 10) := by
  cases neg
  · show (K : Int).tmod 10 = ((K % 10 : Nat) : Int)
    rw [IntWalk.rem_in _ _ (by omega)]; omega
  · show (-(K : Int)).tmod 10 = -((K % 10 : Nat) : Int)
    rw [Int.neg_tmod, IntWalk.rem_in _ _ (by omega)]; omega
theorem sgn_div (neg : Bool) (K : Nat) : (sgn neg K).tdiv 10 = sgn neg (K / 10) := by
  cases neg
  · show (K : Int).tdiv 10 = ((K / 10 : Nat) : Int)
    rw [Int.tdiv_eq_ediv_of_nonneg (by omega)]; omega
  · show (-(K : Int)).tdiv 10 = -((K / 10 : Nat) : Int)
    rw [Int.neg_tdiv, Int.tdiv_eq_ediv_of_nonneg (by omega)]; omega
theorem sgn_bd {neg : Bool} {K : Nat} (h : K ≤ 9223372036854775808) (hp : neg = false → K ≤ 9223372036854775807) : I64 (sgn neg K) := by
  unfold sgn I64
  cases neg
  · have := hp rfl
    simp; omega
  · simp; omega
theorem conv_one (W : World) (a : Addr) (x : UInt8) (h : W.cell? a = some (.int .u8 (x.toNat : Int))) : (convert 52 9 (.slice (some a) 1 1)).run Tryd.prog W = .ok (.string ⟨#[x]⟩) W := by
  have := run_convert_bytes_back (P := Tryd.prog) W 52 9 5 a 1 [x] Tryd.underlying52 Tryd.underlying5 Tryd.underlying9 (fun j hj => by
    have : j = 0 := by simpa using hj
    subst this
    have e : a.add 0 = a := by cases a with | mk b o s => cases s <;> simp [Addr.add]
    rw [e]
    exact h)
  exact this
set_option maxRecDepth 100000 in
set_option maxHeartbeats 4000000 in
theorem r_dec_loop (neg : Bool) (U : Nat) (hU : U ≤ 9223372036854775808) (hU0 : U ≠ 0) (hp : neg = false → U ≤ 9223372036854775807) (w : World) :
    Calls Tryd.prog 37 #[.int .i64 (sgn neg U)] w fun e w' => e = .returned (.string ⟨(if neg then 45 :: Lib.decDigits U else Lib.decDigits U).toArray⟩) ∧ Below w.heap.size w w' := by
  have hb := sgn_bd hU hp
  have h0 : (sgn neg U == 0) = false := by unfold sgn; cases neg <;> simp <;> omega
  have hdl := dec_len2 U hU
  have HSU : Hid (∃ u, u = sgn neg U) := Lib.hid ⟨_, rfl⟩
  obtain ⟨u, hu⟩ := HSU.out
  rw [← hu] at hb h0 ⊢
  have HU := Lib.hid hu
  clear hu
  go_enter Tryd.func37, Tryd.ntmps37
  go_wp2_with fail
  go_loopw [3, 4] (fun v3 v4 wr => ∃ (K : Nat) (s : ByteArray), K ≤ U ∧ v4 = .int .i64 (sgn neg K) ∧ v3 = .string s ∧ Hid ((if K = 0 then [] else Lib.decDigits K) ++ s.data.toList = Lib.decDigits U) ∧ Hid (Below w.heap.size w wr)) (fun _ v4 _ => (intOf v4).natAbs)
  case atStart => exact ⟨U, ⟨#[]⟩, Nat.le_refl _, by rw [HU.out], rfl, Lib.hid (by rw [if_neg hU0]; simp), Lib.hid (Below.refl _ _)⟩
  case round =>
    obtain ⟨K, s, hK, rfl, rfl, hS, hB⟩ := hrel
    have hSl : s.data.toList.length ≤ 21 := by
      have := congrArg List.length hS.out
      rw [List.length_append] at this
      omega
    have hsz : s.data.toList.length = s.size := by simp
    by_cases hK0 : K = 0
    · subst hK0
      have hst := hS.out
      rw [if_pos rfl, List.nil_append] at hst
      have e0 : sgn neg 0 = 0 := by cases neg <;> rfl
      rw [e0]
      have HST := Lib.hid hst
      have q1 : (9223372036854775807 < 1 + s.size) = False := eq_false (by omega)
      clear hst e0 hSl hdl hp
      cases neg with
      | true =>
        have hn : u < 0 := by rw [HU.out]; unfold sgn; simp; omega
        clear hsz
        go_wp2_with fail
        go_ret
        have e : Ending.returned (.string ((⟨#[45]⟩ : ByteArray) ++ s)) = .returned (.string ⟨(45 :: Lib.decDigits U).toArray⟩) := ret_str (by rw [← HST.out]; simp)
        exact ⟨e, hB.out⟩
      | false =>
        have hn : decide (u < 0) = false := decide_eq_false (by rw [HU.out]; unfold sgn; simp)
        clear hsz
        go_wp2_with fail
        go_ret
        exact ⟨ret_str (a := s) HST.out, hB.out⟩
    · have hm := sgn_mod neg K
      have hd := sgn_div neg K
      have hb2 : I64 (sgn neg K) := sgn_bd (by omega) (fun h => by have := hp h; omega)
      have hk0 : (sgn neg K != 0) = true := by unfold sgn; cases neg <;> simp <;> omega
      have hb3 := sgn_bd (neg := neg) (K := K / 10) (by omega) (fun h => by have := hp h; omega)
      have hst := dec_step hK0 s.data.toList
      rw [hS.out] at hst
      obtain ⟨k, hk⟩ : ∃ k, k = sgn neg K := ⟨_, rfl⟩
      obtain ⟨k2, hk2⟩ : ∃ k, k = sgn neg (K / 10) := ⟨_, rfl⟩
      obtain ⟨d, hd0⟩ : ∃ d, d = K % 10 := ⟨_, rfl⟩
      have hd9 : d ≤ 9 := by omega
      obtain ⟨x, hx⟩ : ∃ x, x = UInt8.ofNat (48 + d) := ⟨_, rfl⟩
      rw [← hd0] at hm hst
      rw [← hx] at hst
      rw [← hk] at hm hd hb2 hk0 ⊢
      rw [← hk2] at hd hb3
      have hxn : x.toNat = 48 + d := by rw [hx, UInt8.toNat_ofNat']; omega
      obtain ⟨X, hX⟩ : ∃ X : Int, X = (x.toNat : Int) := ⟨_, rfl⟩
      obtain ⟨D, hD⟩ : ∃ D : Int, D = (d : Int) := ⟨_, rfl⟩
      have hq1 : wrap64 (k.tdiv 10) = k2 := by rw [hd]; exact wrapI hb3
      have y1 : wrap64 (48 + D) = X := by rw [hX, hxn, hD]; unfold wrap64; omega
      have y2 : X % 256 = X := by rw [hX, hxn]; omega
      have hcv := conv_one (wr.alloc (.cells #[.int .u8 (x.toNat : Int)] 5)) ⟨wr.heap.size, 0, none⟩ x (cell_new _ _ _ 0 _ rfl)
      rw [← hX] at hcv
      have q1 : (9223372036854775807 < 1 + s.size) = False := eq_false (by omega)
      have hB2 := Lib.hid (hB.out.alloc hB.out.size (.cells #[.int .u8 X] 5))
      have HST := Lib.hid hst
      have HK2 := Lib.hid hk2
      have HKU : Hid (K / 10 ≤ U ∧ (sgn neg (K / 10)).natAbs < (sgn neg K).natAbs) := Lib.hid ⟨by omega, by unfold sgn; cases neg <;> simp <;> omega⟩
      have HK := Lib.hid hk
      by_cases hr : neg = true ∧ d ≠ 0
      · have hrn : sgn neg d < 0 := by rw [hr.1]; unfold sgn; simp; omega
        have hw : wrap64 (-(sgn neg d)) = D := by rw [hr.1, hD]; unfold sgn wrap64; simp; omega
        obtain ⟨r, hr2⟩ : ∃ r, r = sgn neg d := ⟨_, rfl⟩
        rw [← hr2] at hm hrn hw
        clear hr hr2 hD hX hxn hx hd0 hk hk2 hst hb2 hb3 hd hdl hp hU hU0 hSl hsz hd9 hK hK0 HSU
        go_wp2_with fail
        go_roundw
        case rel => exact ⟨K / 10, ⟨#[x]⟩ ++ s, HKU.out.1, by rw [hq1, HK2.out], rfl, Lib.hid (by rw [HST.out]; simp), hB2⟩
        case measure => rw [hq1, HK.out, HK2.out]; exact HKU.out.2
      · have hrn : sgn neg d = D := by
          rw [hD]
          unfold sgn
          by_cases h : neg = true
          · have : d = 0 := by
              by_cases h2 : d = 0
              · exact h2
              · exact absurd ⟨h, h2⟩ hr
            rw [this]; simp
          · rw [if_neg h]
        have hr0 : decide (D < 0) = false := decide_eq_false (by omega)
        rw [hrn] at hm
        clear hr hrn hD hX hxn hx hd0 hk hk2 hst hb2 hb3 hd hdl hp hU hU0 hSl hsz hd9 hK hK0 HSU
        go_wp2_with fail
        go_roundw
        case rel => exact ⟨K / 10, ⟨#[x]⟩ ++ s, HKU.out.1, by rw [hq1, HK2.out], rfl, Lib.hid (by rw [HST.out]; simp), hB2⟩
        case measure => rw [hq1, HK.out, HK2.out]; exact HKU.out.2
set_option maxHeartbeats 400000 in
theorem r_Decimals (n : Int) (hn : I64 n) (w : World) :
    Calls Tryd.prog 37 #[.int .i64 n] w fun e w' => e = .returned (.string ⟨(Lib.itoa n).toArray⟩) ∧ Below w.heap.size w w' := by
  by_cases h0 : n = 0
  · subst h0
    have e : Lib.itoa 0 = [48] := by unfold Lib.itoa; rw [if_neg (by decide)]; exact Lib.decDigits_one (by decide)
    rw [e]
    clear e
    go_enter Tryd.func37, Tryd.ntmps37
    go_wp2_with fail
    go_ret
    exact ⟨rfl, Below.refl _ _⟩
  · by_cases hneg : n < 0
    · have h := r_dec_loop true n.natAbs (by have := hn.1; omega) (by omega) (by simp) w
      have e : sgn true n.natAbs = n := by unfold sgn; simp; omega
      rw [e] at h
      have e2 : Lib.itoa n = 45 :: Lib.decDigits n.natAbs := by unfold Lib.itoa; rw [if_pos hneg]
      rw [e2]
      exact h
    · have h := r_dec_loop false n.natAbs (by have := hn.2; omega) (by omega) (fun _ => by have := hn.2; omega) w
      have e : sgn false n.natAbs = n := by unfold sgn; simp; omega
      rw [e] at h
      have e2 : Lib.itoa n = Lib.decDigits n.natAbs := by unfold Lib.itoa; rw [if_neg hneg, show n.toNat = n.natAbs by omega]
      rw [e2]
      exact h
end Go.Proofs.YtmfdiclbenmfbaaDoor
