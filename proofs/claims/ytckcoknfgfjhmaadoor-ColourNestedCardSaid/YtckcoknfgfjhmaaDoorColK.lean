/- Package colour: text. -/
import Derived.Test.YtckcoknfgfjhmaaDoorColI
namespace Go.Proofs.YtckcoknfgfjhmaaDoor
open Go.RowKit
section
variable {A : Option Addr} {n c : Nat} {L : List Col} {B : Option Addr} {d : Nat} {ss : List Int}
set_option maxRecDepth 100000 in
set_option maxHeartbeats 4000000 in
theorem col_text_int (k v : Nat) (m : Int) (w : World) (hS : Hid (SetOk w A n c L B d ss)) (hk : k < n) (hkd : Hid ((L.getD k default).kind = 1)) (hv : Hid ((L.getD k default).lo + m = (v : Int))) (hv1 : v < 100) :
    Calls Tryd.prog 20 #[setV A n c B d k, .int .i64 m] w fun e w' => e = .returned (.string ⟨(Lib.decDigits v).toArray⟩) ∧ Below w.heap.size w w' := by
  have HB1 := Lib.hid ((Below.refl w.heap.size w).alloc (Nat.le_refl _) (.cells #[.slice A n c, .slice B n d, .int .i64 (k : Int)] 42))
  have hS1 := Lib.hid (hS.out.below HB1.out)
  have CI := Lib.hid (fun W => Tryd.strconv_Itoa_small v hv1 W)
  have hcc := col_colour k _ hS1 hk
  obtain ⟨col, hcol⟩ : ∃ col, col = L.getD k default := ⟨_, rfl⟩
  rw [← hcol] at hkd hv hcc
  obtain ⟨nm, kd, lo, hi, ns, fi, th⟩ := col
  have hkd2 : kd = 1 := hkd.out
  subst hkd2
  simp only at hv hcc
  have d1 : IntKind.i64.wrap (lo + m) = (v : Int) := by rw [hv.out]; exact IntWalk.i64_in _ (by omega)
  have HCC := Lib.hid hcc
  clear hcc hcol
  go_enter Tryd.func20, Tryd.ntmps20
  go_wp2_with (first
    | (go_at_call 17; refine HCC.out.mono ?_; rintro e w5 ⟨⟨N, m1, e1, rfl, _⟩, hb5⟩; have HB5 := Lib.hid (below_then HB1.out hb5.out); have HB6 := Lib.hid (HB5.out.alloc HB5.out.size (.cells #[.string nm, .int .i64 1, .int .i64 lo, .int .i64 hi, .slice N m1 e1, .int .i64 fi, .int .i64 th] 27)); clear hb5)
    | (go_at_call 24; refine (CI.out _).mono ?_; rintro e w8 ⟨rfl, rfl⟩))
  go_ret
  exact ⟨rfl, HB6.out⟩
set_option maxRecDepth 100000 in
set_option maxHeartbeats 4000000 in
theorem col_text_enum (k j : Nat) (w : World) (hS : Hid (SetOk w A n c L B d ss)) (hk : k < n) (hkd : Hid ((L.getD k default).kind = 2)) (hj : j < (L.getD k default).names.length) :
    Calls Tryd.prog 20 #[setV A n c B d k, .int .i64 (j : Int)] w fun e w' => e = .returned (.string ((L.getD k default).names.getD j ByteArray.empty)) ∧ Below w.heap.size w w' := by
  have HB1 := Lib.hid ((Below.refl w.heap.size w).alloc (Nat.le_refl _) (.cells #[.slice A n c, .slice B n d, .int .i64 (k : Int)] 42))
  have hS1 := Lib.hid (hS.out.below HB1.out)
  have hcc := col_colour k _ hS1 hk
  obtain ⟨col, hcol⟩ : ∃ col, col = L.getD k default := ⟨_, rfl⟩
  rw [← hcol] at hkd hj hcc ⊢
  obtain ⟨nm, kd, lo, hi, ns, fi, th⟩ := col
  have hkd2 : kd = 2 := hkd.out
  subst hkd2
  simp only at hj hcc ⊢
  have HCC := Lib.hid hcc
  clear hcc hcol
  have hj0 : (0 : Int) ≤ (j : Int) := by omega
  obtain ⟨sx, hsx⟩ : ∃ sx, sx = ns.getD j ByteArray.empty := ⟨_, rfl⟩
  have HSX := Lib.hid hsx
  rw [← hsx]
  clear hsx
  go_enter Tryd.func20, Tryd.ntmps20
  go_wp2_with (go_at_call 17; refine HCC.out.mono ?_; rintro e w5 ⟨⟨N, m1, e1, rfl, hN⟩, hb5⟩; have HB5 := Lib.hid (below_then HB1.out hb5.out); have hnl : ns.length = m1 := (by have h1 := hN.out.len; rw [strCells_len] at h1; omega); have hjm : (j : Int) < (m1 : Int) := (by omega); have HB6 := Lib.hid (HB5.out.alloc HB5.out.size (.cells #[.string nm, .int .i64 2, .int .i64 lo, .int .i64 hi, .slice N m1 e1, .int .i64 fi, .int .i64 th] 27)); have hN6 := hN.out.below ((Below.refl w5.heap.size w5).alloc (Nat.le_refl _) (.cells #[.string nm, .int .i64 2, .int .i64 lo, .int .i64 hi, .slice N m1 e1, .int .i64 fi, .int .i64 th] 27)); obtain ⟨b, o, rfl, cx⟩ := hN6.str_at (k := j) (by omega); rw [← HSX.out] at cx; clear hb5 hN hN6 hnl)
  go_ret
  exact ⟨rfl, HB6.out⟩
end
end Go.Proofs.YtckcoknfgfjhmaaDoor
