/- Contracts of package token: the lexer's next. -/
import Derived.Test.YtcbmaclhocdejaaDoorTokE
namespace Go.Proofs.YtcbmaclhocdejaaDoor
open Go.RowKit
/-- The kind of the token that begins at k, where it ends, the error. -/
def nextK (l : List UInt8) (k : Nat) : Int :=
  if isLetter (l.getD k 0) then (if 32 < runL isNamed l k - k then 0 else 1) else if isDigit (l.getD k 0) then 2 else 3
def nextV (l : List UInt8) (k : Nat) : Int :=
  if isLetter (l.getD k 0) then (if 32 < runL isNamed l k - k then 0 else runL isNamed l k) else if isDigit (l.getD k 0) then numberV l k else signV l k
def nextE (l : List UInt8) (k : Nat) : Int :=
  if isLetter (l.getD k 0) then (if 32 < runL isNamed l k - k then 2 else 0) else if isDigit (l.getD k 0) then numberE l k else signE l k
set_option maxHeartbeats 2000000 in
theorem tok_next (s : ByteArray) (k g : Nat) (w : World) (hs : s.size ≤ 9223372036854775805) (hk : k < s.size) (hg : Hid (LexAt w g s k)) :
    Calls Tryd.prog 14 #[.pointer (some ⟨g, 0, none⟩)] w fun e w' => e = .returned (.tuple #[.int .i64 (nextK s.data.toList k), .int .i64 (nextV s.data.toList k), .int .i64 (nextE s.data.toList k)]) ∧ Below w.heap.size w w' := by
  have h0 := hg.out.c0
  have h1 := hg.out.c1
  have hl : s.data.toList.length = s.size := by simp
  have hk2 : (k : Int) < (s.size : Int) := by omega
  have hc : s[k] = s.data.toList.getD k 0 := by
    have hkl : k < s.data.toList.length := by omega
    rw [List.getD, List.getElem?_eq_getElem hkl]; rfl
  obtain ⟨c, hcc⟩ : ∃ c, s[k] = c := ⟨_, rfl⟩
  have HC := Lib.hid (hcc.symm.trans hc)
  have hm1 : k ≤ runL isNamed s.data.toList k := runL_ge _ _ _
  have hm2 : runL isNamed s.data.toList k ≤ s.size := by rw [← hl]; exact runL_le _ _ _ (by omega)
  obtain ⟨m, hm⟩ : ∃ m, m = runL isNamed s.data.toList k := ⟨_, rfl⟩
  have cn := fun W => Lib.hid (tok_run_named s k W (by omega) (by omega))
  rw [← hm] at cn hm1 hm2
  have HM := Lib.hid hm
  clear hm hc hl
  rcases hL : isLetter c with _ | _
  · rcases hD : isDigit c with _ | _
    · have e1 : nextK s.data.toList k = 3 ∧ nextV s.data.toList k = signV s.data.toList k ∧ nextE s.data.toList k = signE s.data.toList k := by
        unfold nextK nextV nextE; rw [← HC.out, hL, hD]; exact ⟨rfl, rfl, rfl⟩
      have HE := Lib.hid e1
      clear e1
      go_enter Tryd.func14, Tryd.ntmps14
      go_wp2
      go_quiet (fail)
      go_wp2_with (first | (go_at_call 23; refine (tok_letter _ _).mono ?_; rintro e w' ⟨rfl, rfl⟩) | (go_at_call 17; refine (tok_digit _ _).mono ?_; rintro e w' ⟨rfl, rfl⟩) | (go_at_call 26; refine (tok_sign s k g _ hs hk (hg.out.drewN _)).mono ?_; rintro e w2 ⟨rfl, hw2⟩))
      go_ret3
      refine ⟨ret3 HE.out.1.symm HE.out.2.1.symm HE.out.2.2.symm, ?_⟩
      exact (below_drewN' (Below.refl _ _) _).trans (hw2.mono (by simp))
    · have e1 : nextK s.data.toList k = 2 ∧ nextV s.data.toList k = numberV s.data.toList k ∧ nextE s.data.toList k = numberE s.data.toList k := by
        unfold nextK nextV nextE; rw [← HC.out, hL, hD]; exact ⟨rfl, rfl, rfl⟩
      have HE := Lib.hid e1
      clear e1
      go_enter Tryd.func14, Tryd.ntmps14
      go_wp2
      go_quiet (fail)
      go_wp2_with (first | (go_at_call 23; refine (tok_letter _ _).mono ?_; rintro e w' ⟨rfl, rfl⟩) | (go_at_call 17; refine (tok_digit _ _).mono ?_; rintro e w' ⟨rfl, rfl⟩) | (go_at_call 25; refine (tok_number s k g _ (by omega) hk (hg.out.drewN _)).mono ?_; rintro e w2 ⟨rfl, q, rfl⟩))
      go_ret3
      exact ⟨ret3 HE.out.1.symm HE.out.2.1.symm HE.out.2.2.symm, (by repeat (first | exact Below.refl _ _ | apply below_drewN'))⟩
  · by_cases h32 : 32 < m - k
    · have e1 : nextK s.data.toList k = 0 ∧ nextV s.data.toList k = 0 ∧ nextE s.data.toList k = 2 := by
        unfold nextK nextV nextE; rw [← HC.out, hL, ← HM.out]; simp [h32]
      have HE := Lib.hid e1
      clear e1
      have h33 : (32 : Int) < (m : Int) - (k : Int) := by omega
      go_enter Tryd.func14, Tryd.ntmps14
      go_wp2
      go_quiet (fail)
      go_wp2_with (go_at_call 23; refine (tok_letter _ _).mono ?_; rintro e w' ⟨rfl, rfl⟩)
      go_quiet ((go_at_call 16; exact quiet_pure (cn _).out ⟨_, rfl⟩))
      go_wp2
      go_ret3
      exact ⟨ret3 HE.out.1.symm HE.out.2.1.symm HE.out.2.2.symm, (by repeat (first | exact Below.refl _ _ | apply below_drewN'))⟩
    · have e1 : nextK s.data.toList k = 1 ∧ nextV s.data.toList k = m ∧ nextE s.data.toList k = 0 := by
        unfold nextK nextV nextE; rw [← HC.out, hL, ← HM.out]; simp [h32]
      have HE := Lib.hid e1
      clear e1
      have h33 : decide ((32 : Int) < (m : Int) - (k : Int)) = false := by simp; omega
      go_enter Tryd.func14, Tryd.ntmps14
      go_wp2
      go_quiet (fail)
      go_wp2_with (go_at_call 23; refine (tok_letter _ _).mono ?_; rintro e w' ⟨rfl, rfl⟩)
      go_quiet ((go_at_call 16; exact quiet_pure (cn _).out ⟨_, rfl⟩))
      go_wp2
      go_ret3
      exact ⟨ret3 HE.out.1.symm HE.out.2.1.symm HE.out.2.2.symm, (by repeat (first | exact Below.refl _ _ | apply below_drewN'))⟩
end Go.Proofs.YtcbmaclhocdejaaDoor
