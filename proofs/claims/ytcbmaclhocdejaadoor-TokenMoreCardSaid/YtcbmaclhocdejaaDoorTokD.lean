/- Contracts of package token: the lexer's number, sign, next. -/
import Derived.Test.YtcbmaclhocdejaaDoorTokB
import Derived.Test.YtcbmaclhocdejaaDoorTokC
import Derived.Lib.Strings
namespace Go.Proofs.YtcbmaclhocdejaaDoor
open Go.RowKit
theorem quiet_pure {P : Program} {f : FuncId} {args : Array Value} {W : World} {v : Value} {F : Nat → World}
    (h : Calls P f args W fun e w' => e = .returned v ∧ W = w') (hW : ∃ m, W = F m) : Calls P f args W fun e w'' => e = .returned v ∧ ∃ m, w'' = F m :=
  h.mono fun _ _ ⟨he, hm⟩ => ⟨he, by obtain ⟨m, hm2⟩ := hW; exact ⟨m, hm.symm.trans hm2⟩⟩
/-- Where the number that begins at k ends; the error. -/
def numberE (l : List UInt8) (k : Nat) : Int :=
  if runL isDigit l k < runL isNamed l (runL isDigit l k) then 4
  else if k + 1 < runL isDigit l k ∧ l[k]? = some 48 then 4
  else if numOk ((l.drop k).take (runL isDigit l k - k)) then 0 else 6
def numberV (l : List UInt8) (k : Nat) : Int := if numberE l k = 0 then runL isDigit l k else 0
theorem drew_all (w : World) (a b c : Nat) : (∃ n, w.drewN a = w.drewN n) ∧ (∃ n, (w.drewN a).drewN b = w.drewN n) ∧ ∃ n, ((w.drewN a).drewN b).drewN c = w.drewN n :=
  ⟨⟨a, rfl⟩, ⟨a + b, by rw [World.drewN_drewN]⟩, ⟨a + b + c, by rw [World.drewN_drewN, World.drewN_drewN, Nat.add_assoc]⟩⟩
set_option maxHeartbeats 2000000 in
theorem tok_number (s : ByteArray) (k g : Nat) (w : World) (hs : s.size ≤ 9223372036854775806) (hk : k < s.size) (hg : Hid (LexAt w g s k)) :
    Calls Tryd.prog 25 #[.pointer (some ⟨g, 0, none⟩)] w fun e w' => e = .returned (.tuple #[.int .i64 (numberV s.data.toList k), .int .i64 (numberE s.data.toList k)]) ∧ ∃ n, w' = w.drewN n := by
  have hl := Lib.hid (show s.data.toList.length = s.size by simp)
  have h0 := hg.out.c0
  have h1 := hg.out.c1
  obtain ⟨e, he⟩ : ∃ e, e = runL isDigit s.data.toList k := ⟨_, rfl⟩
  have he1 : k ≤ e := by rw [he]; exact runL_ge _ _ _
  have he2 : e ≤ s.size := by rw [he, ← hl.out]; exact runL_le _ _ _ (by rw [hl.out]; omega)
  obtain ⟨m, hm⟩ : ∃ m, m = runL isNamed s.data.toList e := ⟨_, rfl⟩
  have hm1 : e ≤ m := by rw [hm]; exact runL_ge _ _ _
  have hm2 : m ≤ s.size := by rw [hm, ← hl.out]; exact runL_le _ _ _ (by rw [hl.out]; omega)
  have cd := fun W => Lib.hid (tok_run_digit s k W (by omega) (by omega))
  have cn := fun W => Lib.hid (tok_run_named s e W (by omega) he2)
  rw [← he] at cd
  rw [← hm] at cn
  have HE := Lib.hid he
  have HM := Lib.hid hm
  clear he hm
  have hkl : k < s.data.toList.length := by rw [hl.out]; exact hk
  have hk2 : (k : Int) < (s.size : Int) := by omega
  have hex : (s.extract k e).data.toList = (s.data.toList.drop k).take (e - k) := Lib.extract_data s k e
  have hxs : (s.extract k e).size ≤ 9223372036854775807 := by
    rw [Lib.size_eq, hex, List.length_take]
    omega
  have cq := fun W => Lib.hid (tok_Number (s.extract k e) W hxs)
  have HX := Lib.hid hex
  have HK := Lib.hid hkl
  clear hex hxs hkl
  by_cases hA : e < m
  · have eE : numberE s.data.toList k = 4 := by unfold numberE; rw [if_pos (by rw [← HE.out, ← HM.out]; exact hA)]
    have eV : numberV s.data.toList k = 0 := by simp [numberV, eE]
    have EE := Lib.hid eE
    have EV := Lib.hid eV
    clear eE eV
    have hA2 : (e : Int) < (m : Int) := by omega
    go_enter Tryd.func25, Tryd.ntmps25
    go_wp2
    go_quiet ((go_at_call 16; exact quiet_pure (cd _).out ⟨_, rfl⟩))
    go_wp2
    go_quiet ((go_at_call 16; exact quiet_pure (cn _).out ⟨_, rfl⟩))
    go_wp2
    go_ret2
    exact ⟨ret2 EV.out.symm EE.out.symm, (drew_all _ _ _ 0).2.1⟩
  have hA2 : decide ((e : Int) < (m : Int)) = false := by simp; omega
  have hA3 : decide (e < m) = false := by simp; omega
  have HA := Lib.hid hA
  clear hA
  by_cases hBC : k + 1 < e ∧ s.data.toList[k]? = some 48
  · have eE : numberE s.data.toList k = 4 := by unfold numberE; rw [if_neg (by rw [← HE.out, ← HM.out]; exact HA.out), if_pos (by rw [← HE.out]; exact hBC)]
    have eV : numberV s.data.toList k = 0 := by simp [numberV, eE]
    have EE := Lib.hid eE
    have EV := Lib.hid eV
    have hB2 : (k : Int) + 1 < (e : Int) := by omega
    have hC : ((s[k].toNat : Int) == 48) = true := by
      have h := hBC.2
      rw [List.getElem?_eq_getElem HK.out] at h
      injection h with h
      have h3 : s[k] = 48 := h
      rw [h3]; rfl
    clear eE eV hBC
    go_enter Tryd.func25, Tryd.ntmps25
    go_wp2
    go_quiet ((go_at_call 16; exact quiet_pure (cd _).out ⟨_, rfl⟩))
    go_wp2
    go_quiet ((go_at_call 16; exact quiet_pure (cn _).out ⟨_, rfl⟩))
    go_wp2
    go_ret2
    exact ⟨ret2 EV.out.symm EE.out.symm, (drew_all _ _ _ 0).2.1⟩
  · have eE : numberE s.data.toList k = if numOk (s.extract k e).data.toList then 0 else 6 := by
      unfold numberE
      rw [if_neg (by rw [← HE.out, ← HM.out]; exact HA.out), if_neg (by rw [← HE.out]; exact hBC), ← HE.out, HX.out]
    have hq : (numOk (s.extract k e).data.toList = true ∧ numberE s.data.toList k = 0 ∧ numberV s.data.toList k = e) ∨ (numOk (s.extract k e).data.toList = false ∧ numberE s.data.toList k = 6 ∧ numberV s.data.toList k = 0) := by
      rcases hN : numOk (s.extract k e).data.toList with _ | _
      · rw [hN] at eE
        exact .inr ⟨rfl, eE, by simp [numberV, eE]⟩
      · rw [hN] at eE
        exact .inl ⟨rfl, eE, by simp [numberV, eE, HE.out]⟩
    clear eE
    rcases hq with ⟨q1, q2, q3⟩ | ⟨q1, q2, q3⟩
    all_goals
      rw [q1] at cq
      have EE := Lib.hid q2
      have EV := Lib.hid q3
      clear q1 q2 q3
      by_cases hB : k + 1 < e
    all_goals
      first
        | (have hB2 : (k : Int) + 1 < (e : Int) := by omega
           have hC : ((s[k].toNat : Int) == 48) = false := by
             rw [beq_eq_false_iff_ne]
             intro h
             apply hBC
             refine ⟨hB, ?_⟩
             rw [List.getElem?_eq_getElem HK.out]
             congr 1
             exact UInt8.toNat_inj.1 (by exact_mod_cast h))
        | have hB2 : decide ((k : Int) + 1 < (e : Int)) = false := by (simp; omega)
      clear hBC hB
      go_enter Tryd.func25, Tryd.ntmps25
      go_wp2
      go_quiet ((go_at_call 16; exact quiet_pure (cd _).out ⟨_, rfl⟩))
      go_wp2
      go_quiet ((go_at_call 16; exact quiet_pure (cn _).out ⟨_, rfl⟩))
      go_wp2
      go_quiet ((go_at_call 10; exact quiet_pure (cq _).out ⟨_, rfl⟩))
      go_wp2
      go_ret2
      exact ⟨ret2 EV.out.symm EE.out.symm, by first | exact (drew_all _ _ _ _).2.2 | exact ⟨_, rfl⟩ | (simp only [World.drewN_drewN]; exact ⟨_, rfl⟩)⟩
end Go.Proofs.YtcbmaclhocdejaaDoor
