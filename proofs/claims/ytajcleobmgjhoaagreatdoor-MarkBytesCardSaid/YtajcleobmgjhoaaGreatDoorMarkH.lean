/- Contracts of package mark: (reader).number. -/
import Derived.Test.YtajcleobmgjhoaaGreatDoorMarkG
import Derived.Laws.BitsAllLaws
namespace Go.Proofs.YtajcleobmgjhoaaGreatDoor
open Go.RowKit Go.Lib
theorem or_byte (z x : Int) (hz : 0 ≤ z ∧ z ≤ 4294967295) (hx : 0 ≤ x ∧ x ≤ 255) : bits .or .i64 (z * 256) x = z * 256 + x := by
  obtain ⟨a, rfl⟩ : ∃ a : Nat, z = (a : Int) := ⟨z.toNat, by omega⟩
  obtain ⟨b, rfl⟩ : ∃ b : Nat, x = (b : Int) := ⟨x.toNat, by omega⟩
  have e : (a : Int) * 256 = ((a * 256 : Nat) : Int) := by simp
  rw [e]
  show IntKind.i64.wrap ((BitVec.ofInt 64 ((a * 256 : Nat) : Int) ||| BitVec.ofInt 64 (b : Int)).toNat : Int) = _
  rw [BitVec.toNat_or, ofInt_u64 (a * 256) (by omega), ofInt_u64 b (by omega), nat_join 8 (a * 256) b (by omega) (by omega)]
  rw [IntWalk.i64_in _ (by omega)]
  simp
set_option maxRecDepth 100000 in
set_option maxHeartbeats 4000000 in
theorem reader_number (lim r s : Nat) (rest : List Int) (bad : Bool) (w : World) (hR : Hid (Rd w lim r rest bad)) (hs : s ≤ 4) (hs1 : 1 ≤ s) :
    Calls Tryz.prog 38 #[.pointer (some ⟨r, 0, none⟩), .int .i64 (s : Int)] w (NumP lim r s rest bad w) := by
  obtain ⟨A, n, c, q0, hS, hlim⟩ := hR.out.buf
  have HLM := Lib.hid hlim
  clear hlim
  have q1 := hR.out.isBad
  have f0 := hR.out.live 0
  have f1 := hR.out.live 1
  have hn := hS.bound
  have HS := Lib.hid hS
  have hl := Lib.hid (show rest.length = n by have := hS.len; rw [u8_len] at this; omega)
  clear hS
  cases bad with
  | true =>
    go_enter Tryz.func38, Tryz.ntmps38
    go_wp2
    go_ret
    exact ⟨fun B a h hB => h.setCell hB _, by simp [World.setCell], fun base t sz v n xs hb h => ownsRow_setCell_below h hb _, .inl ⟨.inl rfl, rfl, hR.out.setBad true⟩⟩
  | false =>
    by_cases hlt : n < s
    · have hlt2 : (n : Int) < (s : Int) := by omega
      go_enter Tryz.func38, Tryz.ntmps38
      go_wp2
      go_ret
      exact ⟨fun B a h hB => h.setCell hB _, by simp [World.setCell], fun base t sz v n xs hb h => ownsRow_setCell_below h hb _, .inl ⟨.inr (by rw [hl.out]; exact hlt), rfl, hR.out.setBad true⟩⟩
    · have hge : (s : Int) ≤ (n : Int) := by omega
      obtain ⟨b, off, rfl, _⟩ := HS.out.u8_at (k := 0) (by omega)
      have HS1 := Lib.hid (HS.out.set_u8 q1 (by intro k x h; cases h) (.bool false))
      have HT := Lib.hid (HS1.out.take_u8 (s := s) (by omega))
      have q0b := (hR.out.setBad false).buf
      have hsc : (s : Int) ≤ (c : Int) := by
        obtain ⟨_, _, e, h1, _⟩ := HS.out
        injection e with _ _ e
        omega
      have hus := Lib.hid (show U8s (rest.take s) from fun x hx => hR.out.wf x (List.mem_of_mem_take hx))
      have hln := Lib.hid (show (rest.take s).length = s by rw [List.length_take, hl.out]; omega)
      obtain ⟨T, hT⟩ : ∃ T, T = rest.take s := ⟨_, rfl⟩
      rw [← hT] at HT hus hln
      have HTT := Lib.hid hT
      clear hT
      obtain ⟨w1, hw1⟩ : ∃ w1, w1 = w.setCell ⟨r, 1, none⟩ (.bool false) := ⟨_, rfl⟩
      rw [← hw1] at HS1 HT
      have HW := Lib.hid hw1
      clear hw1
      go_enter Tryz.func38, Tryz.ntmps38
      go_wp2
      rw [← HW.out]
      go_loopw [5, 7, 35] (fun a _ v wr => ∃ (k : Nat) (z : Int), k ≤ s ∧ a = .int .i64 z ∧ v = .int .i64 (k : Int) ∧ Hid (z = numB 0 (T.take k)) ∧ wr = w1) (fun _ _ v _ => s - (RowKit.intOf v).toNat)
      case atStart => exact ⟨0, 0, by omega, rfl, rfl, rfl, rfl⟩
      case round =>
        obtain ⟨k, z, hk, rfl, rfl, hz, rfl⟩ := hrel
        by_cases hks : k < s
        · obtain ⟨b', off', e', c1⟩ := HT.out.u8_at hks
          injection e' with e'
          injection e' with e1 e2
          subst e1 e2
          obtain ⟨x, hx⟩ : ∃ x, x = T.getD k 0 := ⟨_, rfl⟩
          rw [← hx] at c1
          have hkT : k < T.length := by rw [hln.out]; exact hks
          have hts : T.take (k + 1) = T.take k ++ [x] := by rw [List.take_succ_eq_append_getElem hkT, hx, List.getD, List.getElem?_eq_getElem hkT]; rfl
          have hxb : 0 ≤ x ∧ x ≤ 255 := hus.out x (by rw [hx, List.getD, List.getElem?_eq_getElem hkT]; exact List.getElem_mem _)
          have hnx : numB 0 (T.take (k + 1)) = z * 256 + x := by rw [hts, numB_snoc, hz.out]
          have hzb : 0 ≤ z ∧ z ≤ 4294967295 := by
            rw [hz.out]
            have := numB_bound (T.take k) (fun y hy => hus.out y (List.mem_of_mem_take hy))
            exact ⟨this.1, this.2 (by rw [List.length_take]; omega)⟩
          have HN := Lib.hid hnx
          have hks2 : (k : Int) < (s : Int) := by omega
          have hk0 : (0 : Int) ≤ (k : Int) := by omega
          have hor := or_byte z x hzb hxb
          clear hx hts hnx hkT
          go_wp2
          go_roundw
          case rel => exact ⟨k + 1, z * 256 + x, by omega, by go_num, by go_num, HN.out.symm, by first | rfl | trivial⟩
          case measure => simp [RowKit.intOf]; omega
        · have hks2 : k = s := by omega
          have e1 : T.take k = T := List.take_of_length_le (by rw [hln.out]; omega)
          have hzz := Lib.hid (show z = numB 0 (rest.take s) by rw [hz.out, e1, HTT.out])
          have hfz : wr.frozen? ⟨r, 0, none⟩ = false := by rw [HW.out, World.frozen?_setCell]; exact f0
          have hc0 : wr.cell? ⟨r, 0, none⟩ = some (.slice (some ⟨b, off, none⟩) n c) := by
            rw [HW.out]
            exact (World.cell?_setCell_other _ _ _ _ (by intro e; injection e with _ e _; cases e)).trans q0
          have hc1 := Lib.hid (show wr.cell? ⟨r, 1, none⟩ = some (.bool false) by rw [HW.out]; exact World.cell?_setCell_same _ _ _ q1)
          have hend := Lib.hid (show ∀ A2 n2 c2, Sl wr (.slice A2 n2 c2) n2 1 (u8Cells (rest.drop s)) → (0 < n2 → ∀ b o, A2 = some ⟨b, o, none⟩ → b < lim) → NumP lim r s rest false w (.returned (.int .i64 z)) (wr.setCell ⟨r, 0, none⟩ (.slice A2 n2 c2)) from fun A2 n2 c2 hS2 hL2 => by
            refine ⟨fun B a h hB => ?_, by rw [HW.out]; simp [World.setCell], fun base t sz v n xs hb h => ?_, .inr ⟨rfl, by rw [hl.out]; omega, by rw [hzz.out], ?_⟩⟩
            · rw [HW.out]; exact (h.setCell hB _).setCell hB _
            · rw [HW.out]; exact ownsRow_setCell_below (ownsRow_setCell_below h hb _) hb _
            · refine ⟨⟨A2, n2, c2, World.cell?_setCell_same _ _ _ hc0, hS2.set_u8 hc0 (by intro k x h; cases h) _, hL2⟩, hR.out.lt, ?_, fun j => ?_, fun x hx => hR.out.wf x (List.mem_of_mem_drop hx)⟩
              · exact (World.cell?_setCell_other _ _ _ _ (by intro e; injection e with _ e _; cases e)).trans hc1.out
              · rw [World.frozen?_setCell, HW.out, World.frozen?_setCell]; exact hR.out.live j)
          have hns : (n : Int) ≤ (c : Int) := by
            obtain ⟨_, _, e, h1, _⟩ := HS.out
            injection e with _ _ e
            omega
          by_cases hcs : c = s
          · have hn0 : n = s := by omega
            have hd := hend.out (some ⟨b, off, none⟩) 0 0 ⟨_, _, rfl, by omega, by omega, by rw [u8_len, List.length_drop, hl.out]; omega, fun h => absurd h (by omega)⟩ (fun h => absurd h (by omega))
            have HD := Lib.hid hd
            subst hn0
            subst hcs
            clear hd hend hks2 e1
            go_wp2
            go_ret
            exact HD.out
          · have hd := hend.out (some ⟨b, off + s, none⟩) (n - s) (c - s) (HS1.out.drop_u8 (by omega)) (by
              intro _ b2 o2 e
              injection e with e
              injection e with e1 _
              subst e1
              exact HLM.out (by omega) _ _ rfl)
            have HD := Lib.hid hd
            clear hd hend hks2 e1
            go_wp2
            go_ret
            exact HD.out
end Go.Proofs.YtajcleobmgjhoaaGreatDoor
