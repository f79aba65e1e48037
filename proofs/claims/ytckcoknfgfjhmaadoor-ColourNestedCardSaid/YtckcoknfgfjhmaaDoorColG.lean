/- Law 02: Few. -/
import Derived.Test.YtckcoknfgfjhmaaDoorColF
import Derived.Deep.LoopGhost
import Derived.Deep.CutBlock
import Derived.Deep.DeepCutAuto
namespace Go.Proofs.YtckcoknfgfjhmaaDoor
open Go.RowKit
/-- The relation of Few's loop: a row of some numbers of its own. -/
def FewL (w wr : World) (k : Nat) (v : Value) : Prop := (∃ out : List Int, wr.ownsRow w.heap.size 3 1 v k (intCells out)) ∧ Below w.heap.size w wr
/-- What Few leaves. -/
def FewP (w : World) (e : Ending) (w' : World) : Prop := ∃ b, e = .returned (.bool b) ∧ Below w.heap.size w w'
set_option maxRecDepth 100000 in
set_option maxHeartbeats 8000000 in
theorem col_Few (A : Option Addr) (n c : Nat) (L : List Col) (w : World) (hC : Hid (Cols w A n c L)) :
    Calls Tryd.prog 5 #[.slice A n c] w (FewP w) := by
  have hl := Lib.hid hC.out.2.2.1
  have hn9 : n ≤ 9223372036854775807 := Nat.le_trans hC.out.1 hC.out.2.1
  go_enter Tryd.func5, Tryd.ntmps5
  go_wp2_with fail
  go_loopg [3, 4, 5] n (fun r v3 v4 v5 wr => ∃ (k : Nat) (N : Int) (B : Option Addr) (d : Nat), k ≤ n ∧ k ≤ 50 ∧ r = n - k ∧ v3 = .int .i64 N ∧ v4 = .slice B k d ∧ v5 = .int .i64 (k : Int) ∧ Hid (FewL w wr k (.slice B k d)))
  case atStart => exact ⟨0, 0, none, 0, by omega, by omega, by omega, rfl, rfl, rfl, ⟨[], World.ownsRow_nil _ _ _ _⟩, Below.refl _ _⟩
  case round =>
    obtain ⟨k, N, B, d, hk, hk5, rfl, rfl, rfl, rfl, hF⟩ := hrel
    by_cases hlt : k < n
    · have hlt2 : (k : Int) < (n : Int) := by omega
      by_cases h50 : k < 50
      · have h502 : (k : Int) < 50 := by omega
        obtain ⟨b, off, rfl, M, m, e0, hCA⟩ := (hC.out.below hF.out.2).at_ hlt
        have hCl := hCA.len
        obtain ⟨col, hcol⟩ : ∃ col, col = L.getD k default := ⟨_, rfl⟩
        rw [← hcol] at hCA hCl
        obtain ⟨c0, c1, c2, c3, c4, c5, c6, hnm, hok⟩ := hCA
        have HNM := Lib.hid hnm
        have HOK := Lib.hid hok
        have hm9 := hCl.2
        have hk0 : (0 : Int) ≤ (k : Int) := by omega
        clear hnm hok hcol hCl c0 c2 c3
        go_upto_block 2 with fail
        go_cut [6] (fun s6 wx => (∃ z, s6 = .int .i64 z) ∧ wx = wr)
        case first =>
          go_wp2_with fail
          go_loopg [6, 7] m (fun r v6 v7 wx => ∃ (z : Int) (q : Nat), q ≤ m ∧ r = m - q ∧ v6 = .int .i64 z ∧ v7 = .int .i64 (q : Int) ∧ wx = wr)
          case atStart => exact ⟨22, 0, by omega, by omega, rfl, rfl, rfl⟩
          case round =>
            obtain ⟨z, q, hq, rfl, rfl, rfl, hwx⟩ := hrel
            have hwx2 := hwx.symm
            subst hwx2
            by_cases hqm : q < m
            · have hqm2 : (q : Int) < (m : Int) := by omega
              have hq0 : (0 : Int) ≤ (q : Int) := by omega
              obtain ⟨b2, o2, rfl, cs⟩ := HNM.out.str_at hqm
              by_cases h2 : (q : Int) < 200
              · go_wp2
                all_goals
                  go_roundg (m - (q + 1))
                  case measure => omega
                  case rel => exact ⟨_, q + 1, by omega, rfl, rfl, by go_num, by trivial⟩
              · have h2' : (200 : Int) ≤ (q : Int) := by omega
                go_wp2
                go_meet
                exact ⟨⟨_, rfl⟩, rfl⟩
            · have hqm2 : (m : Int) ≤ (q : Int) := by omega
              go_wp2
              go_meet
              exact ⟨⟨_, rfl⟩, rfl⟩
        case rest =>
          obtain ⟨⟨z, rfl⟩, hwc⟩ := hcut
          have hwc2 := hwc.symm
          subst hwc2
          obtain ⟨out, hown⟩ := hF.out.1
          have HOW := Lib.hid hown
          have hkd : k ≤ d ∧ d ≤ 9223372036854775807 := by
            rcases hown.2 with ⟨h1, h2⟩ | ⟨_, _, _, h1, _, _, h2, h3, _⟩
            · injection h1 with _ _ h1; omega
            · injection h1 with _ _ h1; unfold maxLen at h3; omega
          obtain ⟨hkd, hd9⟩ := hkd
          have hsz := hF.out.2.size
          clear hown
          go_upto_region 14 with fail
          obtain ⟨nm, kd, lo, hi, ns, fi, th⟩ := col
          simp only at c1 c5 c6
          go_cut [86] (fun s wx => wx = wr ∧ ((s = .bool true ∧ Hid (0 ≤ fi ∧ fi < (k : Int) ∧ 0 ≤ th ∧ th < (k : Int))) ∨ s = .bool false))
          case first =>
            by_cases hc : kd = 3 ∧ 0 ≤ fi ∧ fi < (k : Int) ∧ 0 ≤ th ∧ th < (k : Int)
            · obtain ⟨rfl, f0, f1, t0, t1⟩ := hc
              go_wp2
              go_meet
              exact ⟨rfl, .inl ⟨rfl, f0, f1, t0, t1⟩⟩
            · by_cases k3 : kd = 3
              · subst k3
                by_cases f0 : 0 ≤ fi
                · by_cases f1 : fi < (k : Int)
                  · by_cases t0 : 0 ≤ th
                    · have t1 : (k : Int) ≤ th := by omega
                      go_wp2
                      go_meet
                      exact ⟨rfl, .inr (by first | rfl | (simp; omega))⟩
                    · have t1 : th < 0 := by omega
                      go_wp2
                      go_meet
                      exact ⟨rfl, .inr rfl⟩
                  · have f2 : (k : Int) ≤ fi := by omega
                    go_wp2
                    go_meet
                    exact ⟨rfl, .inr rfl⟩
                · have f2 : fi < 0 := by omega
                  go_wp2
                  go_meet
                  exact ⟨rfl, .inr rfl⟩
              · have b3 : (kd == 3) = false := by simpa using k3
                go_wp2
                go_meet
                exact ⟨rfl, .inr rfl⟩
          case rest =>
           obtain ⟨hwc, hs86⟩ := hcut
           have hwc2 := hwc.symm
           clear hwc
           subst hwc2
           go_upto_if 86 with fail
           go_cut [6] (fun s6 wx => (∃ z, s6 = .int .i64 z) ∧ ∃ t, wx = wr.drewN t)
           case first =>
             rcases hs86 with ⟨rfl, hc⟩ | rfl
             · obtain ⟨f0, f1, t0, t1⟩ := hc.out
               obtain ⟨p, rfl⟩ : ∃ p : Nat, fi = (p : Int) := ⟨fi.toNat, by omega⟩
               obtain ⟨q, rfl⟩ : ∃ q : Nat, th = (q : Int) := ⟨th.toNat, by omega⟩
               obtain ⟨b2, o2, rfl, e0⟩ := (Sl.of_own HOW.out).int_at' (k := p) (by omega)
               obtain ⟨b3, o3, e3, e1⟩ := (Sl.of_own HOW.out).int_at' (k := q) (by omega)
               injection e3 with e3
               injection e3 with e3 e4
               subst e3; subst e4
               go_wp2
               go_quiet (fail)
               go_wp2
               go_meet
               exact ⟨⟨_, rfl⟩, _, rfl⟩
             · go_wp2
               go_meet
               exact ⟨⟨_, rfl⟩, 0, rfl⟩
           case rest =>
            obtain ⟨⟨z2, rfl⟩, t, rfl⟩ := hcut
            by_cases h4 : 4000 < z2
            · have HB := Lib.hid (below_drewN' hF.out.2 t)
              go_wp2
              go_ret
              exact ⟨_, rfl, HB.out⟩
            · have h4' : z2 ≤ 4000 := by omega
              have hone := Lib.hid (one_int z2)
              go_wp2_with (at_builtin; refine wpList_append_sl ints_ty1 rfl (.tmp 99) (.tmp 101) rfl w.heap.size rfl (by exact (own_drewN HOW.out t).alloc _) rfl (by exact Sl.new _ _ [Value.int .i64 z2] 1 1 rfl (by omega)) hone.out (by omega) (by omega) (by simp; omega) ?_; intro v4 w4 hown4 hg4 hat4; obtain ⟨A4, c4, rfl, _, _⟩ := (Sl.of_own hown4).form; have HB4 := Lib.hid (((below_drewN' hF.out.2 t).alloc (by simpa using hsz) (.cells #[.int .i64 z2] 3)).grown hg4 (by simp; omega) (fun q hq => (HOW.out.lt q hq).1)); have OW4 := Lib.hid hown4; clear hown4 hg4 hat4)
              go_roundg (n - (k + 1))
              case measure => omega
              case rel => exact ⟨k + 1, _, A4, c4, by omega, by omega, rfl, rfl, rfl, by go_num, ⟨⟨out ++ [z2], by rw [intCells_snoc]; exact OW4.out⟩, HB4.out⟩⟩
      · have h502 : (50 : Int) ≤ (k : Int) := by omega
        go_wp2
        all_goals
          go_ret
          exact ⟨_, rfl, hF.out.2⟩
    · have hlt2 : (n : Int) ≤ (k : Int) := by omega
      go_wp2
      all_goals
        go_ret
        exact ⟨_, rfl, hF.out.2⟩
end Go.Proofs.YtckcoknfgfjhmaaDoor
