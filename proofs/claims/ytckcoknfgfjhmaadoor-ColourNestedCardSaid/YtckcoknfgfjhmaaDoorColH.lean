/- Package colour: cut. -/
import Derived.Test.YtckcoknfgfjhmaaDoorColG
import Derived.Test.YtckcoknfgfjhmaaDoorShelf
import Derived.Lib.OthersKept
import Derived.Lib.TrimU
namespace Go.Proofs.YtckcoknfgfjhmaaDoor
open Go.RowKit
/-- How deep, behind a rune. -/
def deepF (R : Nat) (d : Int) : Int := if R = 40 then d + 1 else if R = 41 then d - 1 else d
/-- Where the comma stands. -/
def cutF (s : ByteArray) : Nat → Nat → Int → Int
  | 0, _, _ => -1
  | g + 1, pos, d => if pos < s.size then (if (Utf8.decode s pos).1 = 44 ∧ deepF (Utf8.decode s pos).1 d = 0 then (pos : Int) else cutF s g (pos + (Utf8.decode s pos).2) (deepF (Utf8.decode s pos).1 d)) else -1
theorem cutF_end {s : ByteArray} {g pos : Nat} {d : Int} (h : ¬ pos < s.size) : cutF s g pos d = -1 := by
  cases g with
  | zero => rfl
  | succ g => rw [cutF, if_neg h]
/-- Block D alone has turned. -/
structure OnlyD (D : Nat) (w w' : World) : Prop where
  os : w'.os = w.os
  tape : w'.tape = w.tape
  output : w'.output = w.output
  size : w.heap.size ≤ w'.heap.size
  block : ∀ k, k < w.heap.size → k ≠ D → w'.heap[k]? = w.heap[k]?
theorem OnlyD.refl (D : Nat) (w : World) : OnlyD D w w := ⟨rfl, rfl, rfl, Nat.le_refl _, fun _ _ _ => rfl⟩
theorem OnlyD.trans {D : Nat} {a b c : World} (h : OnlyD D a b) (k : OnlyD D b c) : OnlyD D a c :=
  ⟨k.os.trans h.os, k.tape.trans h.tape, k.output.trans h.output, Nat.le_trans h.size k.size, fun i hi hn => (k.block i (Nat.lt_of_lt_of_le hi h.size) hn).trans (h.block i hi hn)⟩
theorem OnlyD.of_below {D : Nat} {a b : World} (h : Below a.heap.size a b) : OnlyD D a b := ⟨h.os, h.tape, h.output, h.size, fun k hk _ => h.block k hk⟩
theorem set_sameD {w : World} {g o t : Nat} {c : Array Value} {u : Value} (h : w.heap[g]? = some (.cells c t (0, 0))) : (w.setCell ⟨g, o, none⟩ u).heap[g]? = some (.cells (c.setIfInBounds o u) t (0, 0)) := by
  simp [World.setCell, Array.getElem?_modify, h]
theorem OnlyD.set {D : Nat} {w : World} (u : Value) : OnlyD D w (w.setCell ⟨D, 0, none⟩ u) :=
  ⟨rfl, rfl, rfl, Nat.le_of_eq (by simp [World.setCell]), fun k _ hk => Below.heap_setCell w ⟨D, 0, none⟩ u k hk⟩
abbrev DeepAt (w : World) (D : Nat) (d : Int) : Prop := w.heap[D]? = some (.cells #[.int .i64 d] 3 (0, 0))
set_option maxHeartbeats 1000000 in
theorem col_cut1 (R : Nat) (D : Nat) (d : Int) (w : World) (hD : Hid (DeepAt w D d)) (h1 : -9223372036854775808 < d) (h2 : d < 9223372036854775807) :
    Calls Tryd.prog 36 #[.int .i32 (R : Int), .pointer (some ⟨D, 0, none⟩)] w fun e w' => e = .returned (.bool (decide (R = 44 ∧ deepF R d = 0))) ∧ DeepAt w' D (deepF R d) ∧ OnlyD D w w' := by
  have c0 : w.cell? ⟨D, 0, none⟩ = some (.int .i64 d) := by rw [cell_of_row _ _ _ _ _ _ hD.out]; rfl
  have f0 : w.frozen? ⟨D, 0, none⟩ = false := by simp [World.frozen?, hD.out]
  unfold deepF
  by_cases r0 : R = 40
  · subst r0
    have d1 : IntKind.i64.wrap (d + 1) = d + 1 := IntWalk.i64_in _ (by omega)
    have hs := Lib.hid (set_sameD (o := 0) (u := .int .i64 (d + 1)) hD.out)
    go_enter Tryd.func36, Tryd.ntmps36
    go_wp2
    go_ret
    exact ⟨rfl, hs.out, OnlyD.set _⟩
  · rw [if_neg r0]
    by_cases r1 : R = 41
    · subst r1
      have d1 : IntKind.i64.wrap (d - 1) = d - 1 := IntWalk.i64_in _ (by omega)
      have hs := Lib.hid (set_sameD (o := 0) (u := .int .i64 (d - 1)) hD.out)
      go_enter Tryd.func36, Tryd.ntmps36
      go_wp2
      go_ret
      exact ⟨rfl, hs.out, OnlyD.set _⟩
    · rw [if_neg r1]
      have b0 : ((R : Int) == 40) = false := by simp; omega
      have b1 : ((R : Int) == 41) = false := by simp; omega
      by_cases r2 : R = 44
      · subst r2
        by_cases hd : d = 0
        · subst hd
          go_enter Tryd.func36, Tryd.ntmps36
          go_wp2
          go_ret
          exact ⟨rfl, hD.out, OnlyD.refl _ _⟩
        · have b3 : (d == 0) = false := by simpa using hd
          have e1 : decide (44 = 44 ∧ d = 0) = false := by simpa using hd
          rw [e1]
          go_enter Tryd.func36, Tryd.ntmps36
          go_wp2
          go_ret
          exact ⟨rfl, hD.out, OnlyD.refl _ _⟩
      · have b2 : ((R : Int) == 44) = false := by simp; omega
        have e1 : decide (R = 44 ∧ d = 0) = false := by simp; omega
        rw [e1]
        go_enter Tryd.func36, Tryd.ntmps36
        go_wp2
        go_ret
        exact ⟨rfl, hD.out, OnlyD.refl _ _⟩
set_option maxRecDepth 100000 in
set_option maxHeartbeats 2000000 in
theorem col_indexFunc (s : ByteArray) (D : Nat) (w : World) (hs : s.size ≤ 1000000) (hD : Hid (DeepAt w D 0)) :
    Calls Tryd.prog 45 #[.string s, .func (.func 36) #[] #[.pointer (some ⟨D, 0, none⟩)], .bool true] w fun e w' => e = .returned (.int .i64 (cutF s s.size 0 0)) ∧ OnlyD D w w' := by
  have hDw := Lib.hid (Array.getElem?_eq_some_iff.1 hD.out).1
  go_enter Tryd.func45, Tryd.ntmps45
  go_wp2
  go_loopg [] s.size (fun gf wx => ∃ (pos : Nat) (d : Int), wx.heap[w.heap.size]? = some (.stringIter s pos) ∧ Hid (OnlyD D w wx) ∧ Hid (DeepAt wx D d) ∧ Hid (cutF s gf pos d = cutF s s.size 0 0) ∧ s.size ≤ pos + gf ∧ -(pos : Int) ≤ d ∧ d ≤ (pos : Int))
  case atStart =>
    have hb : Below w.heap.size w (w.iter s 0) := (Below.refl _ w).alloc (Nat.le_refl _) _
    exact ⟨0, 0, World.iter_heap w s 0, OnlyD.of_below hb, (hb.block D hDw.out).trans hD.out, rfl, by omega, by omega, by omega⟩
  case round =>
    obtain ⟨pos, d, hit, hbw, hdp, hleft, hfu, hd1, hd2⟩ := hrel
    by_cases hps : pos < s.size
    · obtain ⟨g', rfl⟩ : ∃ g', gk = g' + 1 := ⟨gk - 1, by omega⟩
      have hnx : ∀ ty, (Instr.next (.pointer (some ⟨w.heap.size, 0, none⟩)) true ty).run Tryd.prog wr = _ := fun ty => Lib.run_next_any_at wr w.heap.size s pos ty hit hps
      have hwd := Lib.width_pos s pos
      have hl := hleft.out
      rw [cutF, if_pos hps] at hl
      obtain ⟨R, hR⟩ : ∃ R, (Utf8.decode s pos).1 = R := ⟨_, rfl⟩
      obtain ⟨K, hK⟩ : ∃ K, (Utf8.decode s pos).2 = K := ⟨_, rfl⟩
      rw [hR, hK] at hnx hl
      rw [hK] at hwd
      have hit2 := Lib.iterAt_heap wr w.heap.size s pos (pos + K) hit
      have hne : D ≠ w.heap.size := by have := hDw.out; omega
      have hO2 := Lib.hid (show OnlyD D w (wr.iterAt w.heap.size s (pos + K)) from ⟨hbw.out.os, hbw.out.tape, hbw.out.output, by rw [Lib.iterAt_size]; exact hbw.out.size, fun k hk hn => (Lib.iterAt_other wr w.heap.size k s (pos + K) (by omega)).trans (hbw.out.block k hk hn)⟩)
      have hd3 := Lib.hid (show DeepAt (wr.iterAt w.heap.size s (pos + K)) D d from (Lib.iterAt_other wr w.heap.size D s (pos + K) hne).trans hdp.out)
      obtain ⟨W, hWd⟩ : ∃ W, wr.iterAt w.heap.size s (pos + K) = W := ⟨_, rfl⟩
      rw [hWd] at hnx hit2 hO2 hd3
      have cS := col_cut1 R D d W hd3 (by omega) (by omega)
      have hdr : -((pos + K : Nat) : Int) ≤ deepF R d ∧ deepF R d ≤ ((pos + K : Nat) : Int) := by
        unfold deepF
        split
        · omega
        · split <;> omega
      have hWs := Lib.hid (show w.heap.size < W.heap.size from (Array.getElem?_eq_some_iff.1 hit2).1)
      have HIT := Lib.hid hit2
      by_cases hT : R = 44 ∧ deepF R d = 0
      · rw [decide_eq_true hT] at cS
        rw [if_pos hT] at hl
        have HL := Lib.hid hl
        have CS := Lib.hid cS
        clear hl cS hT hR hK hWd hit2
        go_wp2_with (go_at_call 36; refine CS.out.mono ?_; rintro e w5 ⟨rfl, h5, o5⟩; have HO5 := Lib.hid (hO2.out.trans (o5)); clear h5 o5)
        go_ret
        exact ⟨by rw [← HL.out]; rfl, HO5.out⟩
      · have hT2 : decide (R = 44 ∧ deepF R d = 0) = false := by rw [decide_eq_false_iff_not]; exact hT
        rw [hT2] at cS
        rw [if_neg hT] at hl
        have HL := Lib.hid hl
        have CS := Lib.hid cS
        clear hl cS hT hT2 hR hK hWd hit2
        go_wp2_with (go_at_call 36; refine CS.out.mono ?_; rintro e w5 ⟨rfl, h5, o5⟩; have HO5 := Lib.hid (hO2.out.trans (o5)); have H5 := Lib.hid h5; have HI5 := (o5.block _ hWs.out (Ne.symm hne)).trans HIT.out; clear h5 o5)
        go_roundg g'
        case measure => omega
        case rel => exact ⟨pos + K, deepF R d, HI5, HO5, H5, HL, by omega, by omega, by omega⟩
    · have hnx : ∀ ty, (Instr.next (.pointer (some ⟨w.heap.size, 0, none⟩)) true ty).run Tryd.prog wr = _ := fun ty => Lib.run_next_end_at wr w.heap.size s pos ty hit hps
      have hl := Lib.hid (hleft.out.symm.trans (cutF_end hps))
      go_wp2
      go_ret
      exact ⟨by rw [hl.out]; rfl, hbw.out⟩
end Go.Proofs.YtckcoknfgfjhmaaDoor
