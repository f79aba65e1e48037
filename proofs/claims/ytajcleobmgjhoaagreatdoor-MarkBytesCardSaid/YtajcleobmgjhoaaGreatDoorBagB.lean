/- Maps of counts; contracts of package bag: of, both. -/
import Derived.Test.YtajcleobmgjhoaaGreatDoorBagA
import Derived.Maps.OwnOps
import Derived.Maps.RangeWalk
import Derived.Maps.Ext
namespace Go.Proofs.YtajcleobmgjhoaaGreatDoor
open Go.RowKit
theorem wf64 {x : Int} (h : I64 x) : (Lit.int .i64 x).wf = true := by
  have hmin : IntKind.i64.min = -9223372036854775808 := rfl
  have hmax : IntKind.i64.max = 9223372036854775807 := rfl
  simp only [Lit.wf, Bool.and_eq_true, decide_eq_true_eq, hmin, hmax]
  exact h
theorem keyI : Maps.Keyed Tryz.prog 3 := Maps.int_keyed Tryz.underlying3
theorem keyOfI {x : Int} (h : I64 x) : keyOf Tryz.prog 3 (.int .i64 x) = some (.int .i64 x) := Maps.keyOf_int_mk Tryz.underlying3 (wf64 h)
abbrev OwnI (w : World) (b n : Nat) (D : DataW Unit) : Prop := w.ownsMap Tryz.prog 3 (plainElem Tryz.prog 3) b n D
theorem zeroI (w : World) : (zeroValue 3).run Tryz.prog w = .ok (.int .i64 0) w := by kernel_rfl
/-- What the map holds: the rows. -/
def MapD (D : DataW Unit) (M : Row) : Prop :=
  (∀ kl, Maps.has D kl = true → ∃ p ∈ M, kl = .int .i64 p.1) ∧ ∀ p ∈ M, ∀ z, D.atKey (.int .i64 p.1) z = .lit (.int .i64 p.2)
/-- What the map counts. -/
def GetD (D : DataW Unit) (g : Int → Int) : Prop := ∀ k, D.atKey (.int .i64 k) (.lit (.int .i64 0)) = .lit (.int .i64 (g k))
theorem MapD.get {D : DataW Unit} {M : Row} (h : MapD D M) (hs : Srt M) : GetD D (getM M) := by
  intro k
  cases hh : Maps.has D (.int .i64 k) with
  | true =>
    obtain ⟨p, hp, e⟩ := h.1 _ hh
    injection e with _ e
    subst e
    rw [h.2 p hp, getM_mem hs hp]
  | false =>
    rw [Maps.atKey_of_not_has hh, getM_not]
    intro p hp e
    have := Maps.has_true_of_atKey (h.2 p hp)
    rw [e, hh] at this
    cases this
theorem MapD.put {D : DataW Unit} {M : Row} {p : Int × Int} (h : MapD D M) (hD : Maps.IsMap D) (hn : ∀ q ∈ M, q.1 ≠ p.1) : MapD (D.put (.int .i64 p.1) (.lit (.int .i64 p.2))) (M ++ [p]) := by
  refine ⟨fun kl hk => ?_, fun q hq z => ?_⟩
  · by_cases e : kl = .int .i64 p.1
    · exact ⟨p, by simp, e⟩
    · rw [Maps.has_put_other e] at hk
      obtain ⟨q, hq, e⟩ := h.1 kl hk
      exact ⟨q, by simp [hq], e⟩
  · rcases List.mem_append.1 hq with hq | hq
    · rw [Maps.atKey_put_other (fun h1 => hn q hq (by injection h1))]
      exact h.2 q hq z
    · rw [List.mem_singleton] at hq
      subst hq
      exact Maps.atKey_put_same hD (show WideAt.IsKeyLit (Lit.int .i64 q.1) from trivial) _ _
theorem GetD.put {D : DataW Unit} {g : Int → Int} (h : GetD D g) (hD : Maps.IsMap D) (k v : Int) : GetD (D.put (.int .i64 k) (.lit (.int .i64 v))) (fun j => if j = k then v else g j) := by
  intro j
  by_cases e : j = k
  · subst e
    rw [Maps.atKey_put_same hD (show WideAt.IsKeyLit (Lit.int .i64 j) from trivial)]; simp
  · rw [Maps.atKey_put_other (fun h1 => e (by injection h1)), h j]; simp [e]
/-- Block b is a map that holds the rows. -/
def MapM (w : World) (b : Nat) (M : Row) : Prop := ∃ D, OwnI w b M.length D ∧ MapD D M
theorem MapM.below {B : Nat} {w w' : World} {b : Nat} {M : Row} (h : MapM w b M) (hb : Below B w w') (hB : b < B) : MapM w' b M := by
  obtain ⟨D, ⟨es, cl, h1, h2⟩, h3⟩ := h
  exact ⟨D, ⟨es, cl, by rw [hb.block b hB]; exact h1, h2⟩, h3⟩
theorem MapM.lt {w : World} {b : Nat} {M : Row} (h : MapM w b M) : b < w.heap.size := by
  obtain ⟨D, h, _⟩ := h; exact h.lt
/-- What 'of' leaves. -/
def OfP (l : Row) (w : World) (e : Ending) (w' : World) : Prop :=
  Below w.heap.size w w' ∧ ((rightB l = true ∧ ∃ b, e = .returned (.tuple #[.map (some b), .bool true]) ∧ w.heap.size ≤ b ∧ MapM w' b l) ∨ (rightB l = false ∧ e = .returned (.tuple #[.map none, .bool false])))
abbrev I64s (l : Row) : Prop := ∀ p ∈ l, I64 p.1 ∧ I64 p.2
set_option maxRecDepth 100000 in
set_option maxHeartbeats 1000000 in
theorem bag_of (A : Option Addr) (n c : Nat) (l : Row) (w : World) (hA : Hid (Sl w (.slice A n c) n 2 (pairCells l))) (hi : Hid (I64s l)) (hmax : n < 1000000000000) :
    Calls Tryz.prog 63 #[.slice A n c] w (OfP l w) := by
  have hn := hA.out.bound
  have hl := Lib.hid (show l.length = n by have := hA.out.len; rw [pairCells_len] at this; omega)
  have cR := Lib.hid (bag_Right A n c l w hA)
  have hmm := @run_makeMap Tryz.prog
  obtain ⟨R, hR⟩ : ∃ R, R = rightB l := ⟨_, rfl⟩
  rw [← hR] at cR
  have HR := Lib.hid hR
  clear hR
  cases R with
  | false =>
    go_enter Tryz.func63, Tryz.ntmps63
    go_wp2_with fail
    refine cR.out.mono ?_
    rintro e w1 ⟨rfl, hb1⟩
    go_wp2_with fail
    go_ret2
    exact ⟨hb1, .inr ⟨HR.out.symm, rfl⟩⟩
  | true =>
    have hok := (rightB_iff l).1 HR.out.symm
    have hsrt := Lib.hid hok.1
    clear hok
    go_enter Tryz.func63, Tryz.ntmps63
    go_wp2_with fail
    refine cR.out.mono ?_
    rintro e w1 ⟨rfl, hb1⟩
    have HB1 := Lib.hid hb1
    clear hb1
    go_wp2_with fail
    go_loopw [13] (fun v wr => ∃ (k : Nat), k ≤ n ∧ v = .int .i64 (k : Int) ∧ Hid (MapM wr w1.heap.size (l.take k)) ∧ Hid (Below w1.heap.size w1 wr)) (fun v _ => n - (intOf v).toNat)
    case atStart =>
      refine ⟨0, by omega, rfl, ⟨.map [], World.ownsMap_made _ _ _ _, fun kl h => ?_, fun p hp => ?_⟩, (Below.refl _ w1).alloc (Nat.le_refl _) _⟩
      · cases h
      · cases hp
    case round =>
      obtain ⟨k, hk, rfl, hM, hB⟩ := hrel
      by_cases hlt : k < n
      · obtain ⟨b1, o1, rfl, c1, c2⟩ := hA.out.pair_at hlt
        replace c1 := cell_kept hB.out (cell_kept HB1.out c1)
        replace c2 := cell_kept hB.out (cell_kept HB1.out c2)
        obtain ⟨x, hx⟩ : ∃ x, x = l.getD k (0, 0) := ⟨_, rfl⟩
        rw [← hx] at c1 c2
        have hts := Lib.hid (take_snoc (M := l) (k := k) (by rw [hl.out]; exact hlt))
        rw [← hx] at hts
        have hnew := Lib.hid (hsrt.out.new (k := k) (by rw [hl.out]; exact hlt))
        rw [← hx] at hnew
        have hxi : I64 x.1 ∧ I64 x.2 := hi.out x (by rw [hx, List.getD, List.getElem?_eq_getElem (by rw [hl.out]; exact hlt)]; exact List.getElem_mem _)
        clear hx
        obtain ⟨x1, x2⟩ := x
        simp only at c1 c2 hts hnew hxi
        obtain ⟨hx1, hx2⟩ := hxi
        have HX1 := Lib.hid hx1
        have HX2 := Lib.hid hx2
        clear hx1 hx2
        have hlt2 : (k : Int) < (n : Int) := by omega
        have hk0 : (0 : Int) ≤ (k : Int) := by omega
        have hbx := Lib.hid (hB.out.alloc hB.out.size (.cells #[.int .i64 x1, .int .i64 x2] 45))
        obtain ⟨D, hown, hD⟩ := hM.out
        have HOWN := Lib.hid (World.ownsMap.alloc hown (.cells #[.int .i64 x1, .int .i64 x2] 45))
        have HM2 := Lib.hid (hD.put (hown.isMap) (p := (x1, x2)) (fun q hq => by have := hnew.out q hq; omega))
        have hln : (l.take k).length = k := by rw [List.length_take, hl.out]; omega
        rw [hln] at HOWN
        clear hown hD hM hln
        have hsz1 := hB.out.size
        go_wp2_with (first
          | (at_mapUpdate; refine wpList_mapUpdate_own _ rfl _ _ _ 76 rfl 3 3 keyI Tryz.underlying76 _ w1.heap.size _ _ rfl HOWN.out (by unfold maxLen; omega) _ _ _ rfl rfl (keyOfI HX1.out) _ [] (plainElem_int Tryz.underlying3 (wf64 HX2.out)) ?_; intro w2 hout2 hg2; go_frame)
          | go_in)
        have HO2 := Lib.hid hout2
        have HG2 := Lib.hid hg2
        clear hout2 hg2 c1 c2
        go_roundw
        case rel =>
          refine ⟨k + 1, by omega, by go_num, ⟨D.put (.int .i64 x1) (.lit (.int .i64 x2)), ?_, ?_⟩, ?_⟩
          · rw [hts.out, List.length_append, List.length_take, hl.out, Nat.min_eq_left (by omega)]
            exact HO2.out
          · rw [hts.out]; exact HM2.out
          · exact hbx.out.grown HG2.out (by simp; omega) (fun q hq => by injection hq with hq; omega)
        case measure => simp [intOf]; omega
      · go_wp2
        go_ret2
        have e1 : l.take k = l := List.take_of_length_le (by rw [hl.out]; omega)
        have := hM.out
        rw [e1] at this
        exact ⟨HB1.out.trans (hB.out.mono HB1.out.size), .inl ⟨HR.out.symm, _, rfl, HB1.out.size, this⟩⟩
/-- What 'both' leaves. -/
def BothP (a b : Row) (w : World) (e : Ending) (w' : World) : Prop :=
  Below w.heap.size w w' ∧ ((rightB a = true ∧ rightB b = true ∧ ∃ x y, e = .returned (.tuple #[.map (some x), .map (some y), .bool true]) ∧ w.heap.size ≤ x ∧ x < y ∧ MapM w' x a ∧ MapM w' y b) ∨
    ((rightB a && rightB b) = false ∧ ∃ x y, e = .returned (.tuple #[.map x, .map y, .bool false])))
set_option maxRecDepth 100000 in
set_option maxHeartbeats 1000000 in
theorem bag_both (A : Option Addr) (n c : Nat) (l : Row) (A2 : Option Addr) (n2 c2 : Nat) (l2 : Row) (w : World) (hA : Hid (Sl w (.slice A n c) n 2 (pairCells l))) (hi : Hid (I64s l)) (hmax : n < 1000000000000)
    (hA2 : Hid (Sl w (.slice A2 n2 c2) n2 2 (pairCells l2))) (hi2 : Hid (I64s l2)) (hmax2 : n2 < 1000000000000) :
    Calls Tryz.prog 49 #[.slice A n c, .slice A2 n2 c2] w (BothP l l2 w) := by
  have cO := Lib.hid (bag_of A n c l w hA hi hmax)
  go_enter Tryz.func49, Tryz.ntmps49
  go_wp2_with fail
  refine cO.out.mono ?_
  rintro e w1 ⟨hb1, hP⟩
  have HB1 := Lib.hid hb1
  have cO2 := Lib.hid (bag_of A2 n2 c2 l2 w1 (hA2.out.below hb1) hi2 hmax2)
  clear hb1
  rcases hP with ⟨hr, x, rfl, hx, hM⟩ | ⟨hr, rfl⟩
  · have HR := Lib.hid hr
    have HX := Lib.hid hx
    have HM := Lib.hid hM
    clear hr hx hM
    go_wp2_with fail
    refine cO2.out.mono ?_
    rintro e w2 ⟨hb2, hP2⟩
    have HB2 := Lib.hid hb2
    clear hb2
    rcases hP2 with ⟨hr2, y, rfl, hy, hM2⟩ | ⟨hr2, rfl⟩
    · have HR2 := Lib.hid hr2
      have HY := Lib.hid hy
      have HM2 := Lib.hid hM2
      clear hr2 hy hM2
      go_wp2_with fail
      go_ret3
      exact ⟨below_then HB1.out HB2.out, .inl ⟨HR.out, HR2.out, _, _, rfl, HX.out, by have := HM.out.lt; have := HY.out; omega, HM.out.below HB2.out HM.out.lt, HM2.out⟩⟩
    · have HR2 := Lib.hid hr2
      clear hr2
      go_wp2_with fail
      go_ret3
      exact ⟨below_then HB1.out HB2.out, .inr ⟨by rw [HR2.out, Bool.and_false], _, _, rfl⟩⟩
  · have HR := Lib.hid hr
    clear hr
    go_wp2_with fail
    refine cO2.out.mono ?_
    rintro e w2 ⟨hb2, hP2⟩
    have HB2 := Lib.hid hb2
    clear hb2
    rcases hP2 with ⟨hr2, y, rfl, hy, hM2⟩ | ⟨hr2, rfl⟩
    · clear hr2 hy hM2
      go_wp2_with fail
      go_ret3
      exact ⟨below_then HB1.out HB2.out, .inr ⟨by rw [HR.out, Bool.false_and], _, _, rfl⟩⟩
    · clear hr2
      go_wp2_with fail
      go_ret3
      exact ⟨below_then HB1.out HB2.out, .inr ⟨by rw [HR.out, Bool.false_and], _, _, rfl⟩⟩
end Go.Proofs.YtajcleobmgjhoaaGreatDoor
