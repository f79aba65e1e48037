/- Contracts of package bag: within, Within, Sum. -/
import Derived.Test.YtajcleobmgjhoaaGreatDoorBagE
namespace Go.Proofs.YtajcleobmgjhoaaGreatDoor
open Go.RowKit
/-- Block b is a map of so many entries at most that counts g. -/
def MapG (w : World) (b n : Nat) (g : Int → Int) : Prop := ∃ D, OwnI w b n D ∧ GetD D g
theorem MapM.get {w : World} {b : Nat} {M : Row} (h : MapM w b M) (hs : Srt M) : MapG w b M.length (getM M) := by
  obtain ⟨D, h1, h2⟩ := h
  exact ⟨D, h1, h2.get hs⟩
theorem MapG.lt {w : World} {b n : Nat} {g : Int → Int} (h : MapG w b n g) : b < w.heap.size := by
  obtain ⟨D, h, _⟩ := h; exact h.lt
theorem MapG.look {w : World} {b n : Nat} {g : Int → Int} (h : MapG w b n g) {x : Int} (hx : I64 x) :
    (Instr.lookup 76 (.map (some b)) (.int .i64 x) false).run Tryz.prog w = .ok (.int .i64 (g x)) w := by
  obtain ⟨D, h, h2⟩ := h; exact (look_g h h2 hx).1
theorem MapG.below {w w' : World} {B b n : Nat} {g : Int → Int} (h : MapG w b n g) (hb : Below B w w') (hB : b < B) : MapG w' b n g := by
  obtain ⟨D, ⟨es, cl, h1, h2⟩, h3⟩ := h
  exact ⟨D, ⟨es, cl, by rw [hb.block b hB]; exact h1, h2⟩, h3⟩
theorem MapG.kept {w w' : World} {row : Option Nat} {b n : Nat} {g : Int → Int} (h : MapG w b n g) (hg : w.grownBy w' row) (hne : some b ≠ row) : MapG w' b n g := by
  obtain ⟨D, h, h3⟩ := h
  exact ⟨D, World.ownsMap.kept h hg hne, h3⟩
/-- What the step of a range over a map of rows tells. -/
theorem MapD.came {D : DataW Unit} {l : Row} (h : MapD D l) {y v : Int} (hat : ∀ zd, D.atKey (.int .i64 y) zd = .lit (.int .i64 v)) : (y, v) ∈ l := by
  obtain ⟨p, hp, e⟩ := h.1 _ (Maps.has_true_of_atKey hat)
  injection e with _ e
  have e2 := h.2 p hp (.lit (.int .i64 0))
  rw [← e, hat] at e2
  injection e2 with e2; injection e2 with _ e2
  have : p = (y, v) := Prod.ext e.symm e2.symm
  rwa [← this]
set_option maxRecDepth 100000 in
set_option maxHeartbeats 1000000 in
theorem bag_within (x y m : Nat) (l : Row) (g : Int → Int) (w : World) (hM : Hid (MapM w x l)) (hG : Hid (MapG w y m g)) (hi : Hid (I64s l)) :
    Calls Tryz.prog 50 #[.map (some x), .map (some y)] w fun e w' => e = .returned (.bool (inM l g)) ∧ Below w.heap.size w w' := by
  obtain ⟨D, h1, h2⟩ := hM.out
  have HO := Lib.hid h1
  have HD := Lib.hid h2
  have hbx := h1.lt
  have hby := hG.out.lt
  clear h1 h2
  obtain ⟨R, hR⟩ : ∃ R, R = inM l g := ⟨_, rfl⟩
  rw [← hR]
  have HR := Lib.hid hR
  clear hR
  go_enter Tryz.func50, Tryz.ntmps50
  go_wp2_with (first
    | (at_range; refine wpList_range_own _ rfl _ 76 rfl 3 3 keyI Tryz.underlying76 _ x _ D rfl HO.out ?_; intro w0 hrg0 hg0 hs0)
    | go_in)
  go_frame
  have HG0 := Lib.hid hg0
  go_loopw [5] (fun _ wr => ∃ (left : Lit → Bool) (cnt : Nat), Hid (wr.ranges Tryz.prog 3 (plainElem Tryz.prog 3) x w.heap.size l.length D left cnt) ∧ Hid (∀ p ∈ l, left (.int .i64 p.1) = false → p.2 ≤ g p.1) ∧ Hid (Below w.heap.size w wr)) (fun _ wr => wr.rangeLeft x w.heap.size)
  case atStart =>
    exact ⟨_, _, hrg0, fun p hp h => (by rw [Maps.has_true_of_atKey (HD.out.2 p hp)] at h; cases h), (Below.refl _ w).grown HG0.out (Nat.le_refl _) (fun q hq => by cases hq)⟩
  case round =>
    obtain ⟨left, cnt, hrg, hz, hB⟩ := hrel
    clear hg0 hs0 hrg0
    go_wp2_with (first
      | (at_next; refine wpList_next_ranges_ii _ rfl _ rfl 3 3 .i64 .i64 keyI Tryz.underlying3 Tryz.underlying3 x w.heap.size l.length _ _ _ rfl hrg.out ?_ ?_)
      | go_in)
    · intro hc0 hl0
      have HL0 := Lib.hid hl0
      clear hl0 hc0
      go_wp2
      go_ret
      refine ⟨ret_b ?_, hB.out⟩
      rw [HR.out, inM_iff.2 fun p hp => hz.out p hp (HL0.out _)]
    · intro k v wq cnt1 hwy hwv hly hat hrg1 hlt hg1 hs1 hen
      have hp := Lib.hid (HD.out.came hat)
      have hB1 := hB.out.grown hg1 hB.out.size (fun q hq => by injection hq with hq; omega)
      have lk := (hG.out.below hB1 hby).look (hi.out _ hp.out).1
      simp only at lk
      have HRG1 := Lib.hid hrg1
      have HB1 := Lib.hid hB1
      have HLT := Lib.hid hlt
      obtain ⟨u, hu⟩ : ∃ u, u = g k := ⟨_, rfl⟩
      rw [← hu] at lk
      have HU := Lib.hid hu
      clear hat hly hwy hwv hrg1 hg1 hlt hu hB1
      by_cases hvu : u < v
      · go_wp2
        go_ret
        refine ⟨ret_b ?_, HB1.out⟩
        rw [HR.out]
        symm
        rw [Bool.eq_false_iff]
        intro h
        have := inM_iff.1 h _ hp.out
        simp only at this
        have := HU.out
        omega
      · go_wp2
        go_roundw
        case rel =>
          refine ⟨_, cnt1, HRG1.out, fun p hp2 h => ?_, HB1.out⟩
          by_cases e : left (.int .i64 p.1) = false
          · exact hz.out p hp2 e
          · have e1 : left (.int .i64 p.1) = true := by simpa using e
            simp [e1, Lit.sameKey] at h
            obtain ⟨D', h3, h4⟩ := hM.out
            have h5 : p.2 = v := by
              have a1 := HD.out.2 p hp2 (.lit (.int .i64 0))
              have a2 := HD.out.2 _ hp.out (.lit (.int .i64 0))
              rw [h] at a1
              simp only at a2
              rw [a1] at a2
              injection a2 with a2; injection a2
            have := HU.out
            rw [h, h5]
            omega
        case measure => rw [HRG1.out.left_eq, hrg.out.left_eq]; exact HLT.out
def withR (a b : Row) : Bool := (rightB a && rightB b) && inM a (getM b)
set_option maxRecDepth 100000 in
set_option maxHeartbeats 1000000 in
theorem bag_Within (A : Option Addr) (n c : Nat) (l : Row) (A2 : Option Addr) (n2 c2 : Nat) (l2 : Row) (w : World) (hA : Hid (Sl w (.slice A n c) n 2 (pairCells l))) (hi : Hid (I64s l)) (hmax : n < 1000000000000)
    (hA2 : Hid (Sl w (.slice A2 n2 c2) n2 2 (pairCells l2))) (hi2 : Hid (I64s l2)) (hmax2 : n2 < 1000000000000) :
    Calls Tryz.prog 28 #[.slice A n c, .slice A2 n2 c2] w fun e w' => e = .returned (.bool (withR l l2)) ∧ Below w.heap.size w w' := by
  have cB := Lib.hid (bag_both A n c l A2 n2 c2 l2 w hA hi hmax hA2 hi2 hmax2)
  go_enter Tryz.func28, Tryz.ntmps28
  go_wp2_with fail
  refine cB.out.mono ?_
  rintro e w1 ⟨hb1, ⟨hr1, hr2, x, y, rfl, hx, hxy, hM1, hM2⟩ | ⟨hr, x, y, rfl⟩⟩
  · have HB1 := Lib.hid hb1
    have HR1 := Lib.hid hr1
    have HR2 := Lib.hid hr2
    have cW := Lib.hid (bag_within x y _ l (getM l2) w1 hM1 (hM2.get ((rightB_iff l2).1 hr2).1) hi)
    obtain ⟨R, hR⟩ : ∃ R, R = inM l (getM l2) := ⟨_, rfl⟩
    rw [← hR] at cW
    have HR := Lib.hid hR
    clear hb1 hr1 hr2 hx hxy hM1 hM2 hR
    go_wp2_with fail
    refine cW.out.mono ?_
    rintro e w2 ⟨rfl, hb2⟩
    have HB2 := Lib.hid hb2
    clear hb2
    go_wp2
    go_ret
    refine ⟨ret_b ?_, below_then HB1.out HB2.out⟩
    unfold withR
    rw [HR1.out, HR2.out, HR.out]
    rfl
  · have HB1 := Lib.hid hb1
    have HR := Lib.hid hr
    clear hb1 hr
    go_wp2
    go_ret
    refine ⟨ret_b ?_, HB1.out⟩
    unfold withR
    rw [HR.out]
    rfl
end Go.Proofs.YtajcleobmgjhoaaGreatDoor
