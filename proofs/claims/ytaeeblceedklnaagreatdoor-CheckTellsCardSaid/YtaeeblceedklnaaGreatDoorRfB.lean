/- The document's answer: sizes, Right, Size. Printed by gen_rfB.py. -/
import Derived.Test.YtaeeblceedklnaaGreatDoorRfA
import Derived.Test.YtaeeblceedklnaaGreatDoorCkL
import Derived.Deep.CutBlock
namespace Go.Proofs.YtaeeblceedklnaaGreatDoor
open Go.RowKit
/-- The names ahead. -/
def hadK (L : List Col) (k : Nat) : List (List UInt8) := ((L.take k).map fun c => c.name.data.toList).reverse
theorem hadK_succ {L : List Col} {k : Nat} (h : k < L.length) : hadK L (k + 1) = (L.getD k default).name.data.toList :: hadK L k := by
  unfold hadK
  rw [List.take_succ_eq_append_getElem h, List.map_append, List.reverse_append]
  have e : L.getD k default = L[k] := by simp [List.getD, h]
  rw [e]; rfl
theorem bytes_eq {x y : ByteArray} (h : x.data.toList = y.data.toList) : x = y := by
  have e3 : x.data = y.data := Array.toList_inj.1 h
  cases x; cases y; simp only at e3; rw [e3]
theorem hadK_no {L : List Col} {k : Nat} (hk : k ≤ L.length) {s : ByteArray} : (hadK L k).contains s.data.toList = false ↔ ∀ a, a < k → (L.getD a default).name ≠ s := by
  induction k with
  | zero => exact ⟨fun _ a ha => absurd ha (Nat.not_lt_zero _), fun _ => rfl⟩
  | succ k ih =>
    rw [hadK_succ (by omega), List.contains_cons, Bool.or_eq_false_iff, ih (by omega)]
    constructor
    · rintro ⟨h1, h2⟩ a ha
      by_cases e : a = k
      · rw [e]; intro e2; rw [e2] at h1; simp at h1
      · exact h2 a (by omega)
    · intro h
      refine ⟨?_, fun a ha => h a (by omega)⟩
      have h1 : s.data.toList ≠ (L.getD k default).name.data.toList := fun e => h k (by omega) (bytes_eq e).symm
      simpa using h1
def RSizesP (w : World) (L : List Col) (e : Ending) (w' : World) : Prop :=
  Below w.heap.size w w' ∧ ((sizesF L = none ∧ e = .returned (.slice none 0 0)) ∨
    ∃ ss A c, sizesF L = some ss ∧ ss.length = L.length ∧ Few1024 ss ∧ e = .returned (.slice A L.length c) ∧ w'.ownsRow w.heap.size 3 1 (.slice A L.length c) L.length (intCells ss))
/-- The loop of sizes. -/
structure RSz (w wr : World) (k : Nat) (v : Value) (out : List Int) : Prop where
  own : wr.ownsRow w.heap.size 3 1 v k (intCells out)
  few : Few1024 out
  bel : Below w.heap.size w wr
/-- Two numbers that are one where either is a size. -/
def Near (z x : Int) : Prop := (1 ≤ z ∧ z ≤ 1024 ∨ 1 ≤ x ∧ x ≤ 1024) → z = x
theorem own_fewer {w : World} {base : Nat} {e : TypeId} {n : Nat} {v : Value} {xs : List Value} (h : w.ownsRow base e 1 v n xs) {base' : Nat} (hb : base' ≤ base) : w.ownsRow base' e 1 v n xs := own_base h hb
set_option maxRecDepth 100000 in
set_option maxHeartbeats 8000000 in
theorem rf_sizes (A : Option Addr) (n c : Nat) (L : List Col) (w : World) (hC : Hid (Cols w A n c L)) :
    Calls Tryz.prog 103 #[.slice A n c] w (RSizesP w L) := by
  have hl := Lib.hid hC.out.2.2.1
  have hn9 : n ≤ 9223372036854775807 := Nat.le_trans hC.out.1 hC.out.2.1
  by_cases h32 : 32 < n
  · have hz : Hid (sizesF L = none) := by
      show sizesF L = none
      unfold sizesF; rw [if_pos (by rw [hl.out]; exact h32)]
    have d1 : (32 : Int) < (n : Int) := by omega
    go_enter Tryz.func103, Tryz.ntmps103
    go_wp2
    go_ret
    exact ⟨Below.refl _ _, .inl ⟨hz.out, rfl⟩⟩
  · have d1 : ¬ (32 : Int) < (n : Int) := by omega
    have hn32 : n ≤ 32 := by omega
    obtain ⟨R, hR⟩ : ∃ R, R = sizesG [] [] L := ⟨_, rfl⟩
    have hz : Hid (sizesF L = R) := by
      show sizesF L = R
      unfold sizesF; rw [if_neg (by rw [hl.out]; exact h32), hR]
    have HR := Lib.hid hR
    clear hR h32
    go_enter Tryz.func103, Tryz.ntmps103
    go_wp2
    go_loopw [3, 4] (fun v3 v wr => ∃ (k : Nat) (out : List Int) (B : Option Addr) (d : Nat), k ≤ n ∧ v = .int .i64 (k : Int) ∧ v3 = .slice B k d ∧ Hid (sizesG (hadK L k) out (L.drop k) = R) ∧ Hid (RSz w wr k (.slice B k d) out)) (fun _ v _ => n - (intOf v).toNat)
    case atStart => exact ⟨0, [], none, 0, by omega, rfl, rfl, Lib.hid (show sizesG (hadK L 0) [] (L.drop 0) = R from HR.out.symm), Lib.hid ⟨World.ownsRow_nil _ _ _ _, (fun x hx => by cases hx), Below.refl _ _⟩⟩
    case round =>
      obtain ⟨k, out, B, d, hk, rfl, rfl, hN, hS⟩ := hrel
      by_cases hlt : k < n
      · obtain ⟨b, off, rfl, hat⟩ := hC.out.2.2.2 (by omega)
        have HAT := Lib.hid hat
        obtain ⟨N, nn, nd, hCA⟩ := hat k hlt
        have hkl : k < L.length := by rw [hl.out]; exact hlt
        have hst := hN.out
        rw [drop_col hkl] at hst
        have hsu := hadK_succ hkl
        obtain ⟨q, hcol⟩ : ∃ col, col = L.getD k default := ⟨_, rfl⟩
        rw [← hcol] at hst hCA hsu
        have HQ := Lib.hid hcol
        have hcw := hCA.below hS.out.bel
        have HOK := Lib.hid hCA.ok
        have HNL := Lib.hid hCA.len
        obtain ⟨c0, c1, c2, c3, c4, c5, c6, _, _⟩ := hcw
        have hol : out.length = k := by have := hS.out.own.1; rw [intCells_len] at this; omega
        have HOL := Lib.hid hol
        obtain ⟨x, hx⟩ : ∃ x, x = sizeF q out := ⟨_, rfl⟩
        have HX := Lib.hid hx
        have HNO := Lib.hid (show nameOk q.name.data.toList = false ∨ (hadK L k).contains q.name.data.toList = true ∨ x < 1 ∨ 1024 < x → sizesF L = none from fun h => by
          rw [hx] at h
          rw [hz.out, ← hst, sizesG_no h])
        have HYES := Lib.hid (show nameOk q.name.data.toList = true → (hadK L k).contains q.name.data.toList = false → 1 ≤ x → x ≤ 1024 → sizesG (hadK L (k + 1)) (out ++ [x]) (L.drop (k + 1)) = R from fun h1 h2 h3 h4 => by
          rw [← hst, sizesG_ok h1 h2 (by rw [← hx]; exact h3) (by rw [← hx]; exact h4), ← hx, hsu])
        have hlt2 : (k : Int) < (n : Int) := by omega
        have hk0 : (0 : Int) ≤ (k : Int) := by omega
        have HCA := Lib.hid (show ColAt (wr.alloc (.cells #[.string q.name, .int .i64 q.kind, .int .i64 q.lo, .int .i64 q.hi, .slice N nn nd, .int .i64 q.first, .int .i64 q.then_] 62)) wr.heap.size 0 N nn nd q from
          ⟨cell_new wr _ _ 0 _ rfl, cell_new wr _ _ 1 _ rfl, cell_new wr _ _ 2 _ rfl, cell_new wr _ _ 3 _ rfl, cell_new wr _ _ 4 _ rfl, cell_new wr _ _ 5 _ rfl, cell_new wr _ _ 6 _ rfl, (hCA.names.below hS.out.bel).below (alr wr _), hCA.ok⟩)
        have HBW := Lib.hid (show Below wr.heap.size wr (wr.alloc (.cells #[.string q.name, .int .i64 q.kind, .int .i64 q.lo, .int .i64 q.hi, .slice N nn nd, .int .i64 q.first, .int .i64 q.then_] 62)) from alr wr _)
        obtain ⟨w2, hw2⟩ : ∃ y, y = wr.alloc (.cells #[.string q.name, .int .i64 q.kind, .int .i64 q.lo, .int .i64 q.hi, .slice N nn nd, .int .i64 q.first, .int .i64 q.then_] 62) := ⟨_, rfl⟩
        obtain ⟨g2, hg2⟩ : ∃ y, y = wr.heap.size := ⟨_, rfl⟩
        rw [← hw2, ← hg2] at HCA
        rw [← hw2] at HBW
        have HW2 := Lib.hid hw2.symm
        have HG2 := Lib.hid hg2.symm
        have HB2 := Lib.hid (show Below w.heap.size w w2 from below_then hS.out.bel HBW.out)
        have OW2 := Lib.hid (own_below hS.out.own HBW.out)
        have cN := fun W => rf_Name q.name W
        obtain ⟨y0, hy0⟩ : ∃ y, y = nameOk q.name.data.toList := ⟨_, rfl⟩
        rw [← hy0] at cN
        have CN := Lib.hid cN
        have HY0 := Lib.hid hy0
        clear hat hCA hkl hst hsu hcol hol hx hw2 hg2 cN hy0
        go_upto_region 8 with fail
        rw [HW2.out, HG2.out]
        clear c0 c1 c2 c3 c4 c5 c6
        have q0 := HCA.out.c0
        go_wp2_with (go_at_call 101; refine (CN.out _).mono ?_; rintro e w' ⟨rfl, rfl⟩)
        clear q0
        go_loopw [6, 7] (fun v6 v7 wx => ∃ (j u : Nat) (y : Bool), j ≤ k ∧ v7 = .int .i64 (j : Int) ∧ v6 = .bool y ∧ wx = w2.drewN u ∧ Hid (y = true ↔ (nameOk q.name.data.toList = true ∧ ∀ a, a < j → (L.getD a default).name ≠ q.name))) (fun _ v7 _ => k - (intOf v7).toNat)
        case atStart => exact ⟨0, 0, y0, by omega, rfl, rfl, rfl, Lib.hid ⟨fun h => ⟨by rw [← HY0.out]; exact h, fun a ha => absurd ha (Nat.not_lt_zero _)⟩, fun h => by rw [HY0.out]; exact h.1⟩⟩
        case round =>
          obtain ⟨j, u, y, hj, rfl, rfl, rfl, hy⟩ := hrel
          by_cases hjt : j < k
          · obtain ⟨N2, nn2, nd2, hC2⟩ := HAT.out j (by omega)
            have q1 := cell_kept HB2.out hC2.c0
            have q0 := HCA.out.c0
            obtain ⟨z, hz2⟩ : ∃ z, z = (L.getD j default).name := ⟨_, rfl⟩
            rw [← hz2] at q1
            have HZ := Lib.hid hz2
            have j1 : (j : Int) < (k : Int) := by omega
            have j2 : (j : Int) < (n : Int) := by omega
            have j0 : (0 : Int) ≤ (j : Int) := by omega
            have HRR := Lib.hid (show ∀ v : Bool, v = (y && !decide (z = q.name)) → (v = true ↔ (nameOk q.name.data.toList = true ∧ ∀ a, a < j + 1 → (L.getD a default).name ≠ q.name)) by
              intro v hv
              rw [hv, Bool.and_eq_true, hy.out, HZ.out]
              constructor
              · rintro ⟨⟨g1, g2⟩, g3⟩
                refine ⟨g1, fun a ha => ?_⟩
                by_cases e : a = j
                · rw [e]; simpa using g3
                · exact g2 a (by omega)
              · rintro ⟨g1, g2⟩
                exact ⟨⟨g1, fun a ha => g2 a (by omega)⟩, by simpa using g2 j (by omega)⟩)
            clear hz2 hC2 hy
            cases y with
            | false =>
              go_wp2
              go_quiet (fail)
              go_wp2
              go_roundw
              case rel => exact ⟨j + 1, _, false, by omega, by go_num, rfl, rfl, Lib.hid (HRR.out _ rfl)⟩
              case measure => simp [intOf]; omega
            | true =>
              rcases hzs : (z.toList == q.name.toList) with _ | _
              all_goals
                have HZS := Lib.hid hzs
                go_wp2
                go_quiet (fail)
                go_wp2
                go_roundw
                case rel => exact ⟨j + 1, _, _, by omega, by go_num, rfl, rfl, Lib.hid (HRR.out _ (by rw [← same_beq, HZS.out]; rfl))⟩
                case measure => simp [intOf]; omega
          · have ej : j = k := by omega
            subst ej
            have HG := Lib.hid (show y = true ↔ (nameOk q.name.data.toList = true ∧ (hadK L j).contains q.name.data.toList = false) by
              rw [hy.out, hadK_no (by rw [hl.out]; omega)])
            have HC3 := Lib.hid (show ColAt (w2.drewN u) g2 0 N nn nd q from HCA.out.below (below_drewN' (Below.refl _ _) u))
            have HB3 := Lib.hid (show Below w.heap.size w (w2.drewN u) from below_drewN' HB2.out u)
            have OW3 := Lib.hid (own_drewN OW2.out u)
            obtain ⟨w3, hw3⟩ : ∃ y, y = w2.drewN u := ⟨_, rfl⟩
            rw [← hw3] at HC3 HB3 OW3
            have HW3 := Lib.hid hw3.symm
            clear hy hw3 hjt hj
            go_upto_region 13 with fail
            rw [HW3.out]
            have q1 : w3.cell? ⟨g2, 1, none⟩ = some (.int .i64 q.kind) := HC3.out.c1
            go_upto_block 4 with fail
            clear q1
            go_cut [8] (fun s8 wx => ∃ z, s8 = .int .i64 z ∧ Hid (Near z x) ∧ Hid (Below w3.heap.size w3 wx))
            case first =>
              obtain ⟨i1, i2, i3, i4, i5⟩ := HOK.out
              obtain ⟨hnl, hnn⟩ := HNL.out
              have HNL2 := Lib.hid hnl
              clear hnl
              have q2 : w3.cell? ⟨g2, 2, none⟩ = some (.int .i64 q.lo) := HC3.out.c2
              have q3 : w3.cell? ⟨g2, 3, none⟩ = some (.int .i64 q.hi) := HC3.out.c3
              have q4 : w3.cell? ⟨g2, 4, none⟩ = some (.slice N nn nd) := HC3.out.c4
              have q5 : w3.cell? ⟨g2, 5, none⟩ = some (.int .i64 q.first) := HC3.out.c5
              have q6 : w3.cell? ⟨g2, 6, none⟩ = some (.int .i64 q.then_) := HC3.out.c6
              have qn := HC3.out.names
              have QN := Lib.hid qn
              have hxx := HX.out
              unfold sizeF at hxx
              obtain ⟨nm, kd, lo, hi, ns, fi, th⟩ := q
              simp only at *
              unfold I64 at i1 i2 i3 i4 i5
              clear qn
              by_cases k1 : kd = 1
              · subst k1
                rw [if_pos rfl] at hxx
                have HXX := Lib.hid hxx
                clear hxx
                by_cases g1 : lo ≤ hi
                · by_cases g2' : 0 ≤ lo
                  · have e1 : IntKind.i64.wrap (hi - lo) = hi - lo := IntWalk.i64_in _ (by omega)
                    have HE := Lib.hid (show min (hi - lo) 1024 + 1 = x by rw [HXX.out]; unfold spanF; rw [if_neg (by omega)])
                    have e2 : IntKind.i64.wrap (min (hi - lo) 1024 + 1) = min (hi - lo) 1024 + 1 := IntWalk.i64_in _ (by omega)
                    go_wp2
                    go_meet
                    exact ⟨_, rfl, Lib.hid (fun _ => by first | exact HE.out | (rw [← HE.out])), Lib.hid (Below.refl _ _)⟩
                  · have e0 : IntKind.i64.wrap (lo + 1024) = lo + 1024 := IntWalk.i64_in _ (by omega)
                    by_cases g3 : hi < lo + 1024
                    · have e1 : IntKind.i64.wrap (hi - lo) = hi - lo := IntWalk.i64_in _ (by omega)
                      have HE := Lib.hid (show min (hi - lo) 1024 + 1 = x by rw [HXX.out]; unfold spanF; rw [if_neg (by omega)])
                      have e2 : IntKind.i64.wrap (min (hi - lo) 1024 + 1) = min (hi - lo) 1024 + 1 := IntWalk.i64_in _ (by omega)
                      go_wp2
                      go_meet
                      exact ⟨_, rfl, Lib.hid (fun _ => by first | exact HE.out | (rw [← HE.out])), Lib.hid (Below.refl _ _)⟩
                    · have HE := Lib.hid (show 1024 < x by rw [HXX.out]; unfold spanF; rw [if_neg (by omega)]; omega)
                      go_wp2
                      go_meet
                      exact ⟨0, rfl, Lib.hid (fun h => by have := HE.out; omega), Lib.hid (Below.refl _ _)⟩
                · have HE := Lib.hid (show 0 = x by rw [HXX.out]; unfold spanF; rw [if_pos (by omega)])
                  go_wp2
                  go_meet
                  exact ⟨0, rfl, Lib.hid (fun _ => HE.out), Lib.hid (Below.refl _ _)⟩
              · rw [if_neg k1] at hxx
                have b1 : (kd == 1) = false := by simpa using k1
                clear k1
                by_cases k2 : kd = 2
                · subst k2
                  rw [if_pos rfl] at hxx
                  have cNs := rf_names N nn nd ns w3 (Lib.hid QN.out)
                  rcases hns : namesF ns with _ | _
                  · rw [hns] at cNs hxx
                    have HXX := Lib.hid hxx
                    have CNs := Lib.hid cNs
                    clear hns hxx cNs
                    go_wp2_with (go_at_call 141; refine CNs.out.mono ?_; rintro e w' ⟨rfl, t, rfl⟩)
                    go_meet
                    exact ⟨0, rfl, Lib.hid (fun _ => HXX.out.symm), Lib.hid (below_drewN' (Below.refl _ _) _)⟩
                  · rw [hns, if_pos rfl, HNL2.out] at hxx
                    rw [hns] at cNs
                    have HXX := Lib.hid hxx
                    have CNs := Lib.hid cNs
                    clear hns hxx cNs
                    go_wp2_with (go_at_call 141; refine CNs.out.mono ?_; rintro e w' ⟨rfl, t, rfl⟩)
                    go_meet
                    exact ⟨_, rfl, Lib.hid (fun _ => HXX.out.symm), Lib.hid (below_drewN' (Below.refl _ _) _)⟩
                · rw [if_neg k2] at hxx
                  have b2 : (kd == 2) = false := by simpa using k2
                  clear k2
                  by_cases k3 : kd = 3
                  · subst k3
                    rw [if_pos rfl, HOL.out] at hxx
                    by_cases f1 : 0 ≤ fi
                    · by_cases f2 : fi < (j : Int)
                      · by_cases f3 : 0 ≤ th
                        · by_cases f4 : th < (j : Int)
                          · rw [if_pos (by omega)] at hxx
                            obtain ⟨p1, rfl⟩ : ∃ p1 : Nat, fi = p1 := ⟨fi.toNat, by omega⟩
                            obtain ⟨p2, rfl⟩ : ∃ p2 : Nat, th = p2 := ⟨th.toNat, by omega⟩
                            rw [Int.toNat_natCast, Int.toNat_natCast] at hxx
                            obtain ⟨bo, oo, rfl, u1⟩ := (Sl.of_own OW3.out).int_at' (k := p1) (by omega)
                            obtain ⟨bo2, oo2, e2, u2⟩ := (Sl.of_own OW3.out).int_at' (k := p2) (by omega)
                            injection e2 with e2
                            injection e2 with e3 e4
                            subst e3; subst e4
                            have m1 := hS.out.few.at_ (k := p1) (by rw [HOL.out]; omega)
                            have m2 := hS.out.few.at_ (k := p2) (by rw [HOL.out]; omega)
                            have m3 := mul_1024 m1 m2
                            obtain ⟨s1, hs1⟩ : ∃ s, s = out.getD p1 0 := ⟨_, rfl⟩
                            obtain ⟨s2, hs2⟩ : ∃ s, s = out.getD p2 0 := ⟨_, rfl⟩
                            rw [← hs1] at u1 m3 hxx
                            rw [← hs2] at u2 m3 hxx
                            have d4 : IntKind.i64.wrap (s1 * s2) = s1 * s2 := IntWalk.i64_in _ (by omega)
                            have HXX := Lib.hid hxx
                            clear hxx hs1 hs2 m1 m2 m3 i4 i5
                            go_wp2
                            go_quiet (fail)
                            go_wp2
                            go_meet
                            exact ⟨_, rfl, Lib.hid (fun _ => HXX.out.symm), Lib.hid (below_drewN' (Below.refl _ _) _)⟩
                          · rw [if_neg (by omega)] at hxx
                            have HXX := Lib.hid hxx
                            clear hxx
                            go_wp2
                            go_meet
                            exact ⟨0, rfl, Lib.hid (fun _ => HXX.out.symm), Lib.hid (Below.refl _ _)⟩
                        · rw [if_neg (by omega)] at hxx
                          have HXX := Lib.hid hxx
                          clear hxx
                          go_wp2
                          go_meet
                          exact ⟨0, rfl, Lib.hid (fun _ => HXX.out.symm), Lib.hid (Below.refl _ _)⟩
                      · rw [if_neg (by omega)] at hxx
                        have HXX := Lib.hid hxx
                        clear hxx
                        go_wp2
                        go_meet
                        exact ⟨0, rfl, Lib.hid (fun _ => HXX.out.symm), Lib.hid (Below.refl _ _)⟩
                    · rw [if_neg (by omega)] at hxx
                      have HXX := Lib.hid hxx
                      clear hxx
                      go_wp2
                      go_meet
                      exact ⟨0, rfl, Lib.hid (fun _ => HXX.out.symm), Lib.hid (Below.refl _ _)⟩
                  · rw [if_neg k3] at hxx
                    have b3 : (kd == 3) = false := by simpa using k3
                    have HXX := Lib.hid hxx
                    clear hxx k3
                    go_wp2
                    go_meet
                    exact ⟨0, rfl, Lib.hid (fun _ => HXX.out.symm), Lib.hid (Below.refl _ _)⟩
            case rest =>
              obtain ⟨z, rfl, hNear, hBc⟩ := hcut
              have HB4 := Lib.hid (below_then HB3.out hBc.out)
              have OW4 := Lib.hid (own_below OW3.out hBc.out)
              cases y with
              | false =>
                have HZ := Lib.hid (show sizesF L = none by
                  refine HNO.out ?_
                  rcases h1 : nameOk q.name.data.toList with _ | _
                  · exact .inl rfl
                  · right; left
                    rw [← Bool.not_eq_false]
                    intro h2
                    have := HG.out.2 ⟨h1, h2⟩
                    cases this)
                go_wp2
                go_ret
                exact ⟨HB4.out, .inl ⟨HZ.out, rfl⟩⟩
              | true =>
                have HG2' := Lib.hid (HG.out.1 rfl)
                by_cases z1 : z < 1
                · have HZ := Lib.hid (show sizesF L = none from HNO.out (by
                    right; right
                    by_cases h : 1 ≤ x ∧ x ≤ 1024
                    · have := hNear.out (.inr h); omega
                    · omega))
                  go_wp2
                  go_ret
                  exact ⟨HB4.out, .inl ⟨HZ.out, rfl⟩⟩
                · by_cases z2 : 1024 < z
                  · have HZ := Lib.hid (show sizesF L = none from HNO.out (by
                      right; right
                      by_cases h : 1 ≤ x ∧ x ≤ 1024
                      · have := hNear.out (.inr h); omega
                      · omega))
                    go_wp2
                    go_ret
                    exact ⟨HB4.out, .inl ⟨HZ.out, rfl⟩⟩
                  · have ezx : z = x := hNear.out (.inl ⟨by omega, by omega⟩)
                    subst ezx
                    have HST := Lib.hid (HYES.out HG2'.out.1 HG2'.out.2 (by omega) (by omega))
                    have HF := Lib.hid (hS.out.few.snoc (x := z) (by omega) (by omega))
                    have hone := Lib.hid (one_int z)
                    have hkd : j ≤ d ∧ d ≤ 9223372036854775807 := by
                      rcases OW4.out.2 with ⟨h1, h2⟩ | ⟨_, _, _, h1, _, _, h2, h3, _⟩
                      · injection h1 with _ _ h1; omega
                      · injection h1 with _ _ h1; unfold maxLen at h3; omega
                    obtain ⟨hkd, hd9⟩ := hkd
                    have hs4 := HB4.out.size
                    go_wp2_with (at_builtin; refine wpList_append_sl ints_ty1 rfl (.tmp 123) (.tmp 125) rfl w.heap.size rfl (by exact OW4.out.alloc _) rfl (by exact Sl.new _ _ [Value.int .i64 z] 1 1 rfl (by omega)) hone.out (by omega) (by omega) (by simp; omega) ?_; intro v4 w4 hown4 hg4 hat4; obtain ⟨A4, c4, rfl, _, _⟩ := (Sl.of_own hown4).form; have HB5 := Lib.hid ((HB4.out.alloc HB4.out.size (.cells #[.int .i64 z] 3)).grown hg4 (by simp; omega) (fun q hq => by have := (OW4.out.lt q hq).1; omega)); have OW5 := Lib.hid hown4; clear hown4 hg4 hat4)
                    go_roundw
                    case rel => exact ⟨j + 1, _, A4, c4, by omega, by go_num, rfl, HST, Lib.hid ⟨by rw [intCells_snoc]; exact OW5.out, HF.out, HB5.out⟩⟩
                    case measure => simp [intOf]; omega
      · have ek : k = n := by omega
        go_wp2
        go_ret
        have e1 : L.drop k = [] := by rw [List.drop_eq_nil_of_le]; rw [hl.out]; omega
        have h := hN.out
        rw [e1] at h
        have ho := hS.out.own
        have hol : out.length = k := by have := ho.1; rw [intCells_len] at this; omega
        have ek2 : k = L.length := by rw [hl.out]; exact ek
        subst ek2
        exact ⟨hS.out.bel, .inr ⟨out, B, d, by rw [hz.out, ← h]; rfl, hol, hS.out.few, rfl, ho⟩⟩
set_option maxRecDepth 100000 in
set_option maxHeartbeats 1000000 in
theorem rf_Right (A : Option Addr) (n c : Nat) (L : List Col) (w : World) (hC : Hid (Cols w A n c L)) :
    Calls Tryz.prog 97 #[.slice A n c] w fun e w' => e = .returned (.bool (sizesF L).isSome) ∧ Below w.heap.size w w' := by
  have hl := Lib.hid hC.out.2.2.1
  go_enter Tryz.func97, Tryz.ntmps97
  go_wp2_with fail
  refine (rf_sizes A n c L w hC).mono ?_
  rintro e w2 ⟨hb, ⟨hz, rfl⟩ | ⟨ss, B, d, hz, _, _, rfl, _⟩⟩
  · have HZ := Lib.hid hz
    have HB := Lib.hid hb
    have hn0 : n ≠ 0 := by
      intro h
      have h1 : L = [] := List.eq_nil_of_length_eq_zero (by rw [hl.out]; exact h)
      have h2 := HZ.out
      rw [h1] at h2
      cases h2
    have e0 : ((0 : Int) == (n : Int)) = false := by simpa using (fun h : (0 : Int) = (n : Int) => hn0 (by omega))
    clear hz hb hn0
    go_wp2
    go_ret
    exact ⟨by first | (rw [HZ.out]; rfl) | (rw [HZ.out]; simp; omega), HB.out⟩
  · have HZ := Lib.hid hz
    have HB := Lib.hid hb
    have hll := hl.out
    rw [hll]
    clear hz hb hll
    go_wp2
    go_ret
    exact ⟨by first | (rw [HZ.out]; rfl) | (rw [HZ.out]; simp), HB.out⟩
set_option maxRecDepth 100000 in
set_option maxHeartbeats 2000000 in
theorem rf_Size (A : Option Addr) (n c : Nat) (L : List Col) (k : Int) (w : World) (hC : Hid (Cols w A n c L)) :
    Calls Tryz.prog 54 #[.slice A n c, .int .i64 k] w fun e w' => e = .returned (.int .i64 (sizeAt L k)) ∧ Below w.heap.size w w' := by
  have hl := Lib.hid hC.out.2.2.1
  go_enter Tryz.func54, Tryz.ntmps54
  go_wp2_with fail
  refine (rf_sizes A n c L w hC).mono ?_
  rintro e w2 ⟨hb, ⟨hz, rfl⟩ | ⟨ss, B, d, hz, hsl, _, rfl, ho⟩⟩
  · have HZ := Lib.hid (sizeAt_bad (k := k) hl.out (.inl hz))
    have HB := Lib.hid hb
    clear hz hb
    by_cases k0 : k < 0
    · go_wp2
      go_ret
      exact ⟨by rw [HZ.out]; rfl, HB.out⟩
    · have k1 : (0 : Int) ≤ k := by omega
      go_wp2
      go_ret
      exact ⟨by rw [HZ.out]; rfl, HB.out⟩
  · have HZ := Lib.hid hz
    have HB := Lib.hid hb
    have HO := Lib.hid (Sl.of_own ho)
    have hll := hl.out
    rw [hll] at HO ⊢
    clear hz hb ho hsl hll
    by_cases k0 : k < 0
    · have HY := Lib.hid (sizeAt_bad (k := k) hl.out (.inr (.inl k0)))
      go_wp2
      go_ret
      exact ⟨by rw [HY.out]; rfl, HB.out⟩
    · by_cases k1 : (n : Int) ≤ k
      · have HY := Lib.hid (sizeAt_bad (k := k) hl.out (.inr (.inr k1)))
        go_wp2
        go_ret
        exact ⟨by rw [HY.out]; rfl, HB.out⟩
      · obtain ⟨p, rfl⟩ : ∃ p : Nat, k = (p : Int) := ⟨k.toNat, by omega⟩
        have HY := Lib.hid (sizeAt_ok HZ.out (p := p) (by rw [hl.out]; omega))
        obtain ⟨b, o, rfl, c1⟩ := HO.out.int_at' (k := p) (by omega)
        rw [← HY.out] at c1
        have p0 : (0 : Int) ≤ (p : Int) := by omega
        have p1 : (p : Int) < (n : Int) := by omega
        clear k0 k1
        go_wp2
        go_ret
        exact ⟨rfl, HB.out⟩
end Go.Proofs.YtaeeblceedklnaaGreatDoor
