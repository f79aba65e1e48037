/- Contracts of package mark: (reader).bag. -/
import Derived.Test.YtajcleobmgjhoaaGreatDoorMarkH
namespace Go.Proofs.YtajcleobmgjhoaaGreatDoor
open Go.RowKit Go.Lib
def decRows : Nat → List Int → Row
  | 0, _ => []
  | k + 1, l => (numB 0 (l.take 4), numB 0 ((l.drop 4).take 4)) :: decRows k ((l.drop 4).drop 4)
theorem decRows_len : ∀ (k : Nat) (l : List Int), (decRows k l).length = k
  | 0, _ => rfl
  | k + 1, l => by unfold decRows; rw [List.length_cons, decRows_len k]
theorem decRows_snoc : ∀ (k : Nat) (l : List Int), decRows (k + 1) l = decRows k l ++ [(numB 0 ((l.drop (8 * k)).take 4), numB 0 (((l.drop (8 * k)).drop 4).take 4))]
  | 0, l => by simp [decRows]
  | k + 1, l => by
    rw [decRows, decRows_snoc k, decRows, List.cons_append]
    rw [List.drop_drop, List.drop_drop]
    rw [show 4 + 4 + 8 * k = 8 * (k + 1) by omega]
def decBag (l : List Int) : Option (Row × List Int) :=
  if l.length < 2 then none
  else if (l.drop 2).length < 8 * (numB 0 (l.take 2)).toNat then none
  else if rightB (decRows (numB 0 (l.take 2)).toNat (l.drop 2)) then some (decRows (numB 0 (l.take 2)).toNat (l.drop 2), (l.drop 2).drop (8 * (numB 0 (l.take 2)).toNat)) else none
/-- What stays, but for the reader's two cells. -/
structure Fr (r : Nat) (w w' : World) : Prop where
  bel : ∀ (B : Nat) (a : World), Below B a w → B ≤ r → Below B a w'
  size : w.heap.size ≤ w'.heap.size
  own : ∀ (base : Nat) (t : TypeId) (sz : Nat) (v : Value) (n : Nat) (xs : List Value), r < base → w.ownsRow base t sz v n xs → w'.ownsRow base t sz v n xs
theorem Fr.refl (r : Nat) (w : World) : Fr r w w := ⟨fun _ _ h _ => h, Nat.le_refl _, fun _ _ _ _ _ _ _ h => h⟩
theorem Fr.trans {r : Nat} {a b c : World} (h : Fr r a b) (k : Fr r b c) : Fr r a c :=
  ⟨fun B x h1 h2 => k.bel B x (h.bel B x h1 h2) h2, Nat.le_trans h.size k.size, fun base t sz v n xs h1 h2 => k.own base t sz v n xs h1 (h.own base t sz v n xs h1 h2)⟩
theorem own_lim {w w' : World} {base S : Nat} {e : TypeId} {size n : Nat} {v : Value} {xs : List Value} (h : w.ownsRow base e size v n xs) (hb : Below S w w') (hS : ∀ g, v.ownBlock = some g → g < S) : w'.ownsRow base e size v n xs := by
  refine ⟨h.1, ?_⟩
  rcases h.2 with hn | ⟨g, cap, cur, rfl, hbg, hgg, rest⟩
  · exact .inl hn
  · exact .inr ⟨g, cap, cur, rfl, hbg, by rw [hb.block g (hS g rfl)]; exact hgg, rest⟩
theorem Fr.below {r S : Nat} {a b c : World} (h : Fr r a b) (hb : Below S b c) (hS : S = a.heap.size) (hr : r ≤ S) : Fr r a c := by
  subst hS
  refine ⟨fun B x h1 h2 => (h.bel B x h1 h2).trans (hb.mono (by omega)), Nat.le_trans h.size hb.size, fun base t sz v n xs h1 h2 => own_lim (h.own base t sz v n xs h1 h2) hb fun g hg => (h2.lt g hg).2⟩
theorem Fr.set {r : Nat} {a b : World} (h : Fr r a b) (j : Nat) (u : Value) : Fr r a (b.setCell ⟨r, j, none⟩ u) :=
  ⟨fun B x h1 h2 => (h.bel B x h1 h2).setCell h2 u, by have := h.size; simp [World.setCell]; exact this, fun base t sz v n xs h1 h2 => ownsRow_setCell_below (h.own base t sz v n xs h1 h2) h1 u⟩
theorem NumP.fr {lim r s : Nat} {rest : List Int} {bad : Bool} {w w' : World} {e : Ending} (h : NumP lim r s rest bad w e w') : Fr r w w' := ⟨h.1, by rw [h.2.1]; exact Nat.le_refl _, h.2.2.1⟩
def RbP (lim r : Nat) (rest : List Int) (w : World) (e : Ending) (w' : World) : Prop :=
  Fr r w w' ∧ ∃ A n c, e = .returned (.slice A n c) ∧
    ((decBag rest = none ∧ ∃ rest2, rest2.length ≤ rest.length ∧ Rd w' lim r rest2 true) ∨
     (∃ b rest2, decBag rest = some (b, rest2) ∧ n = b.length ∧ rest2.length ≤ rest.length ∧ n ≤ rest.length ∧ w'.ownsRow w.heap.size 45 2 (.slice A n c) n (pairCells b) ∧ I64s b ∧ Rd w' lim r rest2 false))
theorem decRows_wf {l : List Int} (h : U8s l) : ∀ (k : Nat), ∀ p ∈ decRows k l, I64 p.1 ∧ I64 p.2 := by
  intro k
  induction k generalizing l with
  | zero => intro p hp; cases hp
  | succ k ih =>
    intro p hp
    unfold decRows at hp
    rcases List.mem_cons.1 hp with rfl | hp
    · have h1 := numB_bound (l.take 4) (fun y hy => h y (List.mem_of_mem_take hy))
      have h2 := numB_bound ((l.drop 4).take 4) (fun y hy => h y (List.mem_of_mem_drop (List.mem_of_mem_take hy)))
      have h3 := h1.2 (by rw [List.length_take]; omega)
      have h4 := h2.2 (by rw [List.length_take]; omega)
      simp only
      omega
    · exact ih (l := (l.drop 4).drop 4) (fun y hy => h y (List.mem_of_mem_drop (List.mem_of_mem_drop hy))) p hp
set_option maxRecDepth 100000 in
set_option maxHeartbeats 8000000 in
theorem reader_bag (lim r : Nat) (rest : List Int) (w : World) (hR : Hid (Rd w lim r rest false)) (hlim : lim ≤ w.heap.size) (hlen : rest.length ≤ 100000) :
    Calls Tryz.prog 39 #[.pointer (some ⟨r, 0, none⟩)] w (RbP lim r rest w) := by
  have hrl := hR.out.lt
  have cN := Lib.hid (reader_number lim r 2 rest false w hR (by omega) (by omega))
  go_enter Tryz.func39, Tryz.ntmps39
  go_wp2_with fail
  refine cN.out.mono ?_
  rintro e w1 hP
  have F1 := Lib.hid hP.fr
  obtain ⟨g1, g2, g3, hP⟩ := hP
  clear g1 g2 g3
  obtain ⟨hb, rfl, hR1⟩ | ⟨_, h2, rfl, hR1⟩ := hP
  · have hn := Lib.hid (show decBag rest = none by
      unfold decBag
      rw [if_pos]
      rcases hb with h | h
      · cases h
      · exact h)
    have q1 := hR1.isBad
    have f1 := hR1.live 1
    have HR1 := Lib.hid hR1
    clear hb hR1 cN
    go_wp2
    go_ret
    exact ⟨F1.out.set 1 _, none, 0, 0, rfl, .inl ⟨hn.out, rest, Nat.le_refl _, HR1.out.setBad true⟩⟩
  · obtain ⟨X, hX⟩ : ∃ X, X = numB 0 (rest.take 2) := ⟨_, rfl⟩
    have hXb : 0 ≤ X ∧ X ≤ 4294967295 := by
      rw [hX]
      have := numB_bound (rest.take 2) (fun y hy => hR.out.wf y (List.mem_of_mem_take hy))
      exact ⟨this.1, this.2 (by rw [List.length_take]; omega)⟩
    obtain ⟨m, rfl⟩ : ∃ m : Nat, X = (m : Int) := ⟨X.toNat, by omega⟩
    obtain ⟨L, hL⟩ : ∃ L, L = rest.drop 2 := ⟨_, rfl⟩
    have hdec := Lib.hid (show decBag rest = if L.length < 8 * m then none else if rightB (decRows m L) then some (decRows m L, L.drop (8 * m)) else none by
      unfold decBag
      rw [if_neg (by omega), ← hX, ← hL, Int.toNat_natCast])
    have hLr : L.length ≤ rest.length := by rw [hL, List.length_drop]; omega
    have hwf := Lib.hid (show U8s L from fun y hy => hR.out.wf y (List.mem_of_mem_drop (by rw [← hL]; exact hy)))
    rw [← hX]
    rw [← hL] at hR1
    obtain ⟨A1, n1, c1, q0, hS1, _⟩ := hR1.buf
    have hn1 := Lib.hid (show L.length = n1 by have := hS1.len; rw [u8_len] at this; omega)
    have hn1b : n1 ≤ 100000 := by have := hn1.out; omega
    have hm1 : m ≤ 4294967295 := by omega
    have q1 := hR1.isBad
    have f1 := hR1.live 1
    have HR1 := Lib.hid hR1
    clear hX hL hR1 cN hXb hS1
    by_cases hlt : n1 < 8 * m
    · have hlt2 : (n1 : Int) < 8 * (m : Int) := by omega
      have hn := Lib.hid (show decBag rest = none by rw [hdec.out, if_pos (by rw [hn1.out]; exact hlt)])
      clear hdec
      go_wp2
      go_ret
      exact ⟨F1.out.set 1 _, none, 0, 0, rfl, .inl ⟨hn.out, L, hLr, HR1.out.setBad true⟩⟩
    · have hlt2 : 8 * (m : Int) ≤ (n1 : Int) := by omega
      have HR2 := Lib.hid (HR1.out.setBad false)
      have F2 := Lib.hid (F1.out.set 1 (.bool false))
      obtain ⟨w2, hw2⟩ : ∃ w2, w2 = w1.setCell ⟨r, 1, none⟩ (.bool false) := ⟨_, rfl⟩
      rw [← hw2] at HR2 F2
      have HW := Lib.hid hw2
      have q2 : w2.cell? ⟨r, 1, none⟩ = some (.bool false) := HR2.out.isBad
      rw [hw2] at q2
      clear hw2
      go_wp2
      rw [show decide ((n1 : Int) < 8 * (m : Int)) = false from decide_eq_false (by omega), ← HW.out]
      go_loopw [4, 29] (fun o v wr => ∃ (k : Nat) (A' : Option Addr) (c' : Nat), k ≤ m ∧ v = .int .i64 (k : Int) ∧ o = .slice A' k c' ∧ Hid (wr.ownsRow w.heap.size 45 2 (.slice A' k c') k (pairCells (decRows k L))) ∧ Hid (Rd wr lim r (L.drop (8 * k)) false) ∧ Hid (Fr r w wr)) (fun _ v _ => m - (RowKit.intOf v).toNat)
      case atStart => exact ⟨0, none, 0, by omega, rfl, rfl, World.ownsRow_nil _ _ _ _, HR2.out, F2.out⟩
      case round =>
        clear HR2 F2 HW q2 HR1 F1 q1 f1 q0
        obtain ⟨k, A', c', hk, rfl, rfl, ho, hrd, hfr⟩ := hrel
        by_cases hkm : k < m
        · have hkm2 : (k : Int) < (m : Int) := by omega
          have hk0 : (0 : Int) ≤ (k : Int) := by omega
          obtain ⟨Y, hY⟩ : ∃ Y, Y = numB 0 ((L.drop (8 * k)).take 4) := ⟨_, rfl⟩
          obtain ⟨Z, hZ⟩ : ∃ Z, Z = numB 0 (((L.drop (8 * k)).drop 4).take 4) := ⟨_, rfl⟩
          have hsn := Lib.hid (show decRows (k + 1) L = decRows k L ++ [(Y, Z)] by rw [decRows_snoc, hY, hZ])
          have hd8 := Lib.hid (show ((L.drop (8 * k)).drop 4).drop 4 = L.drop (8 * (k + 1)) by rw [List.drop_drop, List.drop_drop]; congr 1)
          have hl4 : 4 ≤ (L.drop (8 * k)).length := by rw [List.length_drop, hn1.out]; omega
          have hl5 : 4 ≤ ((L.drop (8 * k)).drop 4).length := by rw [List.length_drop, List.length_drop, hn1.out]; omega
          have cN1 := reader_number lim r 4 (L.drop (8 * k)) false wr hrd (by omega) (by omega)
          obtain ⟨L1, hL1⟩ : ∃ L1, L1 = L.drop (8 * k) := ⟨_, rfl⟩
          rw [← hL1] at cN1 hl4 hl5 hY hZ hd8
          have CN1 := Lib.hid cN1
          have HL1 := Lib.hid hl4
          have HL2 := Lib.hid hl5
          have HY := Lib.hid hY
          have HZ := Lib.hid hZ
          have hone := Lib.hid (pair_one [(Y, Z)])
          clear hL1 cN1 hl4 hl5 hY hZ hrd
          go_wp2_with fail
          refine CN1.out.mono ?_
          rintro e wa hP
          have Fa := Lib.hid (hfr.out.trans hP.fr)
          have Oa := Lib.hid (hP.fr.own _ _ _ _ _ _ (by omega) ho.out)
          obtain ⟨g1, g2, g3, hP⟩ := hP
          clear g1 g2 g3
          obtain ⟨hb, _, _⟩ | ⟨g4, g5, rfl, hRa⟩ := hP
          · exfalso
            have := HL1.out
            rcases hb with h | h
            · cases h
            · omega
          · clear g4 g5
            rw [← HY.out]
            have CN2 := Lib.hid (reader_number lim r 4 (L1.drop 4) false wa hRa (by omega) (by omega))
            clear hRa CN1 hfr ho
            go_wp2_with fail
            refine CN2.out.mono ?_
            rintro e wb hP
            have Fb := Lib.hid (Fa.out.trans hP.fr)
            have Ob := Lib.hid (hP.fr.own _ _ _ _ _ _ (by omega) Oa.out)
            obtain ⟨g1, g2, g3, hP⟩ := hP
            clear g1 g2 g3
            obtain ⟨hb, _, _⟩ | ⟨g4, g5, rfl, hRb⟩ := hP
            · exfalso
              have := HL2.out
              rcases hb with h | h
              · cases h
              · omega
            · clear g4 g5
              rw [← HZ.out]
              rw [hd8.out] at hRb
              have HRb := Lib.hid hRb
              have hszb := Fb.out.size
              clear hRb CN2 Fa Oa
              go_wp2_with (at_builtin; refine wpList_append_sl pairs_ty rfl (.tmp 31) (.tmp 37) rfl w.heap.size rfl (by exact (Ob.out.alloc _)) rfl (by exact Sl.new _ _ [Value.int .i64 Y, .int .i64 Z] 1 2 rfl (by omega)) hone.out (by omega) (by omega) (by simp; omega) ?_; intro v4 w4 hown4 hg4 hat4; obtain ⟨A4, c4, rfl, _, _⟩ := own_form hown4; have HO4 := Lib.hid hown4; have HG4 := Lib.hid hg4; clear hown4 hg4 hat4)
              have HB4 := Lib.hid (show Below w.heap.size wb w4 from ((Below.refl _ wb).alloc hszb _).grown HG4.out (by simp; omega) (fun q hq => (Ob.out.lt q hq).1))
              have F4 := Lib.hid (Fb.out.below HB4.out rfl (by omega))
              have R4 := Lib.hid (HRb.out.below HB4.out hlim)
              have O4 := Lib.hid (show w4.ownsRow w.heap.size 45 2 (.slice A4 (k + 1) c4) (k + 1) (pairCells (decRows (k + 1) L)) by rw [hsn.out, pairCells_app]; exact HO4.out)
              clear HB4 HG4 HO4 Fb Ob HRb
              go_roundw
              case rel => exact ⟨k + 1, A4, c4, by omega, by go_num, rfl, O4.out, R4.out, F4.out⟩
              case measure => simp [RowKit.intOf]; omega
        · have e1 : k = m := by omega
          subst e1
          have hSl := Lib.hid (Sl.of_own ho.out)
          have CR := Lib.hid (bag_Right A' k c' (decRows k L) wr hSl)
          obtain ⟨R, hRR⟩ : ∃ R, R = rightB (decRows k L) := ⟨_, rfl⟩
          rw [← hRR] at CR
          have HRR := Lib.hid hRR
          have hszr := hfr.out.size
          have hbig : lim ≤ wr.heap.size := by omega
          have hrs : r ≤ wr.heap.size := by omega
          clear hRR
          go_wp2_with fail
          refine CR.out.mono ?_
          rintro e w5 ⟨rfl, hb⟩
          have R5 := Lib.hid (hrd.out.below hb hbig)
          have O5 := Lib.hid (own_below ho.out hb)
          have F5 := Lib.hid (hfr.out.trans ((Fr.refl r wr).below hb rfl hrs))
          have q5 := R5.out.isBad
          have f5 := R5.out.live 1
          clear hb hrd ho hfr CR
          cases R with
          | false =>
            have hn := Lib.hid (show decBag rest = none by rw [hdec.out, if_neg (by rw [hn1.out]; exact hlt), ← HRR.out]; rfl)
            clear hdec
            go_wp2
            go_ret
            exact ⟨F5.out.set 1 _, A', k, c', rfl, .inl ⟨hn.out, _, by rw [List.length_drop]; omega, R5.out.setBad true⟩⟩
          | true =>
            have hn := Lib.hid (show decBag rest = some (decRows k L, L.drop (8 * k)) by rw [hdec.out, if_neg (by rw [hn1.out]; exact hlt), ← HRR.out]; rfl)
            clear hdec
            go_wp2
            go_ret
            refine ⟨F5.out.set 1 _, A', k, c', rfl, .inr ⟨_, _, hn.out, (decRows_len k L).symm, ?_, ?_, ?_, decRows_wf hwf.out k, R5.out.setBad false⟩⟩
            · rw [List.length_drop]; omega
            · have := hn1.out; omega
            · exact ownsRow_setCell_below O5.out (show r < w.heap.size by omega) _
end Go.Proofs.YtajcleobmgjhoaaGreatDoor
