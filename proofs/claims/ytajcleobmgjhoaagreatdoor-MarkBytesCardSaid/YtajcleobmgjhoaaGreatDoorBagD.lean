/- Contracts of package bag: (counts).bag. -/
import Derived.Test.YtajcleobmgjhoaaGreatDoorBagC
namespace Go.Proofs.YtajcleobmgjhoaaGreatDoor
open Go.RowKit
theorem own_form {w : World} {base : Nat} {e : TypeId} {size n : Nat} {v : Value} {xs : List Value} (h : w.ownsRow base e size v n xs) : ∃ A c, v = .slice A n c ∧ n ≤ c ∧ c ≤ 9223372036854775807 := by
  rcases h.2 with ⟨rfl, rfl⟩ | ⟨g, cap, cur, rfl, _, _, hnc, hm, _⟩
  · exact ⟨none, 0, rfl, Nat.le_refl _, by omega⟩
  · exact ⟨_, cap, rfl, hnc, hm⟩
theorem own_base {w : World} {base base' : Nat} {e : TypeId} {size n : Nat} {v : Value} {xs : List Value} (h : w.ownsRow base e size v n xs) (hb : base' ≤ base) : w.ownsRow base' e size v n xs := by
  refine ⟨h.1, ?_⟩
  rcases h.2 with h1 | ⟨b, cap, cur, rfl, hb2, rest⟩
  · exact .inl h1
  · exact .inr ⟨b, cap, cur, rfl, by omega, rest⟩
theorem Sl.int_at {w : World} {A : Option Addr} {n c : Nat} {l : List Int} (h : Sl w (.slice A n c) n 1 (intCells l)) {k : Nat} (hk : k < n) :
    ∃ b off, A = some ⟨b, off, none⟩ ∧ w.cell? ⟨b, off + k, none⟩ = some (.int .i64 (l.getD k 0)) := by
  have hl := h.len
  rw [intCells_len] at hl
  obtain ⟨b, off, e, hc⟩ := h.at_ (by omega)
  exact ⟨b, off, e, hc k _ (intCells_at (by omega))⟩
theorem pairs_ty : SlTy Tryz.prog 36 45 2 16 := SlTy.mk (z := .agg #[.int .i64 0, .int .i64 0]) (by kernel_rfl) (by kernel_rfl) rfl (by decide)
section
variable {w : World} {b n : Nat} {D : DataW Unit} {g : Int → Int}
theorem look_g (h : OwnI w b n D) (hg : GetD D g) {x : Int} (hx : I64 x) :
    (Instr.lookup 76 (.map (some b)) (.int .i64 x) false).run Tryz.prog w = .ok (.int .i64 (g x)) w ∧ I64 (g x) := by
  obtain ⟨c, hrun, hat, hw⟩ := h.lookup_int keyI Tryz.underlying76 Tryz.underlying3 (zeroI w) (keyOfI hx)
  rw [hg x] at hat
  injection hat with hat; injection hat with _ hat
  rw [hat]
  exact ⟨hrun, wf_i64 hw⟩
end
/-- The rows of some members. -/
def rowsOf (K : List Int) (g : Int → Int) : Row := (K.filter fun x => decide (0 < g x)).map fun x => (x, g x)
theorem rowsOf_snoc (K : List Int) (g : Int → Int) (x : Int) : rowsOf (K ++ [x]) g = rowsOf K g ++ if 0 < g x then [(x, g x)] else [] := by
  unfold rowsOf
  rw [List.filter_append, List.map_append]
  by_cases h : 0 < g x <;> simp [h]
theorem rowsOf_len (K : List Int) (g : Int → Int) : (rowsOf K g).length ≤ K.length := by
  unfold rowsOf
  rw [List.length_map]
  exact List.length_filter_le _ _
theorem rowsOf_row {K : List Int} {g : Int → Int} {D : DataW Unit} (hK : K.Pairwise (· < ·)) (hm : ∀ x, x ∈ K ↔ Maps.has D (.int .i64 x) = true) (hg : GetD D g) : RowG (rowsOf K g) g := by
  refine ⟨?_, fun p hp => ?_, fun k hk => ?_⟩
  · unfold rowsOf Srt
    rw [List.pairwise_map]
    exact hK.sublist List.filter_sublist
  · unfold rowsOf at hp
    obtain ⟨x, hx, rfl⟩ := List.mem_map.1 hp
    have := (List.mem_filter.1 hx).2
    simp only [decide_eq_true_eq] at this
    exact ⟨this, rfl⟩
  · unfold rowsOf
    refine List.mem_map.2 ⟨k, List.mem_filter.2 ⟨(hm k).2 ?_, by simpa using hk⟩, rfl⟩
    cases hh : Maps.has D (.int .i64 k) with
    | true => rfl
    | false =>
      have h1 := hg k
      rw [Maps.atKey_of_not_has hh] at h1
      injection h1 with h1; injection h1 with _ h1
      omega
theorem take_snocI {K : List Int} {k : Nat} (h : k < K.length) : K.take (k + 1) = K.take k ++ [K.getD k 0] := by
  rw [List.take_succ_eq_append_getElem h, List.getD, List.getElem?_eq_getElem h]; rfl
/-- What makes a bag of counts. -/
def BagP (g : Int → Int) (n : Nat) (w : World) (e : Ending) (w' : World) : Prop :=
  ∃ A c M, e = .returned (.slice A M.length c) ∧ RowG M g ∧ I64s M ∧ M.length ≤ n ∧ w'.ownsRow w.heap.size 45 2 (.slice A M.length c) M.length (pairCells M) ∧ Below w.heap.size w w'
set_option maxRecDepth 100000 in
set_option maxHeartbeats 1000000 in
theorem bag_bag (b n : Nat) (D : DataW Unit) (g : Int → Int) (w : World) (hown : Hid (OwnI w b n D)) (hg : Hid (GetD D g)) (hmax : n < 1000000000000) :
    Calls Tryz.prog 55 #[.map (some b)] w (BagP g n w) := by
  have cK := Lib.hid (keys_call (some b) w)
  have cS := Lib.hid (sorted_call b n D w hown.out hmax)
  have hbl := hown.out.lt
  go_enter Tryz.func55, Tryz.ntmps55
  go_wp2_with fail
  refine cK.out.mono ?_
  rintro e w1 ⟨rfl, rfl⟩
  go_wp2_with fail
  refine cS.out.mono ?_
  rintro e w2 ⟨A, c, K, rfl, q1, q2, hK1, hK2, hK3, hK4, hb⟩
  have hB2 : Below w.heap.size w w2 := ((Below.refl _ w).alloc (Nat.le_refl _) _).trans (hb.mono (by simp))
  have hKL : K.length ≤ n := by
    have h2 : K.Nodup := by unfold List.Nodup; exact hK1.imp fun h e => by omega
    have h3 : K ⊆ intKeys D := fun x hx => (intKeys_mem hown.out x).2 ((hK2 x).1 hx)
    exact Nat.le_trans (List.Nodup.length_le_of_subset h2 h3) (intKeys_len hown.out)
  have HO2 := Lib.hid (show OwnI w2 b n D by
    obtain ⟨es, cl, h1, h2⟩ := hown.out
    exact ⟨es, cl, by rw [hB2.block b hbl]; exact h1, h2⟩)
  have HB2 := Lib.hid hB2
  obtain ⟨m, hm⟩ : ∃ m, m = K.length := ⟨_, rfl⟩
  rw [← hm] at q1 hK4 hKL
  have HM := Lib.hid hm
  have HK1 := Lib.hid hK1
  have HK2 := Lib.hid hK2
  have HK3 := Lib.hid hK3
  have HK4 := Lib.hid hK4
  have hbl2 : b < w2.heap.size := by have := hB2.size; omega
  rw [← hm]
  clear hm hK1 hK2 hK3 hK4 hb hB2
  go_wp2_with fail
  go_loopw [3, 5, 10] (fun o _ v wr => ∃ (k j : Nat) (A' : Option Addr) (c' : Nat), k ≤ m ∧ v = .int .i64 (k : Int) ∧ o = .slice A' j c' ∧ j ≤ k ∧ Hid (j = (rowsOf (K.take k) g).length) ∧ Hid (wr.ownsRow w2.heap.size 45 2 (.slice A' j c') j (pairCells (rowsOf (K.take k) g))) ∧ Hid (Below w2.heap.size w2 wr)) (fun _ _ v _ => m - (RowKit.intOf v).toNat)
  case atStart => exact ⟨0, 0, none, 0, by omega, rfl, rfl, by omega, rfl, World.ownsRow_nil _ _ _ _, Below.refl _ _⟩
  case round =>
    obtain ⟨k, j, A', c', hk, rfl, rfl, hjk, hj, hO, hB⟩ := hrel
    by_cases hlt : k < m
    · obtain ⟨b1, o1, rfl, c1⟩ := HK4.out.int_at hlt
      replace c1 := cell_kept hB.out c1
      obtain ⟨x, hx⟩ : ∃ x, x = K.getD k 0 := ⟨_, rfl⟩
      rw [← hx] at c1
      have hts : K.take (k + 1) = K.take k ++ [x] := by rw [hx]; exact take_snocI (by rw [← HM.out]; exact hlt)
      have hrs := rowsOf_snoc (K.take k) g x
      rw [← hts] at hrs
      have hxi : I64 x := HK3.out x (by rw [hx, List.getD, List.getElem?_eq_getElem (by rw [← HM.out]; exact hlt)]; exact List.getElem_mem _)
      have hOw : OwnI wr b n D := by
        obtain ⟨es, cl, h1, h2⟩ := HO2.out
        exact ⟨es, cl, by rw [hB.out.block b hbl2]; exact h1, h2⟩
      have lk := (look_g hOw hg.out hxi).1
      obtain ⟨v, hv⟩ : ∃ v, v = g x := ⟨_, rfl⟩
      rw [← hv] at lk hrs
      have hlt2 : (k : Int) < (m : Int) := by omega
      have hk0 : (0 : Int) ≤ (k : Int) := by omega
      have hsz := hB.out.size
      clear hx hts hxi hOw hv
      by_cases h0 : 0 < v
      · rw [if_pos h0] at hrs
        have HRS := Lib.hid hrs
        clear hrs
        have hone := Lib.hid (show ∀ u ∈ [Value.int .i64 x, .int .i64 v], u.oneCell' = true by
          intro u hu
          simp only [List.mem_cons, List.not_mem_nil, or_false] at hu
          rcases hu with rfl | rfl <;> rfl)
        go_wp2_with (at_builtin; refine wpList_append_sl pairs_ty rfl (.tmp 18) (.tmp 24) rfl w2.heap.size rfl (by exact (hO.out.alloc _)) rfl (by exact Sl.new _ _ [Value.int .i64 x, .int .i64 v] 1 2 rfl (by omega)) hone.out (by omega) (by omega) (by simp; omega) ?_; intro v4 w4 hown4 hg4 hat4; obtain ⟨A4, c4, rfl, _, _⟩ := own_form hown4; have HO4 := Lib.hid hown4; have HB4 := Lib.hid ((hB.out.alloc hsz (.cells #[.int .i64 x, .int .i64 v] 45)).grown hg4 (by simp; omega) (fun q hq => (hO.out.lt q hq).1)); clear hown4 hg4 hat4 lk c1)
        go_roundw
        case rel =>
          refine ⟨k + 1, j + 1, A4, c4, by omega, by go_num, rfl, by omega, ?_, ?_, HB4.out⟩
          · show j + 1 = _
            rw [HRS.out, List.length_append, ← hj.out]; rfl
          · rw [HRS.out, pairCells_app]; exact HO4.out
        case measure => simp [RowKit.intOf]; omega
      · rw [if_neg h0, List.append_nil] at hrs
        have HRS := Lib.hid hrs
        clear hrs
        go_wp2
        go_roundw
        case rel =>
          refine ⟨k + 1, j, A', c', by omega, by go_num, rfl, by omega, ?_, ?_, hB.out⟩
          · rw [HRS.out]; exact hj.out
          · rw [HRS.out]; exact hO.out
        case measure => simp [RowKit.intOf]; omega
    · go_wp2
      go_ret
      have e1 : K.take k = K := List.take_of_length_le (by rw [← HM.out]; omega)
      have h8 := hj.out
      have h9 := hO.out
      rw [e1] at h8 h9
      refine ⟨A', c', rowsOf K g, by show Ending.returned (.slice A' j c') = _; rw [h8], rowsOf_row HK1.out HK2.out hg.out, fun p hp => ?_, by have := rowsOf_len K g; have := HM.out; omega, ?_, HB2.out.trans (hB.out.mono HB2.out.size)⟩
      · unfold rowsOf at hp
        obtain ⟨x, hx, rfl⟩ := List.mem_map.1 hp
        have := HK3.out x (List.mem_filter.1 hx).1
        exact ⟨this, (look_g hown.out hg.out this).2⟩
      · rw [← h8]; exact own_base h9 HB2.out.size
end Go.Proofs.YtajcleobmgjhoaaGreatDoor
