/- Package colour: sizes. -/
import Derived.Test.YtaeeblceedklnaaGreatDoorColC
namespace Go.Proofs.YtaeeblceedklnaaGreatDoor
open Go.RowKit
def sizesG : List (List UInt8) → List Int → List Col → Option (List Int)
  | _, out, [] => some out
  | had, out, c :: r => if nameOk c.name.data.toList && !had.contains c.name.data.toList && decide (1 ≤ sizeF c out) && decide (sizeF c out ≤ 1024) then sizesG (c.name.data.toList :: had) (out ++ [sizeF c out]) r else none
def sizesF (L : List Col) : Option (List Int) := if 32 < L.length then none else sizesG [] [] L
theorem sizesG_no {had : List (List UInt8)} {out : List Int} {c : Col} {r : List Col} (h : nameOk c.name.data.toList = false ∨ had.contains c.name.data.toList = true ∨ sizeF c out < 1 ∨ 1024 < sizeF c out) : sizesG had out (c :: r) = none := by
  rw [sizesG]
  rcases h with h | h | h | h
  · rw [h]; rfl
  · rw [h]; simp
  · have : decide (1 ≤ sizeF c out) = false := by simp; omega
    rw [this]; simp
  · have : decide (sizeF c out ≤ 1024) = false := by simp; omega
    rw [this]; simp
theorem sizesG_ok {had : List (List UInt8)} {out : List Int} {c : Col} {r : List Col} (h : nameOk c.name.data.toList = true) (h2 : had.contains c.name.data.toList = false) (h3 : 1 ≤ sizeF c out) (h4 : sizeF c out ≤ 1024) :
    sizesG had out (c :: r) = sizesG (c.name.data.toList :: had) (out ++ [sizeF c out]) r := by
  rw [sizesG, h, h2, decide_eq_true h3, decide_eq_true h4]; rfl
/-- What sizes tells. -/
def SizesP (w : World) (L : List Col) (e : Ending) (w' : World) : Prop :=
  Below w.heap.size w w' ∧ ((sizesF L = none ∧ e = .returned (.tuple #[.slice none 0 0, .bool false])) ∨
    ∃ ss A c, sizesF L = some ss ∧ ss.length = L.length ∧ Few1024 ss ∧ e = .returned (.tuple #[.slice A L.length c, .bool true]) ∧ w'.ownsRow w.heap.size 3 1 (.slice A L.length c) L.length (intCells ss))
theorem drop_col {L : List Col} {k : Nat} (h : k < L.length) : L.drop k = L.getD k default :: L.drop (k + 1) := by
  rw [List.drop_eq_getElem_cons h, List.getD, List.getElem?_eq_getElem h]; rfl
theorem ints_ty1 : SlTy Tryz.prog 36 3 1 8 := SlTy.mk (z := .int .i64 0) (by kernel_rfl) (by kernel_rfl) rfl (by decide)
theorem intCells_snoc (l : List Int) (x : Int) : intCells (l ++ [x]) = intCells l ++ [.int .i64 x] := by simp [intCells]
theorem one_int (x : Int) : ∀ u ∈ [Value.int .i64 x], u.oneCell' = true := by
  intro u hu
  simp only [List.mem_cons, List.not_mem_nil, or_false] at hu
  rw [hu]; rfl
theorem Few1024.snoc {out : List Int} {x : Int} (h : Few1024 out) (h1 : 1 ≤ x) (h2 : x ≤ 1024) : Few1024 (out ++ [x]) := by
  intro y hy
  rcases List.mem_append.1 hy with hy | hy
  · exact h y hy
  · rw [List.mem_singleton] at hy
    rw [hy]; exact ⟨h1, h2⟩
theorem own_base {w : World} {base base' : Nat} {e : TypeId} {size n : Nat} {v : Value} {xs : List Value} (h : w.ownsRow base e size v n xs) (hb : base' ≤ base) : w.ownsRow base' e size v n xs := by
  refine ⟨h.1, ?_⟩
  rcases h.2 with h1 | ⟨b, cap, cur, rfl, hb2, rest⟩
  · exact .inl h1
  · exact .inr ⟨b, cap, cur, rfl, by omega, rest⟩
theorem ownS_same {w w' : World} {b n : Nat} {D : DataW Unit} (h : OwnS w b n D) (hk : w'.heap[b]? = w.heap[b]?) : OwnS w' b n D := by
  obtain ⟨es, c, h1, r⟩ := h
  exact ⟨es, c, hk.trans h1, r⟩
/-- The relation of the loop of sizes. -/
structure SizesL (w wr : World) (k : Nat) (v : Value) (out : List Int) : Prop where
  own : wr.ownsRow (w.heap.size + 1) 3 1 v k (intCells out)
  few : Few1024 out
  bel : Below w.heap.size w wr
  mlt : w.heap.size < wr.heap.size
set_option maxRecDepth 100000 in
set_option maxHeartbeats 4000000 in
theorem col_sizes (A : Option Addr) (n c : Nat) (L : List Col) (w : World) (hC : Hid (Cols w A n c L)) :
    Calls Tryz.prog 80 #[.slice A n c] w (SizesP w L) := by
  have hl := Lib.hid hC.out.2.2.1
  have hn9 : n ≤ 9223372036854775807 := Nat.le_trans hC.out.1 hC.out.2.1
  by_cases h32 : 32 < n
  · have hz : Hid (sizesF L = none) := by
      show sizesF L = none
      unfold sizesF; rw [if_pos (by rw [hl.out]; exact h32)]
    have d1 : (32 : Int) < (n : Int) := by omega
    go_enter Tryz.func80, Tryz.ntmps80
    go_wp2
    go_ret2
    exact ⟨Below.refl _ _, .inl ⟨hz.out, rfl⟩⟩
  · have d1 : (n : Int) ≤ 32 := by omega
    have hn32 : n ≤ 32 := by omega
    obtain ⟨R, hR⟩ : ∃ R, R = sizesG [] [] L := ⟨_, rfl⟩
    have hz : Hid (sizesF L = R) := by
      show sizesF L = R
      unfold sizesF; rw [if_neg (by rw [hl.out]; exact h32), hR]
    have HR := Lib.hid hR
    have hmm := @run_makeMap Tryz.prog
    have hmb := Lib.hid (World.ownsMap_made (H := Unit) w Tryz.prog 9 (plainElem Tryz.prog 4))
    have HB1 := Lib.hid ((Below.refl w.heap.size w).alloc (Nat.le_refl _) (.map #[] 0))
    have HM1 := Lib.hid (show w.heap.size < (w.alloc (.map #[] 0)).heap.size by simp)
    clear hR h32
    go_enter Tryz.func80, Tryz.ntmps80
    go_wp2
    go_loopw [5, 15] (fun v5 v wr => ∃ (k m : Nat) (D : DataW Unit) (had : List (List UInt8)) (out : List Int) (B : Option Addr) (d : Nat), k ≤ n ∧ v = .int .i64 (k : Int) ∧ v5 = .slice B k d ∧ m ≤ k ∧ Hid (OwnS wr w.heap.size m D) ∧ Hid (HadOf D had) ∧ Hid (sizesG had out (L.drop k) = R) ∧ Hid (SizesL w wr k (.slice B k d) out)) (fun _ v _ => n - (intOf v).toNat)
    case atStart => exact ⟨0, 0, .map [], [], [], none, 0, by omega, rfl, rfl, Nat.le_refl _, hmb.out, HadOf.nil, HR.out.symm, World.ownsRow_nil _ _ _ _, (fun x hx => by cases hx), HB1.out, HM1.out⟩
    case round =>
      obtain ⟨k, m, D, had, out, B, d, hk, rfl, rfl, hm, hO, hD, hN, hS⟩ := hrel
      by_cases hlt : k < n
      · obtain ⟨b, off, rfl, N, nn, nd, hCA⟩ := (hC.out.below hS.out.bel).at_ hlt
        have hst := hN.out
        rw [drop_col (by rw [hl.out]; exact hlt)] at hst
        obtain ⟨col, hcol⟩ : ∃ col, col = L.getD k default := ⟨_, rfl⟩
        rw [← hcol] at hst hCA
        obtain ⟨c0, c1, c2, c3, c4, c5, c6, hnm, hok⟩ := hCA
        have hlen := ColAt.len (⟨c0, c1, c2, c3, c4, c5, c6, hnm, hok⟩ : ColAt wr b (off + k * 7) N nn nd col)
        have HBa := Lib.hid ((Below.refl wr.heap.size wr).alloc (Nat.le_refl _) (.cells #[.string col.name, .int .i64 col.kind, .int .i64 col.lo, .int .i64 col.hi, .slice N nn nd, .int .i64 col.first, .int .i64 col.then_] 62))
        have hn0 := Lib.hid (cell_new wr #[.string col.name, .int .i64 col.kind, .int .i64 col.lo, .int .i64 col.hi, .slice N nn nd, .int .i64 col.first, .int .i64 col.then_] 62 0 _ rfl)
        have cS := Lib.hid (col_size col N nn nd B k d out _ hok hlen.2 (Lib.hid (hnm.below HBa.out)) (Lib.hid ((Sl.of_own hS.out.own).below HBa.out)) (Lib.hid hS.out.few))
        have hlt2 : (k : Int) < (n : Int) := by omega
        have hk0 : (0 : Int) ≤ (k : Int) := by omega
        obtain ⟨x, hx⟩ : ∃ x, x = sizeF col out := ⟨_, rfl⟩
        have HX := Lib.hid hx
        rw [← hx] at cS
        have hno : Hid (nameOk col.name.data.toList = false ∨ had.contains col.name.data.toList = true ∨ x < 1 ∨ 1024 < x → sizesF L = none) := by
          intro h
          rw [hx] at h
          rw [hz.out, ← hst, sizesG_no h]
        have HST := Lib.hid hst
        clear hst hcol hnm hok hlen hx
        go_wp2_with fail
        refine cS.out.mono ?_
        rintro e w2 ⟨rfl, hb2⟩
        have q0 := cell_kept hb2 hn0.out
        have hbr := below_then HBa.out hb2
        have HB2 := Lib.hid (hS.out.bel.trans (hbr.mono hS.out.bel.size))
        have HM2 := Lib.hid (Nat.lt_of_lt_of_le hS.out.mlt hbr.size)
        have HO2 := Lib.hid (ownS_below hO.out hbr hS.out.mlt)
        have OW2 := Lib.hid (own_below hS.out.own hbr)
        have cN := col_Name' col.name w2
        clear hb2 hbr c0 c1 c2 c3 c4 c5 c6 cS hn0 HBa
        rcases hnm : nameOk col.name.data.toList with _ | _
        · rw [hnm] at cN
          have CN := Lib.hid cN
          have HZ := Lib.hid (hno.out (.inl hnm))
          clear hnm cN
          go_wp2_with (go_at_call 18; refine CN.out.mono ?_; rintro e w' ⟨rfl, rfl⟩)
          go_ret2
          exact ⟨HB2.out, .inl ⟨HZ.out, rfl⟩⟩
        · rw [hnm] at cN
          have CN := Lib.hid cN
          have hsz := name_short hnm
          have lk := look_had HO2.out hD.out hsz
          have hky := key_s hsz
          rcases hc : had.contains col.name.data.toList with _ | _
          · rw [hc] at lk
            by_cases x1 : x < 1
            · have HZ := Lib.hid (hno.out (.inr (.inr (.inl x1))))
              clear hnm cN hc
              go_wp2_with (go_at_call 18; refine CN.out.mono ?_; rintro e w' ⟨rfl, rfl⟩)
              go_ret2
              exact ⟨HB2.out, .inl ⟨HZ.out, rfl⟩⟩
            · have x1' : 1 ≤ x := by omega
              clear x1
              by_cases x2 : 1024 < x
              · have HZ := Lib.hid (hno.out (.inr (.inr (.inr x2))))
                clear hnm cN hc
                go_wp2_with (go_at_call 18; refine CN.out.mono ?_; rintro e w' ⟨rfl, rfl⟩)
                go_ret2
                exact ⟨HB2.out, .inl ⟨HZ.out, rfl⟩⟩
              · have x2' : x ≤ 1024 := by omega
                have HST2 := Lib.hid (show sizesG (col.name.data.toList :: had) (out ++ [x]) (L.drop (k + 1)) = R by
                  rw [← HST.out, sizesG_ok hnm hc (by rw [← HX.out]; exact x1') (by rw [← HX.out]; exact x2'), ← HX.out])
                have HP := Lib.hid (hD.out.put col.name.data.toList)
                have HF := Lib.hid (hS.out.few.snoc x1' x2')
                have hkd : k ≤ d ∧ d ≤ 9223372036854775807 := by
                  rcases OW2.out.2 with ⟨h1, h2⟩ | ⟨_, _, _, h1, _, _, h2, h3, _⟩
                  · injection h1 with _ _ h1; omega
                  · injection h1 with _ _ h1; unfold maxLen at h3; omega
                obtain ⟨hkd, hd9⟩ := hkd
                have hs2 := HB2.out.size
                have hone := Lib.hid (one_int x)
                clear x2 hnm cN hc
                go_wp2_with (first
                  | (go_at_call 18; refine CN.out.mono ?_; rintro e w' ⟨rfl, rfl⟩)
                  | (at_mapUpdate; refine wpList_mapUpdate_own _ rfl _ _ _ 132 rfl 9 4 keyS Tryz.underlying132 _ w.heap.size _ _ rfl HO2.out (by unfold maxLen; omega) _ _ _ rfl rfl hky _ [] (plainElem_bool Tryz.underlying4 true) ?_; intro w3 hout3 hg3; have HO3 := Lib.hid hout3; have OW3 := Lib.hid (OW2.out.kept hg3 (.inr fun e => by have := (OW2.out.lt _ e).1; omega)); have HB3 := Lib.hid (HB2.out.grown hg3 hs2 (fun q hq => by cases hq; exact Nat.le_refl _)); have hs3 := hg3.size; clear hout3 hg3)
                  | (at_builtin; refine wpList_append_sl ints_ty1 rfl (.tmp 43) (.tmp 45) rfl (w.heap.size + 1) rfl (by exact OW3.out.alloc _) rfl (by exact Sl.new _ _ [Value.int .i64 x] 1 1 rfl (by omega)) hone.out (by omega) (by omega) (by have := HM2.out; simp; omega) ?_; intro v4 w4 hown4 hg4 hat4; obtain ⟨A4, c4, rfl, _, _⟩ := (Sl.of_own hown4).form; have HO4 := Lib.hid (ownS_same HO3.out ((hg4.block w.heap.size (by have := HM2.out; simp; omega) (fun e => by have := (OW3.out.lt _ e.symm).1; omega)).trans (Below.heap_alloc _ _ _ (by have := HM2.out; omega)))); have HB4 := Lib.hid ((HB3.out.alloc HB3.out.size (.cells #[.int .i64 x] 3)).grown hg4 (by have := HM2.out; simp; omega) (fun q hq => by have := (OW3.out.lt q hq).1; omega)); have OW4 := Lib.hid hown4; have HM4 : Hid (w.heap.size < w4.heap.size) := (by have h1 := HM2.out; have h2 := hg4.size; simp at h2; show _ < _; omega); clear hown4 hg4 hat4))
                go_roundw
                case rel => exact ⟨k + 1, m + 1, _, _, _, A4, c4, by omega, by go_num, rfl, by omega, HO4, HP, HST2, by rw [intCells_snoc]; exact OW4.out, HF.out, HB4.out, HM4.out⟩
                case measure => simp [intOf]; omega
          · rw [hc] at lk
            have HZ := Lib.hid (hno.out (.inr (.inl hc)))
            clear hnm cN hc
            go_wp2_with (go_at_call 18; refine CN.out.mono ?_; rintro e w' ⟨rfl, rfl⟩)
            go_ret2
            exact ⟨HB2.out, .inl ⟨HZ.out, rfl⟩⟩
      · go_wp2
        go_ret2
        have e1 : L.drop k = [] := by rw [List.drop_eq_nil_of_le]; rw [hl.out]; omega
        have h := hN.out
        rw [e1] at h
        have ho := hS.out.own
        have hol : out.length = k := by have := ho.1; rw [intCells_len] at this; omega
        have ek : k = L.length := by rw [hl.out]; omega
        subst ek
        exact ⟨hS.out.bel, .inr ⟨out, B, d, by rw [hz.out, ← h]; rfl, hol, hS.out.few, rfl, own_base ho (by omega)⟩⟩
end Go.Proofs.YtaeeblceedklnaaGreatDoor
