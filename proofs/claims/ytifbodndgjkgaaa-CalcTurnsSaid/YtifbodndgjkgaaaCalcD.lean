/- Contracts: Op, Fold. -/
import Derived.Test.YtifbodndgjkgaaaCalcC
namespace Go.Proofs.Ytifbodndgjkgaaa
open Go.RowKit
def opN (s : ByteArray) : Int := if Lib.idxOfS signStrs s < 0 then 0 else Lib.idxOfS signStrs s + 1
def isOp (s : ByteArray) : Bool := decide (0 ≤ Lib.idxOfS signStrs s)
theorem idxOfS_bd (zs : List ByteArray) (x : ByteArray) : -1 ≤ Lib.idxOfS zs x ∧ Lib.idxOfS zs x < zs.length ∨ Lib.idxOfS zs x = -1 := by
  have gen : ∀ (zs : List ByteArray) (i : Nat), Lib.idxFromS zs x i = -1 ∨ (i ≤ Lib.idxFromS zs x i ∧ Lib.idxFromS zs x i < i + zs.length) := by
    intro zs
    induction zs with
    | nil => intro i; simp [Lib.idxFromS]
    | cons z zs ih =>
      intro i
      simp only [Lib.idxFromS]
      split
      · right; simp; omega
      · rcases ih (i + 1) with h | h
        · exact .inl h
        · right; simp; omega
  rcases gen zs 0 with h | h
  · exact .inr h
  · left; unfold Lib.idxOfS; omega
theorem signs_cells (w : World) (t : TypeId) : ∀ j, j < signStrs.length → (w.alloc (.cells signCells t)).cell? ⟨w.heap.size, 0 + j, none⟩ = some (.string (signStrs.getD j ByteArray.empty)) := by
  intro j hj
  have hb : (w.alloc (.cells signCells t)).heap[w.heap.size]? = some (.cells signCells t (0, 0)) := heap_alloc_new w _
  rw [cell_of_row _ _ _ _ _ _ hb]
  have : signCells = (signStrs.map Value.string).toArray := rfl
  rw [this]
  simp [List.getD, List.getElem?_eq_getElem hj]
set_option maxHeartbeats 400000 in
theorem calc_Op (s : ByteArray) (w : World) :
    Calls Try.prog 15 #[.string s] w fun e w' => e = .returned (.tuple #[.int .i64 (opN s), .bool (isOp s)]) ∧ Below w.heap.size w w' := by
  have HC := Lib.hid (signs_cells w 9)
  go_enter Try.func15, Try.ntmps15
  go_wp2_with (first
    | (go_at_call 33; refine (calc_signs _).mono ?_; rintro e w' ⟨rfl, rfl⟩)
    | (go_at_call 32; refine (Try.slices_Index_string w.heap.size 0 11 11 signStrs s _ (by decide) (by decide) HC.out).mono ?_; rintro e w' ⟨rfl, rfl⟩))
  · go_ret2
    have h : Lib.idxOfS signStrs s < 0 := ‹Lib.idxOfS (List.take 11 signStrs) s < 0›
    exact ⟨ret2b (by simp [opN, h]) (by simp [isOp]; omega), (Below.refl _ _).alloc (Nat.le_refl _) _⟩
  · go_ret2
    have h : 0 ≤ Lib.idxOfS signStrs s := ‹0 ≤ Lib.idxOfS (List.take 11 signStrs) s›
    have hbd := idxOfS_bd signStrs s
    have hl : signStrs.length = 11 := rfl
    refine ⟨ret2b ?_ (by simp [isOp]; omega), (Below.refl _ _).alloc (Nat.le_refl _) _⟩
    show wrap64 (1 + Lib.idxOfS signStrs s) = _
    rw [wrapI (by unfold I64; omega)]
    unfold opN
    rw [if_neg (by omega)]
    omega
set_option maxHeartbeats 400000 in
theorem ref01_Op (s : ByteArray) (w : World) :
    Calls Try.prog 16 #[.string s] w fun e w' => e = .returned (.tuple #[.int .i64 (opN s), .bool (isOp s)]) ∧ Below w.heap.size w w' := by
  go_enter Try.func16, Try.ntmps16
  go_wp2_with (first
    | (go_at_call 34; refine (ref01_signs _).mono ?_; rintro e w' ⟨rfl, rfl⟩))
  go_loop [5] (fun i => ∃ k : Nat, k ≤ 11 ∧ i = .int .i64 k ∧ Hid (∀ j, j < k → signStrs.getD j ByteArray.empty ≠ s)) (fun i => 11 - (intOf i).toNat)
  case atStart => exact ⟨0, by omega, rfl, fun j hj => by omega⟩
  case round =>
    obtain ⟨k, hk, rfl, hno⟩ := hrel
    by_cases hlt : k < 11
    · have hcell : signCells[k]? = some (.string (signStrs.getD k ByteArray.empty)) := by
        have : signCells = (signStrs.map Value.string).toArray := rfl
        rw [this]
        have hl : signStrs.length = 11 := rfl
        simp [List.getD, List.getElem?_eq_getElem (show k < signStrs.length by omega)]
      obtain ⟨z, hz⟩ : ∃ z, z = signStrs.getD k ByteArray.empty := ⟨_, rfl⟩
      rw [← hz] at hcell
      have HZ := Lib.hid hz
      clear hz
      go_wp2
      · go_ret2
        have he := (Lib.bytes_beq_iff z s).1 ‹_›
        have hi := Lib.idxOfS_hit signStrs 11 k s hlt (by decide) (HZ.out ▸ he) hno.out
        have hi2 : Lib.idxOfS signStrs s = k := hi
        refine ⟨ret2b ?_ (by simp [isOp]; omega), (Below.refl _ _).alloc (Nat.le_refl _) _⟩
        unfold opN
        rw [if_neg (by omega), hi2]
      · have he := (Lib.bytes_beq_false_iff z s).1 ‹_›
        go_round
        case rel =>
          refine ⟨k + 1, by omega, by go_num, fun j hj => ?_⟩
          by_cases h : j < k
          · exact hno.out j h
          · have : j = k := by omega
            subst this
            rw [← HZ.out]; exact he
        case measure => simp [intOf]; omega
    · go_wp2
      go_ret2
      have hi := Lib.idxOfS_miss signStrs 11 s (fun j hj => hno.out j (by omega))
      have hi2 : Lib.idxOfS signStrs s = -1 := hi
      exact ⟨ret2b (by simp [opN, hi2]) (by simp [isOp, hi2]), (Below.refl _ _).alloc (Nat.le_refl _) _⟩
/-- A slice of integers that reads as a list: its cells at a plain address. -/
def IntsAt (w : World) (b off : Nat) (l : List Int) : Prop := ∀ j, j < l.length → w.cell? ⟨b, off + j, none⟩ = some (.int .i64 (l.getD j 0))
theorem IntsAt.drewN {w : World} {b off : Nat} {l : List Int} (h : IntsAt w b off l) (n : Nat) : IntsAt (w.drewN n) b off l := h
set_option maxHeartbeats 400000 in
theorem calc_Fold_none (op : Int) (A : Option Addr) (c : Nat) (w : World) :
    Calls Try.prog 21 #[.int .i64 op, .slice A 0 c] w fun e w' => e = .returned (.tuple #[.int .i64 0, .int .i64 1]) ∧ w = w' := by
  go_enter Try.func21, Try.ntmps21
  go_wp2_with (first
    | (go_at_call 13; refine (calc_Known _ _).mono ?_; rintro e w' ⟨rfl, rfl⟩))
  all_goals
    go_ret2
    exact ⟨rfl, rfl⟩
set_option maxHeartbeats 400000 in
theorem calc_Fold_bad (op : Int) (A : Option Addr) (n c : Nat) (w : World) (hk : knownB op = false) :
    Calls Try.prog 21 #[.int .i64 op, .slice A n c] w fun e w' => e = .returned (.tuple #[.int .i64 0, .int .i64 1]) ∧ w = w' := by
  go_enter Try.func21, Try.ntmps21
  go_wp2_with (first
    | (go_at_call 13; refine (calc_Known _ _).mono ?_; rintro e w' ⟨rfl, rfl⟩))
  go_ret2
  exact ⟨rfl, rfl⟩
theorem foldV_step {op n k : Int} {r : List Int} (h : doE op n k = 0) : foldV op n (k :: r) = foldV op (doV op n k) r ∧ foldE op n (k :: r) = foldE op (doV op n k) r := by simp [foldV, foldE, h]
theorem foldV_stop {op n k : Int} {r : List Int} (h : doE op n k ≠ 0) : foldV op n (k :: r) = 0 ∧ foldE op n (k :: r) = doE op n k := by simp [foldV, foldE, h]
def FoldIs (op n : Int) (r l : List Int) : Prop := foldV op n r = foldLV op l ∧ foldE op n r = foldLE op l
theorem getD_in {l : List Int} (hin : ∀ x ∈ l, I64 x) (j : Nat) : I64 (l.getD j 0) := by
  by_cases h : j < l.length
  · rw [List.getD, List.getElem?_eq_getElem h]; exact hin _ (List.getElem_mem h)
  · rw [List.getD, List.getElem?_eq_none (by omega)]; exact (by decide : I64 0)
theorem fold_start {op : Int} {l : List Int} (hk : knownB op = true) (hl : 1 ≤ l.length) : FoldIs op (l.getD 0 0) (l.drop 1) l := by
  match l, hl with
  | n :: r, _ => simp [FoldIs, foldLV, foldLE, hk]
theorem drop_cons {l : List Int} {j : Nat} (h : j < l.length) : l.drop j = l.getD j 0 :: l.drop (j + 1) := by
  rw [List.getD, List.getElem?_eq_getElem h]; exact (List.drop_eq_getElem_cons h)
set_option maxHeartbeats 400000 in
theorem calc_Fold_some (op : Int) (b off n c : Nat) (l : List Int) (w : World) (hl : 1 ≤ n) (hn : Hid (l.length = n)) (hc : n ≤ c) (hm : c ≤ 9223372036854775807)
    (hin : Hid (∀ x ∈ l, I64 x)) (hk : knownB op = true) (hcell : Hid (IntsAt w b off l)) :
    Calls Try.prog 21 #[.int .i64 op, .slice (some ⟨b, off, none⟩) n c] w fun e w' => e = .returned (.tuple #[.int .i64 (foldLV op l), .int .i64 (foldLE op l)]) ∧ ∃ n, w' = w.drewN n := by
  have hlen : (((n : Nat) : Int) == 0) = false := by simp; omega
  have h0 : w.cell? ⟨b, off, none⟩ = some (.int .i64 (l.getD 0 0)) := hcell.out 0 (by have := hn.out; omega)
  have hst := Lib.hid (fold_start hk (by have := hn.out; omega : 1 ≤ l.length))
  have ha0 := getD_in hin.out 0
  obtain ⟨x0, hx0⟩ : ∃ x0, x0 = l.getD 0 0 := ⟨_, rfl⟩
  rw [← hx0] at h0 ha0 hst
  clear hx0
  go_enter Try.func21, Try.ntmps21
  go_wp2_with (first
    | (go_at_call 13; refine (calc_Known _ _).mono ?_; rintro e w' ⟨rfl, rfl⟩))
  all_goals
    go_loopw [6, 25] (fun x i wr => ∃ (k : Nat) (v : Int) (m : Nat), k + 1 ≤ n ∧ i = .int .i64 k ∧ x = .int .i64 v ∧ I64 v ∧ Hid (FoldIs op v (l.drop (k + 1)) l) ∧ wr = w.drewN m) (fun _ i _ => n - 1 - (intOf i).toNat)
    case atStart => exact ⟨0, x0, 0, by omega, rfl, rfl, ha0, hst, rfl⟩
    case round =>
      obtain ⟨k, v, m, hk, rfl, rfl, hv, hf, rfl⟩ := hrel
      by_cases hlt : k + 1 < n
      · have hc1 : w.cell? ⟨b, off + 1 + k, none⟩ = some (.int .i64 (l.getD (k + 1) 0)) := by
          have := hcell.out (k + 1) (by have := hn.out; omega)
          rwa [show off + (k + 1) = off + 1 + k by omega] at this
        have hx := getD_in hin.out (k + 1)
        have hd := drop_cons (l := l) (j := k + 1) (by have := hn.out; omega)
        have hf2 := hf.out
        rw [hd] at hf2
        obtain ⟨x1, hx1⟩ : ∃ x1, x1 = l.getD (k + 1) 0 := ⟨_, rfl⟩
        rw [← hx1] at hc1 hx hf2
        have HF := Lib.hid hf2
        clear hx1 hd hf2
        go_wp2_with (first
          | (go_at_call 10; refine (calc_Do _ _ _ _ (by assumption) (by assumption)).mono ?_; rintro e w' ⟨rfl, q, rfl⟩))
        all_goals first
          | (go_ret2
             have hz := ‹(doE op v x1 != 0) = true›
             have hs := foldV_stop (r := l.drop (k + 2)) (show doE op v x1 ≠ 0 by simpa using hz)
             have h1 := HF.out.1
             have h2 := HF.out.2
             exact ⟨ret2 (hs.1.symm.trans h1) (hs.2.symm.trans h2), _, rfl⟩)
          | (have hz := ‹(doE op v x1 != 0) = false›
             have hs := foldV_step (r := l.drop (k + 2)) (show doE op v x1 = 0 by simpa using hz)
             go_roundw
             case rel => exact ⟨k + 1, _, _, by omega, by go_num, rfl, doV_in _ _ _ hv, ⟨hs.1.symm.trans HF.out.1, hs.2.symm.trans HF.out.2⟩, rfl⟩
             case measure => (simp [intOf]; omega))
      · go_wp2
        all_goals
          go_ret2
          have hz : l.drop (k + 1) = [] := List.drop_eq_nil_of_le (by have := hn.out; omega)
          have hf2 := hf.out
          rw [hz] at hf2
          exact ⟨ret2 hf2.1 hf2.2, _, rfl⟩
theorem foldL_bad {op : Int} {l : List Int} (h : knownB op = false) : foldLV op l = 0 ∧ foldLE op l = 1 := by simp [foldLV, foldLE, h]
theorem foldL_none (op : Int) : foldLV op [] = 0 ∧ foldLE op [] = 1 := by simp [foldLV, foldLE]
theorem calc_Fold (op : Int) (b off n c : Nat) (l : List Int) (w : World) (hn : l.length = n) (hc : n ≤ c) (hm : c ≤ 9223372036854775807) (hin : ∀ x ∈ l, I64 x) (hcell : IntsAt w b off l) :
    Calls Try.prog 21 #[.int .i64 op, .slice (some ⟨b, off, none⟩) n c] w fun e w' => e = .returned (.tuple #[.int .i64 (foldLV op l), .int .i64 (foldLE op l)]) ∧ ∃ n, w' = w.drewN n := by
  by_cases hk : knownB op = true
  · by_cases h0 : 1 ≤ n
    · exact calc_Fold_some op b off n c l w h0 hn hc hm hin hk hcell
    · have : n = 0 := by omega
      subst this
      have : l = [] := List.eq_nil_of_length_eq_zero hn
      subst this
      rw [(foldL_none op).1, (foldL_none op).2]
      exact (calc_Fold_none op _ c w).mono fun _ _ ⟨he, hw⟩ => ⟨he, 0, hw.symm⟩
  · have hk : knownB op = false := by simpa using hk
    rw [(foldL_bad hk).1, (foldL_bad hk).2]
    exact (calc_Fold_bad op _ n c w hk).mono fun _ _ ⟨he, hw⟩ => ⟨he, 0, hw.symm⟩
set_option maxHeartbeats 400000 in
theorem ref01_Fold_none (op : Int) (A : Option Addr) (c : Nat) (w : World) :
    Calls Try.prog 22 #[.int .i64 op, .slice A 0 c] w fun e w' => e = .returned (.tuple #[.int .i64 0, .int .i64 1]) ∧ w = w' := by
  go_enter Try.func22, Try.ntmps22
  go_wp2_with (first
    | (go_at_call 14; refine (ref01_Known _ _).mono ?_; rintro e w' ⟨rfl, rfl⟩))
  all_goals
    go_ret2
    exact ⟨rfl, rfl⟩
set_option maxHeartbeats 400000 in
theorem ref01_Fold_bad (op : Int) (A : Option Addr) (n c : Nat) (w : World) (hk : knownB op = false) :
    Calls Try.prog 22 #[.int .i64 op, .slice A n c] w fun e w' => e = .returned (.tuple #[.int .i64 0, .int .i64 1]) ∧ w = w' := by
  go_enter Try.func22, Try.ntmps22
  go_wp2_with (first
    | (go_at_call 14; refine (ref01_Known _ _).mono ?_; rintro e w' ⟨rfl, rfl⟩))
  go_ret2
  exact ⟨rfl, rfl⟩
set_option maxHeartbeats 400000 in
theorem ref01_Fold_some (op : Int) (b off n c : Nat) (l : List Int) (w : World) (hl : 1 ≤ n) (hn : Hid (l.length = n)) (hc : n ≤ c) (hm : c ≤ 9223372036854775807)
    (hin : Hid (∀ x ∈ l, I64 x)) (hk : knownB op = true) (hcell : Hid (IntsAt w b off l)) :
    Calls Try.prog 22 #[.int .i64 op, .slice (some ⟨b, off, none⟩) n c] w fun e w' => e = .returned (.tuple #[.int .i64 (foldLV op l), .int .i64 (foldLE op l)]) ∧ w = w' := by
  have hlen : (((n : Nat) : Int) == 0) = false := by simp; omega
  have h0 : w.cell? ⟨b, off, none⟩ = some (.int .i64 (l.getD 0 0)) := hcell.out 0 (by have := hn.out; omega)
  have hst := Lib.hid (fold_start hk (by have := hn.out; omega : 1 ≤ l.length))
  have ha0 := getD_in hin.out 0
  obtain ⟨x0, hx0⟩ : ∃ x0, x0 = l.getD 0 0 := ⟨_, rfl⟩
  rw [← hx0] at h0 ha0 hst
  clear hx0
  go_enter Try.func22, Try.ntmps22
  go_wp2_with (first
    | (go_at_call 14; refine (ref01_Known _ _).mono ?_; rintro e w' ⟨rfl, rfl⟩))
  go_loop [6, 7] (fun x i => ∃ (k : Nat) (v : Int), k + 1 ≤ n ∧ i = .int .i64 ((k : Int) + 1) ∧ x = .int .i64 v ∧ I64 v ∧ Hid (FoldIs op v (l.drop (k + 1)) l)) (fun _ i => n - (intOf i).toNat)
  case atStart => exact ⟨0, x0, by omega, rfl, rfl, ha0, hst⟩
  case round =>
    obtain ⟨k, v, hk, rfl, rfl, hv, hf⟩ := hrel
    by_cases hlt : k + 1 < n
    · have hc1 : w.cell? ⟨b, off + (k + 1), none⟩ = some (.int .i64 (l.getD (k + 1) 0)) := hcell.out (k + 1) (by have := hn.out; omega)
      have hx := getD_in hin.out (k + 1)
      have hd := drop_cons (l := l) (j := k + 1) (by have := hn.out; omega)
      have hf2 := hf.out
      rw [hd] at hf2
      obtain ⟨x1, hx1⟩ : ∃ x1, x1 = l.getD (k + 1) 0 := ⟨_, rfl⟩
      rw [← hx1] at hc1 hx hf2
      have HF := Lib.hid hf2
      clear hx1 hd hf2
      go_wp2_with (first
        | (go_at_call 11; refine (ref01_Do _ _ _ _ (by assumption) (by assumption)).mono ?_; rintro e w' ⟨rfl, rfl⟩))
      all_goals first
        | (go_ret2
           have hz := ‹(doE op v x1 != 0) = true›
           have hs := foldV_stop (r := l.drop (k + 2)) (show doE op v x1 ≠ 0 by simpa using hz)
           have h1 := HF.out.1
           have h2 := HF.out.2
           exact ⟨ret2 (hs.1.symm.trans h1) (hs.2.symm.trans h2), rfl⟩)
        | (have hz := ‹(doE op v x1 != 0) = false›
           have hs := foldV_step (r := l.drop (k + 2)) (show doE op v x1 = 0 by simpa using hz)
           go_round
           case rel => exact ⟨k + 1, _, by omega, by go_num, rfl, doV_in _ _ _ hv, ⟨hs.1.symm.trans HF.out.1, hs.2.symm.trans HF.out.2⟩⟩
           case measure => (simp [intOf]; omega))
    · go_wp2
      go_ret2
      have hz : l.drop (k + 1) = [] := List.drop_eq_nil_of_le (by have := hn.out; omega)
      have hf2 := hf.out
      rw [hz] at hf2
      exact ⟨ret2 hf2.1 hf2.2, rfl⟩
theorem ref01_Fold (op : Int) (b off n c : Nat) (l : List Int) (w : World) (hn : l.length = n) (hc : n ≤ c) (hm : c ≤ 9223372036854775807) (hin : ∀ x ∈ l, I64 x) (hcell : IntsAt w b off l) :
    Calls Try.prog 22 #[.int .i64 op, .slice (some ⟨b, off, none⟩) n c] w fun e w' => e = .returned (.tuple #[.int .i64 (foldLV op l), .int .i64 (foldLE op l)]) ∧ w = w' := by
  by_cases hk : knownB op = true
  · by_cases h0 : 1 ≤ n
    · exact ref01_Fold_some op b off n c l w h0 hn hc hm hin hk hcell
    · have : n = 0 := by omega
      subst this
      have : l = [] := List.eq_nil_of_length_eq_zero hn
      subst this
      rw [(foldL_none op).1, (foldL_none op).2]
      exact ref01_Fold_none op _ c w
  · have hk : knownB op = false := by simpa using hk
    rw [(foldL_bad hk).1, (foldL_bad hk).2]
    exact ref01_Fold_bad op _ n c w hk
end Go.Proofs.Ytifbodndgjkgaaa
