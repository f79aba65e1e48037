/- Contracts of package timer: a copy of the heap's row, sorted. -/
import Derived.Test.YtkcggnfbmbfciaaTimR
namespace Go.Proofs.Ytkcggnfbmbfciaa
open Go.RowKit Go.Sort Go.Lib
set_option maxHeartbeats 1000000 in
theorem tim_Clone (A : Option Addr) (n c : Nat) (xs : List Value) (w : World) (H : Hid (Sl w (.slice A n c) n 1 xs)) (h1 : Hid (∀ u ∈ xs, u.oneCell' = true)) (hn : n < 8192) :
    Calls Try.prog 28 #[.slice A n c] w fun e w' => ∃ B d, e = .returned (.slice B n d) ∧ w'.ownsRow w.heap.size 55 1 (.slice B n d) n xs ∧ Below w.heap.size w w' := by
  have qT : ∀ (w : World) (a : Option Addr) (n c n' c' : Nat), (binOp .eql 52 (.slice a n c) (.slice none n' c')).run Try.prog w = .ok (.bool a.isNone) w := fun w a n c n' c' => Lib.run_eql_slice_nil w _ _ a n c n' c' Try.underlying52
  have hlen := H.out.len
  rcases A with _ | a
  · have h0 : n = 0 := by
      rcases Nat.eq_zero_or_pos n with h0 | h0
      · exact h0
      · obtain ⟨b, off, h, _⟩ := H.out.at_ h0
        cases h
    subst h0
    have hx : xs = [] := List.eq_nil_of_length_eq_zero (by simpa using hlen)
    subst hx
    clear hlen
    go_enter Try.func28, Try.ntmps28
    go_wp2
    go_ret
    exact ⟨none, 0, rfl, World.ownsRow_nil _ _ _ _, Below.refl _ _⟩
  · have hown := Lib.hid (World.ownsRow_made w (base := w.heap.size) (e := 55) (size := 1) #[] 0 (Nat.le_refl _) (by decide) rfl)
    have hsrc := Lib.hid (H.out.below ((Below.refl _ w).alloc (Nat.le_refl _) (.cells #[] 55)))
    clear hlen
    go_enter Try.func28, Try.ntmps28
    go_wp2_with (at_builtin; refine wpList_append_sl ety rfl (.tmp 5) (.tmp 6) rfl w.heap.size rfl (by exact hown.out) rfl (by exact hsrc.out) h1.out (by omega) (by omega) (by simp) ?_; intro v4 w4 hown4 hg4 hat4; rw [Nat.zero_add, List.nil_append] at hown4; obtain ⟨A4, c4, rfl, _, _⟩ := own_form hown4; have HO := Lib.hid hown4; have HG := Lib.hid hg4; clear hown4 hg4 hat4)
    go_ret
    refine ⟨A4, c4, rfl, HO.out, ?_⟩
    exact below_grown (((Below.refl _ w).alloc (Nat.le_refl _) (.cells #[] 55))) HG.out hown.out (Nat.le_refl _) (by simp)
/-- An entry that reads right, away from block b. -/
def EntOk (w : World) (b : Nat) (e : Ent) : Prop := e.blk ≠ b ∧ w.cell? ⟨e.blk, 0, none⟩ = some (.int .i64 e.id) ∧ w.cell? ⟨e.blk, 1, none⟩ = some (.int .i64 e.at_)
theorem sort_cell {α : Type} [Inhabited α] (enc : α → Value) (w : World) (blk m : Nat) (dk : Array α) (os : Array Obj) {a : Addr} {v : Value} (h : w.cell? a = some v) (hne : a.block ≠ blk) : (sortWorld enc w blk 0 m dk os).cell? a = some v := by
  unfold sortWorld
  have hlt := World.block_lt_of_cell? w a h
  rw [cell?_grow _ _ _ (by rw [size_putRow]; exact hlt), cell?_putRow_other _ _ _ _ _ _ (.inl hne)]
  exact h
theorem ltOf_iff {w : World} {b : Nat} (x y : {e : Ent // EntOk w b e}) : ltOf (fun p q : {e : Ent // EntOk w b e} => cfE p.1 q.1) x y = true ↔ ltE x.1 y.1 := by
  unfold ltOf
  rw [decide_eq_true_eq]
  exact cfE_lt x.1 y.1
theorem swo_ent (w : World) (b : Nat) : SWO (ltOf fun p q : {e : Ent // EntOk w b e} => cfE p.1 q.1) where
  irrefl x := by
    rw [Bool.eq_false_iff, ne_eq, ltOf_iff]
    unfold ltE; omega
  trans x y z h g := by
    rw [ltOf_iff] at *
    unfold ltE at *; omega
  ntrans x y z h g := by
    rw [Bool.eq_false_iff, ne_eq, ltOf_iff] at *
    unfold ltE at *; omega
/-- What the sort leaves. -/
def Sorted (b : Nat) (hs : List Ent) (w : World) (e : Ending) (w' : World) : Prop :=
  e = .returned (.tuple #[]) ∧ ∃ l', l'.Perm hs ∧ l'.Pairwise leE ∧ (∀ j, j < l'.length → w'.cell? ⟨b, j, none⟩ = some (ptrV (gE l' j))) ∧ Only (fun x => x = b) w w'
theorem only_sort {α : Type} [Inhabited α] (enc : α → Value) (w : World) (blk m : Nat) (dk : Array α) (os : Array Obj) : Only (fun x => x = blk) w (sortWorld enc w blk 0 m dk os) := by
  refine ⟨rfl, rfl, rfl, ?_, fun k hk hn => ?_⟩
  · unfold sortWorld grow
    simp
  · unfold sortWorld
    rw [heap_grow_old _ _ (by rw [size_putRow]; exact hk)]
    show (w.heap.modify blk _)[k]? = _
    rw [Array.getElem?_modify, if_neg (fun h => hn h.symm)]
theorem getBang {α : Type} [Inhabited α] (l : List α) {j : Nat} (h : j < l.length) : l.toArray[j]! = l[j] := by
  rw [getElem!_pos _ j (by simpa using h)]; simp
set_option maxRecDepth 100000 in
set_option maxHeartbeats 1000000 in
theorem tim_Sort (b cap n : Nat) (hs : List Ent) (w : World) (hrow : Hid (∃ cur, w.heap[b]? = some (.cells cur 55 (0, 0)) ∧ cur.toList.take n = hs.map ptrV)) (hl : Hid (hs.length = n)) (h0 : 0 < n) (hn : n < 8192) (hok : Hid (∀ e ∈ hs, EntOk w b e)) :
    Calls Try.prog 29 #[.slice (some ⟨b, 0, none⟩) n cap, .func (.func 30) #[] #[]] w (Sorted b hs w) := by
  have hin : 0 < hs.length := by rw [hl.out]; exact h0
  haveI : Inhabited {e : Ent // EntOk w b e} := ⟨⟨hs[0], hok.out _ (List.getElem_mem hin)⟩⟩
  obtain ⟨enc, henc⟩ : ∃ enc : {e : Ent // EntOk w b e} → Value, enc = fun x => ptrV x.1 := ⟨_, rfl⟩
  obtain ⟨cf, hcf⟩ : ∃ cf : {e : Ent // EntOk w b e} → {e : Ent // EntOk w b e} → Int, cf = fun p q => cfE p.1 q.1 := ⟨_, rfl⟩
  obtain ⟨L, hL⟩ : ∃ L : List {e : Ent // EntOk w b e}, L.map (·.1) = hs := ⟨hs.attachWith _ hok.out, by simp⟩
  have hLl : L.length = n := by rw [← hl.out, ← hL, List.length_map]
  have hO : SWO (ltOf cf) := by rw [hcf]; exact swo_ent w b
  have hcmp : CmpLays1 Try.prog 30 #[] enc cf b 0 L.toArray.size w := by
    intro m os dk _ x y
    have hx := x.2
    have hy := y.2
    rw [henc, hcf]
    exact tim_cmp x.1 y.1 _ (sort_cell _ w b m dk os hx.2.1 hx.1) (sort_cell _ w b m dk os hx.2.2 hx.1) (sort_cell _ w b m dk os hy.2.1 hy.1) (sort_cell _ w b m dk os hy.2.2 hy.1)
  have hH : Holds enc w b 0 L.toArray := by
    obtain ⟨cur, h1, h2⟩ := hrow.out
    intro j hj
    have hj2 : j < L.length := by simpa using hj
    rw [getBang L hj2, Nat.zero_add]
    refine ⟨?_, by simp [World.frozen?, h1]⟩
    rw [cell_of_row _ _ _ _ _ _ h1]
    have e1 : (cur.toList.take n)[j]? = cur.toList[j]? := by rw [List.getElem?_take, if_pos (by omega)]
    rw [h2, ← hL, List.getElem?_map, List.getElem?_map, List.getElem?_eq_getElem hj2] at e1
    rw [henc]
    simpa using e1.symm
  have hblk : b < w.heap.size := by
    obtain ⟨cur, h1, _⟩ := hrow.out
    exact (Array.getElem?_eq_some_iff.1 h1).1
  have hone : OneCell enc := fun x => by rw [henc]; rfl
  have eg : ∀ args w, (callFunc 30 args).run Try.prog w = .ok (.enter 30 args) w := enters_of Try.func30 (by kernel_rfl) rfl
  have hsz : L.toArray.size = n := by simpa using hLl
  have hlim : Lib.bitLen n < 4611686018427387904 := Nat.lt_of_le_of_lt (Lib.bitLen_le n 62 (by omega) (by omega)) (by omega)
  have hp0 := Any.pdqsortCmpFunc_all Try.pdqL enc cf 30 #[] hO b 0 cap L.toArray w eg hcmp ⟨hone, hH, hblk⟩ (n + 1) 0 n (Lib.bitLen n) L.toArray w (by omega) rfl (SW.start hH) (Nat.zero_le _) (by omega) (by omega) hlim (Or.inl rfl)
  have hs2 := pdq_sorts (ltOf cf) hO L.toArray 0 n (Lib.bitLen n) true true (Nat.zero_le _) (by omega) (Or.inl rfl)
  rw [hsz] at hp0
  have hp : Calls Try.prog 36 #[.slice (some ⟨b, 0, none⟩) n cap, .int .i64 0, .int .i64 (n : Int), .int .i64 (Lib.bitLen n : Nat), .func (.func 30) #[] #[]] w (Sorted b hs w) := by
    refine Calls.mono hp0 ?_
    rintro e w' ⟨rfl, m, os, rfl⟩
    obtain ⟨d', hd⟩ : ∃ d', d' = pdq (ltOf cf) L.toArray 0 n (Lib.bitLen n) true true := ⟨_, rfl⟩
    rw [← hd] at hs2 ⊢
    obtain ⟨⟨p1, _, p3⟩, p4⟩ := hs2
    have hdl : d'.toList.length = n := by rw [Array.length_toList, p1, hsz]
    refine ⟨rfl, d'.toList.map (·.1), ?_, ?_, fun j hj => ?_, only_sort _ _ _ _ _ _⟩
    · have e1 : d'.extract 0 n = d' := by rw [← hsz, ← p1]; simp
      have e2 : L.toArray.extract 0 n = L.toArray := by rw [← hsz]; simp
      rw [e1, e2] at p3
      have := p3.map (·.1)
      rwa [List.toList_toArray, hL] at this
    · rw [List.pairwise_map, List.pairwise_iff_getElem]
      intro i j hi hj hij
      have h1 := p4 i j (Nat.zero_le _) hij (by omega)
      rw [getElem!_pos _ j (by simpa using hj), getElem!_pos _ i (by simpa using hi)] at h1
      rw [hcf] at h1
      have h2 : ¬ ltE d'[j].1 d'[i].1 := by
        intro h
        rw [(ltOf_iff _ _).2 h] at h1
        cases h1
      simpa [leE] using h2
    · have hj2 : j < d'.size := by simpa using hj
      have h1 := holds_putRow enc (Go.Sort.ahead w m) b 0 L.toArray d' hH p1 j hj2
      unfold sortWorld
      rw [cell?_grow _ _ _ (by rw [size_putRow]; exact hblk)]
      have h2 := h1.1
      rw [Nat.zero_add, getElem!_pos _ j hj2] at h2
      rw [h2, henc]
      have h3 : gE (d'.toList.map (·.1)) j = d'[j].1 := by simp [gE, List.getD, hj2]
      rw [h3]
  have HP := Lib.hid hp
  have hb : Calls Try.prog 37 #[.int .u64 (n : Int)] w fun e w' => e = .returned (.int .i64 (Lib.bitLen n : Nat)) ∧ w' = w := by
    have h := Try.bits_Len (n : Int) w (by omega) (by omega)
    rwa [Int.toNat_natCast] at h
  have HB := Lib.hid hb
  have wr : IntKind.u64.wrap (n : Int) = n := by simp [IntKind.wrap, IntKind.bits, IntKind.signed]; omega
  clear hp hb hs2 hp0 hlim hsz eg hone hblk hH hcmp hO hLl hL hcf henc
  go_enter Try.func29, Try.ntmps29
  go_wp2_with fail
  refine HB.out.mono ?_
  rintro e w2 ⟨rfl, hw⟩
  subst hw
  go_wp2_with fail
  refine HP.out.mono ?_
  rintro e w2 ⟨rfl, hq⟩
  have HQ := Lib.hid hq
  clear hq
  go_wp2
  go_end0
  exact ⟨rfl, HQ.out⟩
set_option maxHeartbeats 1000000 in
theorem tim_Sort0 (B : Option Addr) (d : Nat) (w : World) :
    Calls Try.prog 29 #[.slice B 0 d, .func (.func 30) #[] #[]] w fun e w' => e = .returned (.tuple #[]) ∧ w = w' := by
  have hp := fun lim W => Lib.hid (AnyF.pdqsortCmpFunc_none { Try.pdqL with } B d lim (.func (.func 30) #[] #[]) W)
  have hb : Calls Try.prog 37 #[.int .u64 0] w fun e w' => e = .returned (.int .i64 (Lib.bitLen 0 : Nat)) ∧ w' = w := Try.bits_Len 0 w (by omega) (by omega)
  have HB := Lib.hid hb
  clear hb
  go_enter Try.func29, Try.ntmps29
  go_wp2_with fail
  refine HB.out.mono ?_
  rintro e w2 ⟨rfl, hw⟩
  subst hw
  go_wp2_with fail
  refine Calls.mono (hp _ _).out ?_
  rintro e w2 ⟨rfl, hw⟩
  subst hw
  go_wp2
  go_end0
  exact ⟨rfl, rfl⟩
end Go.Proofs.Ytkcggnfbmbfciaa
