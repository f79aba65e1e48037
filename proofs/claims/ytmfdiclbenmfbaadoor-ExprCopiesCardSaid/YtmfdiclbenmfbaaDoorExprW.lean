/- The writer: a builder inside another struct. -/
import Derived.Test.YtmfdiclbenmfbaaDoorExprA
import Derived.Lib.Builder
import Derived.Lib.AppendStr
import Derived.Lib.UnsafeStr
import Derived.Laws.Externs
import Derived.Defers
namespace Go.Proofs.YtmfdiclbenmfbaaDoor
open Go.RowKit
/-- The writer at b holds the bytes l; p: what its builder's first field holds. -/
structure WrAt (w : World) (B b : Nat) (p : Value) (A : Option Addr) (n c : Nat) (l : List UInt8) (v : Value) : Prop where
  ge : B ≤ b
  hb : w.heap[b]? = some (.cells #[p, v, .slice A n c] 56 (0, 0))
  own : w.ownsRow B 5 1 v l.length (Lib.byteCells l)
  ne : v.ownBlock ≠ some b
  nil_ : v = .slice none 0 0 ↔ l = []
abbrev selfP (b : Nat) : Value := .pointer (some ⟨b, 0, none⟩)
theorem WrAt.lt {w : World} {B b n c : Nat} {p v : Value} {A : Option Addr} {l : List UInt8} (h : WrAt w B b p A n c l v) : b < w.heap.size := (Array.getElem?_eq_some_iff.1 h.hb).1
theorem WrAt.cells {w : World} {B b n c : Nat} {p v : Value} {A : Option Addr} {l : List UInt8} (h : WrAt w B b p A n c l v) : w.cell? ⟨b, 0, none⟩ = some p ∧ w.cell? ⟨b, 1, none⟩ = some v ∧ w.cell? ⟨b, 2, none⟩ = some (.slice A n c) := by
  refine ⟨?_, ?_, ?_⟩ <;> (rw [cell_of_row _ _ _ _ _ _ h.hb]; rfl)
theorem WrAt.fro {w : World} {B b n c : Nat} {p v : Value} {A : Option Addr} {l : List UInt8} (h : WrAt w B b p A n c l v) (j : Nat) : w.frozen? ⟨b, j, none⟩ = false := by simp [World.frozen?, h.hb]
theorem WrAt.shape {w : World} {B b n c : Nat} {p v : Value} {A : Option Addr} {l : List UInt8} (h : WrAt w B b p A n c l v) : w.shape? b = some (56, 3) := by simp [World.shape?, h.hb]
theorem set_sameW {w : World} {g o t : Nat} {c : Array Value} {u : Value} (h : w.heap[g]? = some (.cells c t (0, 0))) : (w.setCell ⟨g, o, none⟩ u).heap[g]? = some (.cells (c.setIfInBounds o u) t (0, 0)) := by
  simp [World.setCell, Array.getElem?_modify, h]
theorem WrAt.used {w : World} {B b n c : Nat} {p v : Value} {A : Option Addr} {l : List UInt8} (h : WrAt w B b p A n c l v) (q : Value) : WrAt (w.setCell ⟨b, 0, none⟩ q) B b q A n c l v := by
  refine ⟨h.ge, ?_, ?_, h.ne, h.nil_⟩
  · rw [set_sameW h.hb]; rfl
  · exact h.own.kept (w' := w.setCell ⟨b, 0, none⟩ q) (row := some b) ⟨rfl, rfl, rfl, Nat.le_of_eq (by simp [World.setCell]), fun k _ hk => Below.heap_setCell _ _ _ _ (fun e => hk (by simp [e]))⟩ (.inr h.ne)
theorem WrAt.put {w : World} {B b n c : Nat} {p v v' : Value} {A : Option Addr} {l l' : List UInt8} (h : WrAt w B b p A n c l v) {w2 : World} (hg : w.grownBy w2 v.ownBlock) (hown : w2.ownsRow B 5 1 v' l'.length (Lib.byteCells l')) (hn : v' = .slice none 0 0 ↔ l' = []) :
    WrAt (w2.setCell ⟨b, 1, none⟩ v') B b p A n c l' v' := by
  have hb2 : w2.heap[b]? = some (.cells #[p, v, .slice A n c] 56 (0, 0)) := (hg.block b h.lt (fun e => h.ne e.symm)).trans h.hb
  have hne : v'.ownBlock ≠ some b := Lib.ownBlock_ne hown hb2 (by decide)
  refine ⟨h.ge, ?_, ?_, hne, hn⟩
  · rw [set_sameW hb2]; rfl
  · exact hown.kept (w' := w2.setCell ⟨b, 1, none⟩ v') (row := some b) ⟨rfl, rfl, rfl, Nat.le_of_eq (by simp [World.setCell]), fun k _ hk => Below.heap_setCell _ _ _ _ (fun e => hk (by simp [e]))⟩ (.inr hne)
theorem WrAt.alloc {w : World} {B b n c : Nat} {p v : Value} {A : Option Addr} {l : List UInt8} (h : WrAt w B b p A n c l v) (o : Obj) : WrAt (w.alloc o) B b p A n c l v :=
  ⟨h.ge, (heap_alloc_old w o h.lt).trans h.hb, h.own.alloc o, h.ne, h.nil_⟩
/-- What writing leaves as it was: all below B, and all but the writer and rows of bytes. -/
structure Wk (B b : Nat) (w w' : World) : Prop where
  below : Below B w w'
  keep : ∀ k, k < w.heap.size → k ≠ b → (∀ cs m, w.heap[k]? ≠ some (.cells cs 5 m)) → w'.heap[k]? = w.heap[k]?
theorem Wk.refl (B b : Nat) (w : World) : Wk B b w w := ⟨Below.refl _ _, fun _ _ _ _ => rfl⟩
theorem Wk.trans {B b : Nat} {w w1 w2 : World} (h : Wk B b w w1) (k : Wk B b w1 w2) : Wk B b w w2 :=
  ⟨h.below.trans k.below, fun i hi hb ht => by
    have e := h.keep i hi hb ht
    exact (k.keep i (Nat.lt_of_lt_of_le hi h.below.size) hb (by rw [e]; exact ht)).trans e⟩
theorem Wk.setCell {B b : Nat} {w w1 : World} (h : Wk B b w w1) (hB : B ≤ b) (j : Nat) (u : Value) : Wk B b w (w1.setCell ⟨b, j, none⟩ u) :=
  ⟨h.below.setCell (p := ⟨b, j, none⟩) hB u, fun i hi hb ht => (Below.heap_setCell _ _ _ _ (fun e => hb (by simp [e]))).trans (h.keep i hi hb ht)⟩
theorem Wk.alloc {B b : Nat} {w w1 : World} (h : Wk B b w w1) (hB : B ≤ w1.heap.size) (o : Obj) : Wk B b w (w1.alloc o) :=
  ⟨h.below.alloc hB o, fun i hi hb ht => (heap_alloc_old w1 o (Nat.lt_of_lt_of_le hi h.below.size)).trans (h.keep i hi hb ht)⟩
theorem Wk.grown {B b : Nat} {w w1 w2 : World} {v : Value} {n : Nat} {xs : List Value} (h : Wk B b w w1) (hB : B ≤ w1.heap.size) (ho : w1.ownsRow B 5 1 v n xs) (hg : w1.grownBy w2 v.ownBlock) : Wk B b w w2 := by
  refine ⟨h.below.grown hg hB (fun k hk => (ho.lt k hk).1), fun i hi hb ht => ?_⟩
  have e := h.keep i hi hb ht
  refine (hg.block i (Nat.lt_of_lt_of_le hi h.below.size) ?_).trans e
  intro hk
  rcases ho.2 with ⟨hv, _⟩ | ⟨g, cap, cur, hv, _, hgg, _⟩
  · rw [hv] at hk; cases hk
  · rw [hv] at hk
    simp only [Value.ownBlock, Option.some.injEq] at hk
    subst hk
    rw [e] at hgg
    exact ht _ _ hgg
theorem Wk.drewN {B b : Nat} {w w1 : World} (h : Wk B b w w1) (q : Nat) : Wk B b w (w1.drewN q) := ⟨below_drewN' h.below q, h.keep⟩
/-- A box of the walk's own. -/
theorem Wk.box {B b g : Nat} {w w' : World} {cs : Array Value} {t : TypeId} {m : Nat × Nat} (h : Wk B b w w') (hg : w.heap[g]? = some (.cells cs t m)) (hb : g ≠ b) (ht : t ≠ 5) : w'.heap[g]? = some (.cells cs t m) := by
  refine (h.keep g (Array.getElem?_eq_some_iff.1 hg).1 hb fun cs' m' e => ?_).trans hg
  rw [hg] at e
  injection e with e
  injection e with e1 e2
  exact ht e2
/-- What was written. -/
def WrP (B b : Nat) (A : Option Addr) (n c : Nat) (w : World) (l : List UInt8) (e : Ending) (w' : World) : Prop :=
  (∃ r, e = .returned r) ∧ (∃ v', Hid (WrAt w' B b (selfP b) A n c l v')) ∧ Hid (Wk B b w w')
theorem WrP.mk {B b : Nat} {A : Option Addr} {n c : Nat} {w : World} {l l' : List UInt8} {r v' : Value} {w' : World} (h : Hid (WrAt w' B b (selfP b) A n c l' v')) (hl : l = l') (hk : Hid (Wk B b w w')) : WrP B b A n c w l (.returned r) w' := ⟨⟨r, rfl⟩, ⟨v', by rw [hl]; exact h⟩, hk⟩
set_option maxRecDepth 100000 in
set_option maxHeartbeats 1000000 in
theorem wr_copyCheck (B b n c : Nat) (p v : Value) (A : Option Addr) (l : List UInt8) (w : World) (h : Hid (WrAt w B b p A n c l v)) (hp : p = .pointer none ∨ p = selfP b) :
    Calls Tryd.prog 66 #[.pointer (some ⟨b, 0, none⟩)] w fun e w' => e = .returned (.tuple #[]) ∧ WrAt w' B b (selfP b) A n c l v ∧ Wk B b w w' := by
  obtain ⟨c0, c1, c2⟩ := h.out.cells
  have f0 := h.out.fro 0
  have hsh := h.out.shape
  obtain ⟨j, hj, hjs⟩ := Option.map_eq_some_iff.1 (show (Tryd.prog.info? 54).map (·.size) = some 2 by kernel_rfl)
  rcases hp with rfl | rfl
  · have h1 := Lib.hid (h.out.used (selfP b))
    have hge := h.out.ge
    go_enter Tryd.func66, Tryd.ntmps66
    go_wp2
    rw [Lib.run_to_unsafe w ⟨b, 0, none⟩ Tryd.underlying51 Tryd.underlying101 hj (by rw [hjs]; decide) hsh (Nat.zero_lt_succ 2)]
    simp only [Result.andThen]
    rw [Oper.upon_value]
    go_wp2
    rw [run_callFunc_extern Tryd.func89 (by kernel_rfl) (by kernel_rfl) (by kernel_rfl) (e := Extern.AbiNoEscape.same) (by kernel_rfl)]
    rw [Lib.run_noEscape]
    simp only [Result.andThen]
    rw [Oper.upon_value]
    go_wp2
    rw [Lib.run_from_unsafe w ⟨b, 0, none⟩ Tryd.underlying101 Tryd.underlying51 hj hsh (by kernel_rfl)]
    simp only [Result.andThen]
    rw [Oper.upon_value]
    go_wp2
    go_end0
    exact ⟨rfl, h1.out, (Wk.refl B b w).setCell hge 0 _⟩
  · go_enter Tryd.func66, Tryd.ntmps66
    go_wp2
    rw [Lib.run_neq_ptr_same w _ Tryd.underlying51 hj]
    go_wp2
    go_end0
    exact ⟨rfl, h.out, Wk.refl _ _ _⟩
set_option maxRecDepth 100000 in
set_option maxHeartbeats 2000000 in
theorem wr_WriteString (B b n c : Nat) (p v : Value) (A : Option Addr) (l : List UInt8) (s : ByteArray) (w : World) (h : Hid (WrAt w B b p A n c l v)) (hp : p = .pointer none ∨ p = selfP b) (hB : B ≤ w.heap.size) (hlen : l.length + s.size ≤ 140737488355328) :
    Calls Tryd.prog 55 #[.pointer (some ⟨b, 0, none⟩), .string s] w (WrP B b A n c w (l ++ s.data.toList)) := by
  obtain ⟨i0, hi, hz0, hz1, hz2⟩ := info_parts (P := Tryd.prog) (e := 5) (z := .int .u8 0) (size := 1) (bytes := 1) (by kernel_rfl)
  have hge := h.out.ge
  go_enter Tryd.func55, Tryd.ntmps55
  go_wp2_with fail
  refine (wr_copyCheck B b n c p v A l w h hp).mono ?_
  rintro e w1 ⟨rfl, h1, hb1⟩
  obtain ⟨c0, c1, c2⟩ := h1.cells
  have H1 := Lib.hid h1
  have HB1 := Lib.hid hb1
  have hs1 := hb1.below.size
  clear h1 hb1
  go_wp2_with (at_builtin; refine Lib.wpList_append_own_string _ rfl _ _ 52 9 rfl B 5 i0 Tryd.underlying52 Tryd.underlying9 hi hz0 hz1 hz2 _ _ _ rfl H1.out.own s rfl ?c3 ?c4 ?c5 ?_)
  case c3 => unfold maxLen; omega
  case c4 => omega
  case c5 => omega
  intro v' w2 hown hgrow hn
  have e : s.data.toList.length = s.size := by simp
  have hown2 : w2.ownsRow B 5 1 v' (l ++ s.data.toList).length (Lib.byteCells (l ++ s.data.toList)) := by
    rw [List.length_append, Lib.byteCells_append, e]; exact hown
  have hn2 : v' = .slice none 0 0 ↔ l ++ s.data.toList = [] := by
    rw [hn, H1.out.nil_, List.append_eq_nil_iff]
    constructor
    · rintro ⟨h1, h2⟩; exact ⟨h1, by rw [h2]; rfl⟩
    · rintro ⟨h1, h2⟩; exact ⟨h1, ByteArray.ext (Array.ext' h2)⟩
  have HW2 := Lib.hid (H1.out.put hgrow hown2 hn2)
  have HB2 := Lib.hid ((HB1.out.grown (by omega) H1.out.own hgrow).setCell hge 1 v')
  have hbb : w2.heap[b]? = some (.cells #[selfP b, v, .slice A n c] 56 (0, 0)) := (hgrow.block b H1.out.lt (fun e => H1.out.ne e.symm)).trans H1.out.hb
  have d1 : w2.cell? ⟨b, 1, none⟩ = some v := by rw [cell_of_row _ _ _ _ _ _ hbb]; rfl
  have f1 : w2.frozen? ⟨b, 1, none⟩ = false := by simp [World.frozen?, hbb]
  obtain ⟨ao, n', cap, rfl⟩ : ∃ ao n' cap, v' = .slice ao n' cap := by
    rcases hown.2 with ⟨hv, _⟩ | ⟨g, cap, cur, hv, _⟩
    · exact ⟨_, _, _, hv⟩
    · exact ⟨_, _, _, hv⟩
  clear hown hgrow hn hown2 hn2 hbb e
  go_wp2
  go_ret2
  exact WrP.mk HW2 rfl HB2
set_option maxRecDepth 100000 in
set_option maxHeartbeats 2000000 in
theorem wr_WriteString_d (B b n c : Nat) (p v : Value) (A : Option Addr) (l : List UInt8) (s : ByteArray) (w : World) (h : Hid (WrAt w B b p A n c l v)) (u : FrameMode) (hp : p = .pointer none ∨ p = selfP b) (hB : B ≤ w.heap.size) (hlen : l.length + s.size ≤ 140737488355328) :
    CallsD Tryd.prog 55 #[.pointer (some ⟨b, 0, none⟩), .string s] u w fun e u' w' => u' = u ∧ WrP B b A n c w (l ++ s.data.toList) e w' := by
  obtain ⟨i0, hi, hz0, hz1, hz2⟩ := info_parts (P := Tryd.prog) (e := 5) (z := .int .u8 0) (size := 1) (bytes := 1) (by kernel_rfl)
  have hge := h.out.ge
  go_enter_d Tryd.func55, Tryd.ntmps55
  go_wp2_with fail
  refine (wr_copyCheck B b n c p v A l w h hp).mono ?_
  rintro e w1 ⟨rfl, h1, hb1⟩
  obtain ⟨c0, c1, c2⟩ := h1.cells
  have H1 := Lib.hid h1
  have HB1 := Lib.hid hb1
  have hs1 := hb1.below.size
  clear h1 hb1
  go_wp2_with (at_builtin; refine Lib.wpList_append_own_string _ rfl _ _ 52 9 rfl B 5 i0 Tryd.underlying52 Tryd.underlying9 hi hz0 hz1 hz2 _ _ _ rfl H1.out.own s rfl ?c3 ?c4 ?c5 ?_)
  case c3 => unfold maxLen; omega
  case c4 => omega
  case c5 => omega
  intro v' w2 hown hgrow hn
  have e : s.data.toList.length = s.size := by simp
  have hown2 : w2.ownsRow B 5 1 v' (l ++ s.data.toList).length (Lib.byteCells (l ++ s.data.toList)) := by
    rw [List.length_append, Lib.byteCells_append, e]; exact hown
  have hn2 : v' = .slice none 0 0 ↔ l ++ s.data.toList = [] := by
    rw [hn, H1.out.nil_, List.append_eq_nil_iff]
    constructor
    · rintro ⟨h1, h2⟩; exact ⟨h1, by rw [h2]; rfl⟩
    · rintro ⟨h1, h2⟩; exact ⟨h1, ByteArray.ext (Array.ext' h2)⟩
  have HW2 := Lib.hid (H1.out.put hgrow hown2 hn2)
  have HB2 := Lib.hid ((HB1.out.grown (by omega) H1.out.own hgrow).setCell hge 1 v')
  have hbb : w2.heap[b]? = some (.cells #[selfP b, v, .slice A n c] 56 (0, 0)) := (hgrow.block b H1.out.lt (fun e => H1.out.ne e.symm)).trans H1.out.hb
  have d1 : w2.cell? ⟨b, 1, none⟩ = some v := by rw [cell_of_row _ _ _ _ _ _ hbb]; rfl
  have f1 : w2.frozen? ⟨b, 1, none⟩ = false := by simp [World.frozen?, hbb]
  obtain ⟨ao, n', cap, rfl⟩ : ∃ ao n' cap, v' = .slice ao n' cap := by
    rcases hown.2 with ⟨hv, _⟩ | ⟨g, cap, cur, hv, _⟩
    · exact ⟨_, _, _, hv⟩
    · exact ⟨_, _, _, hv⟩
  clear hown hgrow hn hown2 hn2 hbb e
  go_wp2
  go_ret2
  exact WrP.mk HW2 rfl HB2
set_option maxRecDepth 100000 in
set_option maxHeartbeats 2000000 in
theorem wr_String (B b n c : Nat) (p v : Value) (A : Option Addr) (l : List UInt8) (w : World) (h : Hid (WrAt w B b p A n c l v)) :
    Calls Tryd.prog 36 #[.pointer (some ⟨b, 0, none⟩)] w fun e w' => e = .returned (.string ⟨l.toArray⟩) ∧ Below B w w' := by
  have c1 : w.drew.cell? ⟨b, 1, none⟩ = some v := h.out.cells.2.1
  by_cases h0 : l = []
  · subst h0
    have hv := h.out.nil_.2 rfl
    subst hv
    have hUS : ∀ q W, (Builtin.unsafeString_ #[76, 3] 9 #[.pointer q, .int .i64 0]).run Tryd.prog W = .ok (.string .empty) W := fun q W => Lib.run_unsafeString_none W _ _ _ q
    have hSD : (Builtin.unsafeSliceData_ #[52] 76 #[.slice none 0 0]).run Tryd.prog w.drew = .ok (.pointer none) w.drew := rfl
    go_enter Tryd.func36, Tryd.ntmps36
    go_wp2
    go_region
    all_goals (go_wp2; go_ret; exact ⟨rfl, (Below.refl B w).drew⟩)
  · have hl0 : l.length ≠ 0 := by simpa using h0
    obtain ⟨g, cap, cur, rfl, hbg, hg, hnc, hcm, hcs, htake⟩ : ∃ g cap cur, v = .slice (some ⟨g, 0, none⟩) l.length cap ∧ B ≤ g ∧ w.heap[g]? = some (.cells cur 5 (0, 0)) ∧ l.length ≤ cap ∧ cap ≤ maxLen ∧ cur.size = cap * 1 ∧ cur.toList.take (l.length * 1) = Lib.byteCells l := by
      rcases h.out.own.2 with ⟨_, hz⟩ | ⟨g, cap, cur, hv, r⟩
      · exact absurd hz hl0
      · exact ⟨g, cap, cur, hv, r⟩
    have hSD : (Builtin.unsafeSliceData_ #[52] 76 #[.slice (some ⟨g, 0, none⟩) l.length cap]).run Tryd.prog w.drew = .ok (.pointer (some ⟨g, 0, none⟩)) w.drew := Lib.run_unsafeSliceData_row _ _ _ _ _ _ (by omega)
    have hUS : (Builtin.unsafeString_ #[76, 3] 9 #[.pointer (some ⟨g, 0, none⟩), .int .i64 l.length]).run Tryd.prog w.drew = .ok (.string ⟨l.toArray⟩) (w.drew.freeze ⟨g, 0, none⟩ l.length) := by
      refine Lib.run_unsafeString_row w.drew 76 3 9 5 Tryd.underlying76 (by kernel_rfl) g cur.size (by have hg' : w.drew.heap[g]? = some (.cells cur 5 (0, 0)) := hg; simp [World.shape?, hg']) l h0 (by omega) (by unfold maxLen at hcm; omega) ?_
      intro j x hx
      have := h.out.own.cells (g := g) rfl j (.int .u8 x.toNat) (by simp [Lib.byteCells, hx])
      exact this
    go_enter Tryd.func36, Tryd.ntmps36
    go_wp2
    go_region
    all_goals (go_wp2; go_ret; exact ⟨rfl, Lib.below_freeze (Below.drew (Below.refl B w)) (p := ⟨g, 0, none⟩) hbg _⟩)
end Go.Proofs.YtmfdiclbenmfbaaDoor
