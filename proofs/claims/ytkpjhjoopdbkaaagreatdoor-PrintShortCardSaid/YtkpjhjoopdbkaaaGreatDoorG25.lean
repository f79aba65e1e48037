/- Joined: Package parse: Text. Printed by gen_pbN.py. The writer: a builder inside another struct. Plain: Text. The writer's kid, the program's. -/
import Derived.Test.YtkpjhjoopdbkaaaGreatDoorG23
import Derived.Test.YtkpjhjoopdbkaaaGreatDoorG24
import Derived.Test.YtkpjhjoopdbkaaaGreatDoorG02
import Derived.Lib.Builder
import Derived.Lib.AppendStr
import Derived.Lib.UnsafeStr
import Derived.Laws.Externs
import Derived.Defers
import Derived.Test.YtkpjhjoopdbkaaaGreatDoorG03
import Derived.Lib.ItoaNum
import Derived.Deep.DeepCutAuto
import Derived.RegionTactic
namespace Go.Proofs.YtkpjhjoopdbkaaaGreatDoor
open Go.RowKit
theorem lexO_texts : ∀ (f k : Nat) (r : List UInt8) (t : Tok), t ∈ (lexO f k r).1 → t.text.size ≤ r.length := by
  intro f
  induction f with
  | zero => intro k r t h; simp [lexO] at h
  | succ f ih =>
    intro k r t h
    have hl := skipC_len2 r
    rcases hq : skipC false r with _ | ⟨c, q⟩
    · rw [lexO_nil hq] at h; simp at h
    · rw [hq] at hl
      by_cases he : nxE (c :: q) = 0
      · rw [lexO_step hq (by simp) he] at h
        rcases glue1_cases (stepTok k r (c :: q)) (lexO f (k + (r.length - (c :: q).length) + nxN (c :: q)) ((c :: q).drop (nxN (c :: q)))) with ⟨_, h2⟩ | ⟨_, h2⟩
        · rw [h2] at h
          rcases List.mem_cons.1 h with rfl | h
          · have e : (stepTok k r (c :: q)).text.size = ((c :: q).take (nxN (c :: q))).length := by unfold stepTok; simp [ByteArray.size]
            rw [e, List.length_take]
            omega
          · have := ih _ _ _ h
            rw [List.length_drop] at this
            omega
        · rw [h2] at h; simp at h
      · rw [lexO_bad hq (by simp) he] at h; simp at h
theorem lex_small (l : List UInt8) : TokS (lexR l).1 := by
  by_cases h : 16384 < l.length
  · have e : lexR l = ([], 0, 2) := by unfold lexR; rw [if_pos h]
    rw [e]
    exact ⟨by simp, fun t ht => by simp at ht⟩
  · rw [lexR_O l (by omega)]
    have a := lexO_at (l.length + 1) 0 l (by omega)
    refine ⟨?_, fun t ht => ?_⟩
    · have := a.2.2.1; omega
    · have := lexO_texts _ _ _ t ht; omega
/-- What Text tells. -/
def textAll (s : ByteArray) : Nt × Int × Int := if (lexR s.data.toList).2.2 = 0 then netAll (lexR s.data.toList).1 ((lexR s.data.toList).2.1 : Int) else (Nt.zero, ((lexR s.data.toList).2.1 : Int), (lexR s.data.toList).2.2)
set_option maxRecDepth 100000 in
set_option maxHeartbeats 8000000 in
theorem pa_Text (s : ByteArray) (w : World) (ht : Hid (TabOk w)) (hs : s.size ≤ 9223372036854775805) : Calls Tryz.prog 12 #[.string s] w (NetAns (textAll s) w) := by
  have HTS := Lib.hid (lex_small s.data.toList)
  have HAL := Lib.hid (show textAll s = if (lexR s.data.toList).2.2 = 0 then netAll (lexR s.data.toList).1 ((lexR s.data.toList).2.1 : Int) else (Nt.zero, ((lexR s.data.toList).2.1 : Int), (lexR s.data.toList).2.2) from rfl)
  obtain ⟨w1, hw1⟩ : ∃ y, y = w.alloc (.cells #[.slice none 0 0, .slice none 0 0, .slice none 0 0, .int .i64 0, .int .i64 0] 39) := ⟨_, rfl⟩
  have HB1 := Lib.hid (show Below w.heap.size w w1 by rw [hw1]; exact alrB w _)
  have R1 := Lib.hid (show w1.heap[w.heap.size]? = some (.cells #[.slice none 0 0, .slice none 0 0, .slice none 0 0, .int .i64 0, .int .i64 0] 39 (0, 0)) by rw [hw1]; exact heap_alloc_new w _)
  have CL := Lib.hid (tok_Lex s w1 hs)
  obtain ⟨L, hL⟩ : ∃ y, y = lexR s.data.toList := ⟨_, rfl⟩
  rw [← hL] at CL HAL HTS
  obtain ⟨ts, en, er⟩ := L
  obtain ⟨Z, hZ⟩ : ∃ y, y = textAll s := ⟨_, rfl⟩
  rw [← hZ] at HAL ⊢
  have HW := Lib.hid hw1.symm
  obtain ⟨gr, hgr⟩ : ∃ y, y = w.heap.size := ⟨_, rfl⟩
  have HG := Lib.hid hgr.symm
  rw [← hgr] at R1
  have HSZ := Lib.hid (show w1.heap.size = gr + 1 by rw [hw1, World.size_alloc, hgr])
  clear hL hZ hw1 hgr
  go_enter Tryz.func12, Tryz.ntmps12
  go_upto_region 1 with fail
  rw [HW.out, HG.out]
  go_wp2_with fail
  refine CL.out.mono ?_
  rintro e w2 ⟨v, rfl, hS, hB⟩
  obtain ⟨A2, c2, rfl, _, _, hS2⟩ := hS.form
  have HS2 := Lib.hid hS2
  have HB2 := Lib.hid hB
  have R2 := Lib.hid (row_below R1.out hB)
  clear hS hS2 hB CL
  by_cases he : er = 0
  · have z1 : (er != 0) = false := by simpa using he
    have HZ := Lib.hid (show Z = netAll ts (en : Int) from HAL.out.trans (if_pos he))
    have CN := Lib.hid (pa_Net (T := ts) (en := (en : Int)) (A := A2) (c := c2) w2 HTS (Lib.hid (ht.out.below (HB1.out.trans (HB2.out.mono (by have := HSZ.out; have := HG.out; omega))))) HS2)
    obtain ⟨NA, hNA⟩ : ∃ y, y = netAll ts (en : Int) := ⟨_, rfl⟩
    rw [← hNA] at HZ CN
    clear he hNA
    go_wp2_with fail
    refine CN.out.mono ?_
    rintro e w3 ⟨A3, n3, c3, A4, n4, c4, A5, n5, c5, rfl, hN, hB⟩
    have HN := Lib.hid hN
    have R9 := row_below R2.out hB
    have HR9 := Lib.hid R9
    have HB3 := Lib.hid hB
    clear hN hB
    have d0 := row_cell R9 0 _ rfl
    have f0 := frozen_row (o := 0) R9
    have d1 := row_cell R9 1 _ rfl
    have f1 := frozen_row (o := 1) R9
    have d2 := row_cell R9 2 _ rfl
    have f2 := frozen_row (o := 2) R9
    have d3 := row_cell R9 3 _ rfl
    have f3 := frozen_row (o := 3) R9
    have d4 := row_cell R9 4 _ rfl
    have f4 := frozen_row (o := 4) R9
    clear R9
    go_wp2
    refine bodyPost_ret (res_Text (row_put5 HR9.out _ _ _ _ _) rfl rfl rfl) rfl ?_
    rw [HZ.out]
    have hg := HG.out
    have hz := HSZ.out
    have h2 := HB2.out.size
    have h3 := HB3.out.size
    have hp := ag_put5 (H := only gr) (AgH.refl _ w3) (.inl rfl) (.slice A3 n3 c3) (.slice A4 n4 c4) (.slice A5 n5 c5) (.int .i64 NA.1.from_) (.int .i64 NA.1.to_)
    refine ⟨A3, n3, c3, A4, n4, c4, A5, n5, c5, rfl, ?_, ?_⟩
    · exact HN.out.keep hp (fun i _ e => by have e2 : i = gr := e; show i < w2.heap.size; omega) |>.mono fun i _ e => by have e2 : i < w.heap.size := e; show i < w2.heap.size; omega
    · have h1 : AgH (only gr) w w3 := ((AgH.of_below HB1.out).trans (AgH.of_below HB2.out)).trans (AgH.of_below HB3.out)
      exact (h1.trans hp).below (Nat.le_refl _) fun i hi e => by have e2 : i = gr := e; omega
  · have z1 : (er != 0) = true := by simpa using he
    have HZ := Lib.hid (show Z = (Nt.zero, (en : Int), er) from HAL.out.trans (if_neg he))
    have R9 := R2.out
    have HR9 := Lib.hid R9
    clear he
    have d0 := row_cell R9 0 _ rfl
    have f0 := frozen_row (o := 0) R9
    have d1 := row_cell R9 1 _ rfl
    have f1 := frozen_row (o := 1) R9
    have d2 := row_cell R9 2 _ rfl
    have f2 := frozen_row (o := 2) R9
    have d3 := row_cell R9 3 _ rfl
    have f3 := frozen_row (o := 3) R9
    have d4 := row_cell R9 4 _ rfl
    have f4 := frozen_row (o := 4) R9
    clear R9
    go_wp2
    refine bodyPost_ret (res_Text (row_put5 HR9.out _ _ _ _ _) rfl rfl rfl) rfl ?_
    rw [HZ.out]
    refine ⟨none, 0, 0, none, 0, 0, none, 0, 0, rfl, fun W _ => NetAt.zero W, ?_⟩
    have h1 : AgH (only gr) w w2 := (AgH.of_below HB1.out).trans (AgH.of_below HB2.out)
    exact (ag_put5 h1 (.inl rfl) _ _ _ _ _).below (Nat.le_refl _) fun i hi e => by have := HG.out; have e2 : i = gr := e; omega
end Go.Proofs.YtkpjhjoopdbkaaaGreatDoor
namespace Go.Proofs.YtkpjhjoopdbkaaaGreatDoor
open Go.RowKit
/-- The writer at b holds the bytes l; p: what its builder's first field holds. -/
structure WrAt (w : World) (B b : Nat) (p : Value) (A : Option Addr) (n c : Nat) (l : List UInt8) (v : Value) : Prop where
  ge : B ≤ b
  hb : w.heap[b]? = some (.cells #[p, v, .slice A n c] 92 (0, 0))
  own : w.ownsRow B 5 1 v l.length (Lib.byteCells l)
  ne : v.ownBlock ≠ some b
  nil_ : v = .slice none 0 0 ↔ l = []
abbrev selfP (b : Nat) : Value := .pointer (some ⟨b, 0, none⟩)
theorem WrAt.lt {w : World} {B b n c : Nat} {p v : Value} {A : Option Addr} {l : List UInt8} (h : WrAt w B b p A n c l v) : b < w.heap.size := (Array.getElem?_eq_some_iff.1 h.hb).1
theorem WrAt.cells {w : World} {B b n c : Nat} {p v : Value} {A : Option Addr} {l : List UInt8} (h : WrAt w B b p A n c l v) : w.cell? ⟨b, 0, none⟩ = some p ∧ w.cell? ⟨b, 1, none⟩ = some v ∧ w.cell? ⟨b, 2, none⟩ = some (.slice A n c) := by
  refine ⟨?_, ?_, ?_⟩ <;> (rw [cell_of_row _ _ _ _ _ _ h.hb]; rfl)
theorem WrAt.fro {w : World} {B b n c : Nat} {p v : Value} {A : Option Addr} {l : List UInt8} (h : WrAt w B b p A n c l v) (j : Nat) : w.frozen? ⟨b, j, none⟩ = false := by simp [World.frozen?, h.hb]
theorem WrAt.shape {w : World} {B b n c : Nat} {p v : Value} {A : Option Addr} {l : List UInt8} (h : WrAt w B b p A n c l v) : w.shape? b = some (92, 3) := by simp [World.shape?, h.hb]
theorem set_sameW {w : World} {g o t : Nat} {c : Array Value} {u : Value} (h : w.heap[g]? = some (.cells c t (0, 0))) : (w.setCell ⟨g, o, none⟩ u).heap[g]? = some (.cells (c.setIfInBounds o u) t (0, 0)) := by
  simp [World.setCell, Array.getElem?_modify, h]
theorem WrAt.used {w : World} {B b n c : Nat} {p v : Value} {A : Option Addr} {l : List UInt8} (h : WrAt w B b p A n c l v) (q : Value) : WrAt (w.setCell ⟨b, 0, none⟩ q) B b q A n c l v := by
  refine ⟨h.ge, ?_, ?_, h.ne, h.nil_⟩
  · rw [set_sameW h.hb]; rfl
  · exact h.own.kept (w' := w.setCell ⟨b, 0, none⟩ q) (row := some b) ⟨rfl, rfl, rfl, Nat.le_of_eq (by simp [World.setCell]), fun k _ hk => Below.heap_setCell _ _ _ _ (fun e => hk (by simp [e]))⟩ (.inr h.ne)
theorem WrAt.put {w : World} {B b n c : Nat} {p v v' : Value} {A : Option Addr} {l l' : List UInt8} (h : WrAt w B b p A n c l v) {w2 : World} (hg : w.grownBy w2 v.ownBlock) (hown : w2.ownsRow B 5 1 v' l'.length (Lib.byteCells l')) (hn : v' = .slice none 0 0 ↔ l' = []) :
    WrAt (w2.setCell ⟨b, 1, none⟩ v') B b p A n c l' v' := by
  have hb2 : w2.heap[b]? = some (.cells #[p, v, .slice A n c] 92 (0, 0)) := (hg.block b h.lt (fun e => h.ne e.symm)).trans h.hb
  have hne : v'.ownBlock ≠ some b := Lib.ownBlock_ne hown hb2 (by decide)
  refine ⟨h.ge, ?_, ?_, hne, hn⟩
  · rw [set_sameW hb2]; rfl
  · exact hown.kept (w' := w2.setCell ⟨b, 1, none⟩ v') (row := some b) ⟨rfl, rfl, rfl, Nat.le_of_eq (by simp [World.setCell]), fun k _ hk => Below.heap_setCell _ _ _ _ (fun e => hk (by simp [e]))⟩ (.inr hne)
theorem WrAt.alloc {w : World} {B b n c : Nat} {p v : Value} {A : Option Addr} {l : List UInt8} (h : WrAt w B b p A n c l v) (o : Obj) : WrAt (w.alloc o) B b p A n c l v :=
  ⟨h.ge, (heap_alloc_old w o h.lt).trans h.hb, h.own.alloc o, h.ne, h.nil_⟩
/-- What writing leaves as it was: all below B, and all but the writer and rows of bytes. -/
structure Wk (B b : Nat) (w w' : World) : Prop where
  below : Below B w w'
  keep : ∀ k, k < w.heap.size → k ≠ b → (∀ cs m, w.heap[k]? ≠ some (.cells cs 5 m)) → w'.heap[k]? = w.heap[k]?
theorem Wk.refl (B b : Nat) (w : World) : Wk B b w w := ⟨Below.refl _ _, fun _ _ _ _ => rfl⟩
theorem Wk.trans {B b : Nat} {w w1 w2 : World} (h : Wk B b w w1) (k : Wk B b w1 w2) : Wk B b w w2 :=
  ⟨h.below.trans k.below, fun i hi hb ht => by
    have e := h.keep i hi hb ht
    exact (k.keep i (Nat.lt_of_lt_of_le hi h.below.size) hb (by rw [e]; exact ht)).trans e⟩
theorem Wk.setCell {B b : Nat} {w w1 : World} (h : Wk B b w w1) (hB : B ≤ b) (j : Nat) (u : Value) : Wk B b w (w1.setCell ⟨b, j, none⟩ u) :=
  ⟨h.below.setCell (p := ⟨b, j, none⟩) hB u, fun i hi hb ht => (Below.heap_setCell _ _ _ _ (fun e => hb (by simp [e]))).trans (h.keep i hi hb ht)⟩
theorem Wk.alloc {B b : Nat} {w w1 : World} (h : Wk B b w w1) (hB : B ≤ w1.heap.size) (o : Obj) : Wk B b w (w1.alloc o) :=
  ⟨h.below.alloc hB o, fun i hi hb ht => (heap_alloc_old w1 o (Nat.lt_of_lt_of_le hi h.below.size)).trans (h.keep i hi hb ht)⟩
theorem Wk.grown {B b : Nat} {w w1 w2 : World} {v : Value} {n : Nat} {xs : List Value} (h : Wk B b w w1) (hB : B ≤ w1.heap.size) (ho : w1.ownsRow B 5 1 v n xs) (hg : w1.grownBy w2 v.ownBlock) : Wk B b w w2 := by
  refine ⟨h.below.grown hg hB (fun k hk => (ho.lt k hk).1), fun i hi hb ht => ?_⟩
  have e := h.keep i hi hb ht
  refine (hg.block i (Nat.lt_of_lt_of_le hi h.below.size) ?_).trans e
  intro hk
  rcases ho.2 with ⟨hv, _⟩ | ⟨g, cap, cur, hv, _, hgg, _⟩
  · rw [hv] at hk; cases hk
  · rw [hv] at hk
    simp only [Value.ownBlock, Option.some.injEq] at hk
    subst hk
    rw [e] at hgg
    exact ht _ _ hgg
theorem Wk.drewN {B b : Nat} {w w1 : World} (h : Wk B b w w1) (q : Nat) : Wk B b w (w1.drewN q) := ⟨below_drewN' h.below q, h.keep⟩
/-- A box of the walk's own. -/
theorem Wk.box {B b g : Nat} {w w' : World} {cs : Array Value} {t : TypeId} {m : Nat × Nat} (h : Wk B b w w') (hg : w.heap[g]? = some (.cells cs t m)) (hb : g ≠ b) (ht : t ≠ 5) : w'.heap[g]? = some (.cells cs t m) := by
  refine (h.keep g (Array.getElem?_eq_some_iff.1 hg).1 hb fun cs' m' e => ?_).trans hg
  rw [hg] at e
  injection e with e
  injection e with e1 e2
  exact ht e2
/-- What was written. -/
def WrP (B b : Nat) (A : Option Addr) (n c : Nat) (w : World) (l : List UInt8) (e : Ending) (w' : World) : Prop :=
  (∃ r, e = .returned r) ∧ (∃ v', Hid (WrAt w' B b (selfP b) A n c l v')) ∧ Hid (Wk B b w w')
theorem WrP.mk {B b : Nat} {A : Option Addr} {n c : Nat} {w : World} {l l' : List UInt8} {r v' : Value} {w' : World} (h : Hid (WrAt w' B b (selfP b) A n c l' v')) (hl : l = l') (hk : Hid (Wk B b w w')) : WrP B b A n c w l (.returned r) w' := ⟨⟨r, rfl⟩, ⟨v', by rw [hl]; exact h⟩, hk⟩
set_option maxRecDepth 100000 in
set_option maxHeartbeats 1000000 in
theorem wr_copyCheck (B b n c : Nat) (p v : Value) (A : Option Addr) (l : List UInt8) (w : World) (h : Hid (WrAt w B b p A n c l v)) (hp : p = .pointer none ∨ p = selfP b) :
    Calls Tryz.prog 101 #[.pointer (some ⟨b, 0, none⟩)] w fun e w' => e = .returned (.tuple #[]) ∧ WrAt w' B b (selfP b) A n c l v ∧ Wk B b w w' := by
  obtain ⟨c0, c1, c2⟩ := h.out.cells
  have f0 := h.out.fro 0
  have hsh := h.out.shape
  obtain ⟨j, hj, hjs⟩ := Option.map_eq_some_iff.1 (show (Tryz.prog.info? 90).map (·.size) = some 2 by kernel_rfl)
  rcases hp with rfl | rfl
  · have h1 := Lib.hid (h.out.used (selfP b))
    have hge := h.out.ge
    go_enter Tryz.func101, Tryz.ntmps101
    go_wp2
    rw [Lib.run_to_unsafe w ⟨b, 0, none⟩ Tryz.underlying87 Tryz.underlying185 hj (by rw [hjs]; decide) hsh (Nat.zero_lt_succ 2)]
    simp only [Result.andThen]
    rw [Oper.upon_value]
    go_wp2
    rw [run_callFunc_extern Tryz.func155 (by kernel_rfl) (by kernel_rfl) (by kernel_rfl) (e := Extern.AbiNoEscape.same) (by kernel_rfl)]
    rw [Lib.run_noEscape]
    simp only [Result.andThen]
    rw [Oper.upon_value]
    go_wp2
    rw [Lib.run_from_unsafe w ⟨b, 0, none⟩ Tryz.underlying185 Tryz.underlying87 hj hsh (by kernel_rfl)]
    simp only [Result.andThen]
    rw [Oper.upon_value]
    go_wp2
    go_end0
    exact ⟨rfl, h1.out, (Wk.refl B b w).setCell hge 0 _⟩
  · go_enter Tryz.func101, Tryz.ntmps101
    go_wp2
    rw [Lib.run_neq_ptr_same w _ Tryz.underlying87 hj]
    go_wp2
    go_end0
    exact ⟨rfl, h.out, Wk.refl _ _ _⟩
set_option maxRecDepth 100000 in
set_option maxHeartbeats 2000000 in
theorem wr_WriteString (B b n c : Nat) (p v : Value) (A : Option Addr) (l : List UInt8) (s : ByteArray) (w : World) (h : Hid (WrAt w B b p A n c l v)) (hp : p = .pointer none ∨ p = selfP b) (hB : B ≤ w.heap.size) (hlen : l.length + s.size ≤ 140737488355328) :
    Calls Tryz.prog 47 #[.pointer (some ⟨b, 0, none⟩), .string s] w (WrP B b A n c w (l ++ s.data.toList)) := by
  obtain ⟨i0, hi, hz0, hz1, hz2⟩ := info_parts (P := Tryz.prog) (e := 5) (z := .int .u8 0) (size := 1) (bytes := 1) (by kernel_rfl)
  have hge := h.out.ge
  go_enter Tryz.func47, Tryz.ntmps47
  go_wp2_with fail
  refine (wr_copyCheck B b n c p v A l w h hp).mono ?_
  rintro e w1 ⟨rfl, h1, hb1⟩
  obtain ⟨c0, c1, c2⟩ := h1.cells
  have H1 := Lib.hid h1
  have HB1 := Lib.hid hb1
  have hs1 := hb1.below.size
  clear h1 hb1
  go_wp2_with (at_builtin; refine Lib.wpList_append_own_string _ rfl _ _ 88 9 rfl B 5 i0 Tryz.underlying88 Tryz.underlying9 hi hz0 hz1 hz2 _ _ _ rfl H1.out.own s rfl ?c3 ?c4 ?c5 ?_)
  case c3 => unfold maxLen; omega
  case c4 => omega
  case c5 => omega
  intro v' w2 hown hgrow hn
  have e : s.data.toList.length = s.size := by simp
  have hown2 : w2.ownsRow B 5 1 v' (l ++ s.data.toList).length (Lib.byteCells (l ++ s.data.toList)) := by
    rw [List.length_append, Lib.byteCells_append, e]; exact hown
  have hn2 : v' = .slice none 0 0 ↔ l ++ s.data.toList = [] := by
    rw [hn, H1.out.nil_, List.append_eq_nil_iff]
    constructor
    · rintro ⟨h1, h2⟩; exact ⟨h1, by rw [h2]; rfl⟩
    · rintro ⟨h1, h2⟩; exact ⟨h1, ByteArray.ext (Array.ext' h2)⟩
  have HW2 := Lib.hid (H1.out.put hgrow hown2 hn2)
  have HB2 := Lib.hid ((HB1.out.grown (by omega) H1.out.own hgrow).setCell hge 1 v')
  have hbb : w2.heap[b]? = some (.cells #[selfP b, v, .slice A n c] 92 (0, 0)) := (hgrow.block b H1.out.lt (fun e => H1.out.ne e.symm)).trans H1.out.hb
  have d1 : w2.cell? ⟨b, 1, none⟩ = some v := by rw [cell_of_row _ _ _ _ _ _ hbb]; rfl
  have f1 : w2.frozen? ⟨b, 1, none⟩ = false := by simp [World.frozen?, hbb]
  obtain ⟨ao, n', cap, rfl⟩ : ∃ ao n' cap, v' = .slice ao n' cap := by
    rcases hown.2 with ⟨hv, _⟩ | ⟨g, cap, cur, hv, _⟩
    · exact ⟨_, _, _, hv⟩
    · exact ⟨_, _, _, hv⟩
  clear hown hgrow hn hown2 hn2 hbb e
  go_wp2
  go_ret2
  exact WrP.mk HW2 rfl HB2
set_option maxRecDepth 100000 in
set_option maxHeartbeats 2000000 in
theorem wr_WriteString_d (B b n c : Nat) (p v : Value) (A : Option Addr) (l : List UInt8) (s : ByteArray) (w : World) (h : Hid (WrAt w B b p A n c l v)) (u : FrameMode) (hp : p = .pointer none ∨ p = selfP b) (hB : B ≤ w.heap.size) (hlen : l.length + s.size ≤ 140737488355328) :
    CallsD Tryz.prog 47 #[.pointer (some ⟨b, 0, none⟩), .string s] u w fun e u' w' => u' = u ∧ WrP B b A n c w (l ++ s.data.toList) e w' := by
  obtain ⟨i0, hi, hz0, hz1, hz2⟩ := info_parts (P := Tryz.prog) (e := 5) (z := .int .u8 0) (size := 1) (bytes := 1) (by kernel_rfl)
  have hge := h.out.ge
  go_enter_d Tryz.func47, Tryz.ntmps47
  go_wp2_with fail
  refine (wr_copyCheck B b n c p v A l w h hp).mono ?_
  rintro e w1 ⟨rfl, h1, hb1⟩
  obtain ⟨c0, c1, c2⟩ := h1.cells
  have H1 := Lib.hid h1
  have HB1 := Lib.hid hb1
  have hs1 := hb1.below.size
  clear h1 hb1
  go_wp2_with (at_builtin; refine Lib.wpList_append_own_string _ rfl _ _ 88 9 rfl B 5 i0 Tryz.underlying88 Tryz.underlying9 hi hz0 hz1 hz2 _ _ _ rfl H1.out.own s rfl ?c3 ?c4 ?c5 ?_)
  case c3 => unfold maxLen; omega
  case c4 => omega
  case c5 => omega
  intro v' w2 hown hgrow hn
  have e : s.data.toList.length = s.size := by simp
  have hown2 : w2.ownsRow B 5 1 v' (l ++ s.data.toList).length (Lib.byteCells (l ++ s.data.toList)) := by
    rw [List.length_append, Lib.byteCells_append, e]; exact hown
  have hn2 : v' = .slice none 0 0 ↔ l ++ s.data.toList = [] := by
    rw [hn, H1.out.nil_, List.append_eq_nil_iff]
    constructor
    · rintro ⟨h1, h2⟩; exact ⟨h1, by rw [h2]; rfl⟩
    · rintro ⟨h1, h2⟩; exact ⟨h1, ByteArray.ext (Array.ext' h2)⟩
  have HW2 := Lib.hid (H1.out.put hgrow hown2 hn2)
  have HB2 := Lib.hid ((HB1.out.grown (by omega) H1.out.own hgrow).setCell hge 1 v')
  have hbb : w2.heap[b]? = some (.cells #[selfP b, v, .slice A n c] 92 (0, 0)) := (hgrow.block b H1.out.lt (fun e => H1.out.ne e.symm)).trans H1.out.hb
  have d1 : w2.cell? ⟨b, 1, none⟩ = some v := by rw [cell_of_row _ _ _ _ _ _ hbb]; rfl
  have f1 : w2.frozen? ⟨b, 1, none⟩ = false := by simp [World.frozen?, hbb]
  obtain ⟨ao, n', cap, rfl⟩ : ∃ ao n' cap, v' = .slice ao n' cap := by
    rcases hown.2 with ⟨hv, _⟩ | ⟨g, cap, cur, hv, _⟩
    · exact ⟨_, _, _, hv⟩
    · exact ⟨_, _, _, hv⟩
  clear hown hgrow hn hown2 hn2 hbb e
  go_wp2
  go_ret2
  exact WrP.mk HW2 rfl HB2
set_option maxRecDepth 100000 in
set_option maxHeartbeats 2000000 in
theorem wr_String (B b n c : Nat) (p v : Value) (A : Option Addr) (l : List UInt8) (w : World) (h : Hid (WrAt w B b p A n c l v)) :
    Calls Tryz.prog 39 #[.pointer (some ⟨b, 0, none⟩)] w fun e w' => e = .returned (.string ⟨l.toArray⟩) ∧ Below B w w' := by
  have c1 : w.drew.cell? ⟨b, 1, none⟩ = some v := h.out.cells.2.1
  by_cases h0 : l = []
  · subst h0
    have hv := h.out.nil_.2 rfl
    subst hv
    have hUS : ∀ q W, (Builtin.unsafeString_ #[138, 3] 9 #[.pointer q, .int .i64 0]).run Tryz.prog W = .ok (.string .empty) W := fun q W => Lib.run_unsafeString_none W _ _ _ q
    have hSD : (Builtin.unsafeSliceData_ #[88] 138 #[.slice none 0 0]).run Tryz.prog w.drew = .ok (.pointer none) w.drew := rfl
    go_enter Tryz.func39, Tryz.ntmps39
    go_wp2
    go_region
    all_goals (go_wp2; go_ret; exact ⟨rfl, (Below.refl B w).drew⟩)
  · have hl0 : l.length ≠ 0 := by simpa using h0
    obtain ⟨g, cap, cur, rfl, hbg, hg, hnc, hcm, hcs, htake⟩ : ∃ g cap cur, v = .slice (some ⟨g, 0, none⟩) l.length cap ∧ B ≤ g ∧ w.heap[g]? = some (.cells cur 5 (0, 0)) ∧ l.length ≤ cap ∧ cap ≤ maxLen ∧ cur.size = cap * 1 ∧ cur.toList.take (l.length * 1) = Lib.byteCells l := by
      rcases h.out.own.2 with ⟨_, hz⟩ | ⟨g, cap, cur, hv, r⟩
      · exact absurd hz hl0
      · exact ⟨g, cap, cur, hv, r⟩
    have hSD : (Builtin.unsafeSliceData_ #[88] 138 #[.slice (some ⟨g, 0, none⟩) l.length cap]).run Tryz.prog w.drew = .ok (.pointer (some ⟨g, 0, none⟩)) w.drew := Lib.run_unsafeSliceData_row _ _ _ _ _ _ (by omega)
    have hUS : (Builtin.unsafeString_ #[138, 3] 9 #[.pointer (some ⟨g, 0, none⟩), .int .i64 l.length]).run Tryz.prog w.drew = .ok (.string ⟨l.toArray⟩) (w.drew.freeze ⟨g, 0, none⟩ l.length) := by
      refine Lib.run_unsafeString_row w.drew 138 3 9 5 Tryz.underlying138 (by kernel_rfl) g cur.size (by have hg' : w.drew.heap[g]? = some (.cells cur 5 (0, 0)) := hg; simp [World.shape?, hg']) l h0 (by omega) (by unfold maxLen at hcm; omega) ?_
      intro j x hx
      have := h.out.own.cells (g := g) rfl j (.int .u8 x.toNat) (by simp [Lib.byteCells, hx])
      exact this
    go_enter Tryz.func39, Tryz.ntmps39
    go_wp2
    go_region
    all_goals (go_wp2; go_ret; exact ⟨rfl, Lib.below_freeze (Below.drew (Below.refl B w)) (p := ⟨g, 0, none⟩) hbg _⟩)
end Go.Proofs.YtkpjhjoopdbkaaaGreatDoor
namespace Go.Proofs.YtkpjhjoopdbkaaaGreatDoor
open Go.RowKit
/-- A kid's text. -/
def kidS (l : List (Int × Int × List UInt8)) (j : Nat) (s : Int) : List UInt8 :=
  match l[j]? with
  | none => [63]
  | some (k, n, x) => if k = 5 ∧ strI n < s then [40] ++ x ++ [41] else x
def decP (n : Int) : List UInt8 := if n < 0 then [40] ++ Lib.itoa n ++ [41] else Lib.itoa n
def nameS (names : List ByteArray) (n : Int) : List UInt8 := if 0 ≤ n ∧ n < names.length then (names.getD n.toNat ⟨#[]⟩).data.toList else [63]
def textN (names : List ByteArray) (k n : Int) (l : List (Int × Int × List UInt8)) : List UInt8 :=
  if k = 1 then decP n
  else if k = 2 then nameS names n
  else if k = 3 then [45] ++ kidS l 0 9
  else if k = 4 then [33] ++ kidS l 0 9
  else if k = 5 then kidS l 0 (strI n) ++ ([32] ++ (signOf n).data.toList ++ [32]) ++ kidS l 1 (strI n + 1)
  else if k = 6 then [105, 102, 40] ++ kidS l 0 0 ++ [44, 32] ++ kidS l 1 0 ++ [44, 32] ++ kidS l 2 0 ++ [41]
  else [63]
mutual
def textT (names : List ByteArray) : Tr → List UInt8
  | .mk k n l => textN names k n (textL names l)
def textL (names : List ByteArray) : List Tr → List (Int × Int × List UInt8)
  | [] => []
  | t :: r => (t.kind, t.num, textT names t) :: textL names r
end
theorem textT_eq (names : List ByteArray) (t : Tr) : textT names t = textN names t.kind t.num (textL names t.kids) := by
  obtain ⟨k, n, l⟩ := t
  rw [textT]; rfl
theorem textL_get (names : List ByteArray) : ∀ (l : List Tr) (j : Nat), j < l.length → (textL names l)[j]? = some ((l.getD j default).kind, (l.getD j default).num, textT names (l.getD j default))
  | [], j, h => by simp at h
  | t :: r, 0, _ => by rw [textL]; rfl
  | t :: r, j + 1, h => by
    rw [textL]
    exact textL_get names r j (by simpa using h)
theorem textL_len (names : List ByteArray) : ∀ l : List Tr, (textL names l).length = l.length
  | [] => by rw [textL]; rfl
  | t :: r => by rw [textL, List.length_cons, List.length_cons, textL_len names r]
theorem kidS_at {names : List ByteArray} {l : List Tr} {j : Nat} (h : j < l.length) (s : Int) : kidS (textL names l) j s = if (l.getD j default).kind = 5 ∧ strI (l.getD j default).num < s then [40] ++ textT names (l.getD j default) ++ [41] else textT names (l.getD j default) := by
  unfold kidS
  rw [textL_get names l j h]
theorem kidS_no {names : List ByteArray} {l : List Tr} {j : Nat} (h : l.length ≤ j) (s : Int) : kidS (textL names l) j s = [63] := by
  unfold kidS
  rw [List.getElem?_eq_none (by rw [textL_len]; omega)]
theorem strI_bd (n : Int) : 0 ≤ strI n ∧ strI n ≤ 5 := by
  unfold strI
  repeat' split
  all_goals omega
theorem sign_len (n : Int) : (signOf n).data.toList.length ≤ 2 := by
  unfold signOf
  split
  · rename_i h
    have : n = 1 ∨ n = 2 ∨ n = 3 ∨ n = 4 ∨ n = 5 ∨ n = 6 ∨ n = 7 ∨ n = 8 ∨ n = 9 ∨ n = 10 ∨ n = 11 := by omega
    rcases this with h | h | h | h | h | h | h | h | h | h | h <;> subst h <;> decide
  · decide
theorem dec_len {n : Int} (h : I64 n) : (Lib.itoa n).length ≤ 22 := by
  have hd : ∀ u : Nat, u ≤ 9223372036854775808 → (Lib.decDigits u).length ≤ 20 := fun u hu => by
    rw [Lib.decDigits_length]
    have key : ∀ (k u : Nat), 1 ≤ k → u < 10 ^ k → Lib.nDigits u ≤ k := by
      intro k
      induction k with
      | zero => intro u h; omega
      | succ k ih =>
        intro u _ hu
        rw [Lib.nDigits]
        split
        · omega
        · rcases Nat.eq_zero_or_pos k with h0 | h0
          · subst h0; simp at hu; omega
          · have := ih (u / 10) h0 (by rw [Nat.pow_succ] at hu; omega)
            omega
    exact key 20 u (by decide) (by omega)
  unfold I64 at h
  unfold Lib.itoa
  split
  · have := hd n.natAbs (by omega); simp; omega
  · have := hd n.toNat (by omega); omega
theorem name_len {names : List ByteArray} {L : Nat} (hL : ∀ s ∈ names, s.size ≤ L) (n : Int) : (nameS names n).length ≤ L + 1 := by
  unfold nameS
  split
  · rename_i h
    rw [List.getD, List.getElem?_eq_getElem (by omega)]
    have := hL _ (List.getElem_mem (l := names) (n := n.toNat) (by omega))
    simp only [Option.getD_some, Array.length_toList]
    have e : (names[n.toNat]'(by omega)).data.size = (names[n.toNat]'(by omega)).size := rfl
    omega
  · simp
end Go.Proofs.YtkpjhjoopdbkaaaGreatDoor
namespace Go.Proofs.YtkpjhjoopdbkaaaGreatDoor
open Go.RowKit
/-- What the writer's expr is to do. -/
def WExprAt (names : List ByteArray) (w0 : World) (B b : Nat) (NA : Option Addr) (nn nc : Nat) (N : Nat) : Prop :=
  ∀ (t : Tr), t.sz ≤ N → ∀ (A : Option Addr) (m c : Nat) (w : World) (l : List UInt8) (p v : Value), Hid (TrAt w0 A m c t) → Hid (Below w0.heap.size w0 w) → Hid (WrAt w B b p NA nn nc l v) → (p = .pointer none ∨ p = selfP b) → l.length + (textT names t).length ≤ 1000000000000 →
    Calls Tryz.prog 38 #[.pointer (some ⟨b, 0, none⟩), t.val A m c] w (WrP B b NA nn nc w (l ++ textT names t))
set_option maxRecDepth 100000 in
set_option maxHeartbeats 4000000 in
theorem w_kid (names : List ByteArray) (w0 : World) (B b : Nat) (NA : Option Addr) (nn nc : Nat) (N : Nat) (hB0 : w0.heap.size ≤ B) (IH : Hid (WExprAt names w0 B b NA nn nc N)) (t : Tr) (hN : t.sz ≤ N + 1) (A : Option Addr) (m c : Nat) (j : Nat) (s : Int) (w : World) (l : List UInt8) (p v : Value)
    (h : Hid (TrAt w0 A m c t)) (hb : Hid (Below w0.heap.size w0 w)) (hW : Hid (WrAt w B b p NA nn nc l v)) (hp : p = .pointer none ∨ p = selfP b) (hj2 : j ≤ 2) (hlen : l.length + (kidS (textL names t.kids) j s).length ≤ 1000000000000) :
    Calls Tryz.prog 85 #[.pointer (some ⟨b, 0, none⟩), t.val A m c, .int .i64 (j : Int), .int .i64 s] w (WrP B b NA nn nc w (l ++ kidS (textL names t.kids) j s)) := by
  obtain ⟨hl, hc, hc9⟩ := h.out.len
  have hbw : B ≤ w.heap.size := by have := hW.out.ge; have := hW.out.lt; omega
  have hWl := hW.out.lt
  have hK1 := Lib.hid ((Wk.refl B b w).alloc hbw (.cells #[.int .i64 t.kind, .int .i64 t.num, .slice A m c] 30))
  have hW1 := Lib.hid (hW.out.alloc (.cells #[.int .i64 t.kind, .int .i64 t.num, .slice A m c] 30))
  have s2 := cell_new w #[.int .i64 t.kind, .int .i64 t.num, .slice A m c] 30 2 _ rfl
  obtain ⟨w1, hw1⟩ : ∃ w1, w1 = w.alloc (.cells #[.int .i64 t.kind, .int .i64 t.num, .slice A m c] 30) := ⟨_, rfl⟩
  have hs1 : B ≤ w1.heap.size := by rw [hw1, World.size_alloc]; omega
  obtain ⟨g, hg⟩ : ∃ g, g = w.heap.size := ⟨_, rfl⟩
  have HW1 := Lib.hid hw1
  have HG := Lib.hid hg
  rw [← hw1] at hK1 hW1 s2
  rw [← hg] at s2
  by_cases hjm : j < m
  · obtain ⟨b0, off, rfl, A', m', c', hK⟩ := h.out.kid hjm
    have hkd := Tr.kid_lt (t := t) (j := j) (by omega)
    have hks := kidS_at (names := names) (l := t.kids) (j := j) (by omega) s
    obtain ⟨q, hq⟩ : ∃ q, q = t.kids.getD j default := ⟨_, rfl⟩
    rw [← hq] at hK hkd hks
    have hbw1 : Below w0.heap.size w0 w1 := hb.out.trans (hK1.out.below.mono hB0)
    have c0 := cell_kept hbw1 hK.c0
    have c1 := cell_kept hbw1 hK.c1
    have c2 := cell_kept hbw1 hK.c2
    have HTQ := Lib.hid hK.tr
    have hK2 := Lib.hid (hK1.out.alloc hs1 (.cells #[.int .i64 q.kind, .int .i64 q.num, .slice A' m' c'] 30))
    have hW2 := Lib.hid (hW1.out.alloc (.cells #[.int .i64 q.kind, .int .i64 q.num, .slice A' m' c'] 30))
    have hbx := heap_alloc_new w1 (.cells #[.int .i64 q.kind, .int .i64 q.num, .slice A' m' c'] 30)
    have e0 := cell_new w1 #[.int .i64 q.kind, .int .i64 q.num, .slice A' m' c'] 30 0 _ rfl
    have e1 := cell_new w1 #[.int .i64 q.kind, .int .i64 q.num, .slice A' m' c'] 30 1 _ rfl
    have e2 := cell_new w1 #[.int .i64 q.kind, .int .i64 q.num, .slice A' m' c'] 30 2 _ rfl
    have hgb : w1.heap.size ≠ b := by have := hW1.out.lt; omega
    obtain ⟨w2, hw2⟩ : ∃ w2, w2 = w1.alloc (.cells #[.int .i64 q.kind, .int .i64 q.num, .slice A' m' c'] 30) := ⟨_, rfl⟩
    have hs2 : B ≤ w2.heap.size := by rw [hw2, World.size_alloc]; omega
    obtain ⟨g2, hg2⟩ : ∃ g2, g2 = w1.heap.size := ⟨_, rfl⟩
    have HW2 := Lib.hid hw2
    have HG2 := Lib.hid hg2
    rw [← hw2] at hK2 hW2 hbx e0 e1 e2
    rw [← hg2] at hbx e0 e1 e2 hgb
    have HBX := Lib.hid hbx
    have HGB := Lib.hid hgb
    have HB2 := Lib.hid (hb.out.trans (hK2.out.below.mono hB0))
    have hjm2 : (j : Int) < (m : Int) := by omega
    have hj0 : (0 : Int) ≤ (j : Int) := by omega
    clear hw1 hg hw2 hg2 hbw1 hK hbx hgb hq
    by_cases hloose : q.kind = 5 ∧ strI q.num < s
    · rw [if_pos hloose] at hks
      rw [hks] at hlen ⊢
      simp only [List.length_append, List.length_cons, List.length_nil] at hlen
      obtain ⟨k5, hlt⟩ := hloose
      have bk : (q.kind == 5) = true := by simpa using k5
      have hwl : l.length + (⟨#[40]⟩ : ByteArray).size ≤ 140737488355328 := by show l.length + 1 ≤ _; omega
      have CW := Lib.hid (wr_WriteString B b nn nc p v NA l ⟨#[40]⟩ w2 hW2 hp hs2 hwl)
      have CE := Lib.hid (fun W v (h1 : Hid (Below w0.heap.size w0 W)) (h2 : Hid (WrAt W B b (selfP b) NA nn nc (l ++ [40]) v)) => IH.out q (by omega) A' m' c' W (l ++ [40]) (selfP b) v HTQ h1 h2 (.inr rfl) (by simp only [List.length_append, List.length_cons, List.length_nil]; omega))
      clear hks hwl k5
      go_enter_defers Tryz.func85, Tryz.ntmps85
      go_upto_region 1 with fail
      rw [← HG.out, ← HW1.out]
      go_upto_region 4 with fail
      rw [← HG2.out, ← HW2.out]
      go_wp2_with fail
      refine (calc_Strength q.num _).mono ?_
      rintro e w3 ⟨rfl, rfl⟩
      go_wp2_with fail
      refine CW.out.mono ?_
      rintro e w5 ⟨⟨r, rfl⟩, ⟨v5, hW5⟩, hK5⟩
      have HK5 := Lib.hid (hK2.out.trans hK5.out)
      have HB5 := Lib.hid (hb.out.trans (HK5.out.below.mono hB0))
      have hbx := hK5.out.box HBX.out HGB.out (by decide)
      have f0 : w5.cell? ⟨g2, 0, none⟩ = some (.int .i64 q.kind) := by rw [cell_of_row _ _ _ _ _ _ hbx]; rfl
      have f1 : w5.cell? ⟨g2, 1, none⟩ = some (.int .i64 q.num) := by rw [cell_of_row _ _ _ _ _ _ hbx]; rfl
      have f2 : w5.cell? ⟨g2, 2, none⟩ = some (.slice A' m' c') := by rw [cell_of_row _ _ _ _ _ _ hbx]; rfl
      clear hbx e0 e1 e2
      go_wp2_with fail
      refine (CE.out w5 v5 HB5 hW5).mono ?_
      rintro e w6 ⟨⟨r6, rfl⟩, ⟨v6, hW6⟩, hK6⟩
      have HK6 := Lib.hid (HK5.out.trans hK6.out)
      go_wp2_with fail
      refine leaves_cons (f := 47) (args := #[.pointer (some ⟨b, 0, none⟩), .string ⟨#[41]⟩]) (by simp) (by simp [go_sem]) ?_
      refine (wr_WriteString_d B b nn nc (selfP b) v6 NA _ ⟨#[41]⟩ w6 hW6 .returning (.inr rfl) (by have := HK6.out.below.size; have := hs2; omega) ?_).mono ?_
      · simp only [List.length_append, List.length_cons, List.length_nil]
        show _ + 1 ≤ _
        omega
      rintro e u' w7 ⟨rfl, ⟨r7, rfl⟩, ⟨v7, hW7⟩, hK7⟩
      have HK7 := Lib.hid (HK6.out.trans hK7.out)
      exact ⟨_, results_none rfl _ _ _, WrP.mk hW7 (by simp) HK7⟩
    · rw [if_neg hloose] at hks
      rw [hks] at hlen ⊢
      have CE := Lib.hid (IH.out q (by omega) A' m' c' w2 l p v HTQ HB2 hW2 hp hlen)
      clear hks
      by_cases k5 : q.kind = 5
      · have bk : (q.kind == 5) = true := by simpa using k5
        have hge : s ≤ strI q.num := by
          rcases Int.lt_or_le (strI q.num) s with h | h
          · exact absurd ⟨k5, h⟩ hloose
          · exact h
        have hlt : decide (strI q.num < s) = false := decide_eq_false (by omega)
        clear hloose k5
        go_enter_defers Tryz.func85, Tryz.ntmps85
        go_upto_region 1 with fail
        rw [← HG.out, ← HW1.out]
        go_upto_region 4 with fail
        rw [← HG2.out, ← HW2.out]
        go_wp2_with fail
        refine (calc_Strength q.num _).mono ?_
        rintro e w3 ⟨rfl, rfl⟩
        go_wp2_with fail
        refine CE.out.mono ?_
        rintro e w6 ⟨⟨r6, rfl⟩, ⟨v6, hW6⟩, hK6⟩
        have HK6 := Lib.hid (hK2.out.trans hK6.out)
        go_wp2_with fail
        exact ⟨_, results_none rfl _ _ _, WrP.mk hW6 rfl HK6⟩
      · have bk : (q.kind == 5) = false := by simpa using k5
        clear hloose k5
        go_enter_defers Tryz.func85, Tryz.ntmps85
        go_upto_region 1 with fail
        rw [← HG.out, ← HW1.out]
        go_upto_region 4 with fail
        rw [← HG2.out, ← HW2.out]
        go_wp2_with fail
        refine CE.out.mono ?_
        rintro e w6 ⟨⟨r6, rfl⟩, ⟨v6, hW6⟩, hK6⟩
        have HK6 := Lib.hid (hK2.out.trans hK6.out)
        go_wp2_with fail
        exact ⟨_, results_none rfl _ _ _, WrP.mk hW6 rfl HK6⟩
  · have hks := kidS_no (names := names) (l := t.kids) (j := j) (by omega) s
    rw [hks] at hlen ⊢
    have hge : (m : Int) ≤ (j : Int) := by omega
    have hwl : l.length + (⟨#[63]⟩ : ByteArray).size ≤ 140737488355328 := by simp at hlen; show l.length + 1 ≤ _; omega
    have CW := Lib.hid (wr_WriteString B b nn nc p v NA l ⟨#[63]⟩ w1 hW1 hp hs1 hwl)
    clear hks hlen hw1 hg hwl
    go_enter_defers Tryz.func85, Tryz.ntmps85
    go_upto_region 1 with fail
    rw [← HG.out, ← HW1.out]
    go_wp2_with fail
    refine CW.out.mono ?_
    rintro e w5 ⟨⟨r, rfl⟩, ⟨v5, hW5⟩, hK5⟩
    have HK5 := Lib.hid (hK1.out.trans hK5.out)
    go_wp2_with fail
    exact ⟨_, results_none rfl _ _ _, WrP.mk hW5 rfl HK5⟩
end Go.Proofs.YtkpjhjoopdbkaaaGreatDoor
