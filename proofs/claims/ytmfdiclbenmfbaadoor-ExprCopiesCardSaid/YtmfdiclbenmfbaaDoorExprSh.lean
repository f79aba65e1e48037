/- Law 04: the small case. Printed by gen_exprSh.py. -/
import Derived.Test.YtmfdiclbenmfbaaDoorExprSd
import Derived.Test.YtmfdiclbenmfbaaDoorExprSf
import Derived.Test.YtmfdiclbenmfbaaDoorExprSg
import Derived.Test.YtmfdiclbenmfbaaDoorExprX
import Derived.Deep.RegionHeld3
import Derived.Deep.DeepCutAuto
import Derived.Deep.CutBlock
namespace Go.Proofs.YtmfdiclbenmfbaaDoor
open Go.RowKit
abbrev e3 (k n : Int) (A : Option Addr) (m c : Nat) : Value := .agg #[.int .i64 k, .int .i64 n, .slice A m c]
/-- What bin tells. -/
def BinP (t : Tr) (op : Int) (w : World) (e : Ending) (w' : World) : Prop := (∃ g, e = .returned (e3 5 op (some ⟨g, 0, none⟩) 2 2) ∧ Hid (TrAt w' (some ⟨g, 0, none⟩) 2 2 t)) ∧ Hid (Below w.heap.size w w')
theorem c_num (n : Int) (w : World) : Calls Tryd.prog 31 #[.int .i64 n] w fun e w' => e = .returned (e3 1 n none 0 0) ∧ Below w.heap.size w w' := law_num n w
theorem c_bin {op k n k' n' : Int} (hop : I64 op) {A B : Option Addr} {m c m' c' : Nat} {a b : Tr} (e1 : a.kind = k) (e2 : a.num = n) (e3_ : b.kind = k') (e4 : b.num = n') {w : World} (ha : TrAt w A m c a) (hb : TrAt w B m' c' b) :
    Calls Tryd.prog 30 #[.int .i64 op, e3 k n A m c, e3 k' n' B m' c'] w (BinP (.mk 5 op [a, b]) op w) := by
  subst e1 e2 e3_ e4
  exact law_bin op hop a b A m c B m' c' w ha hb
theorem bl_alloc {w W : World} (h : Below w.heap.size w W) (o : Obj) : Below w.heap.size w (W.alloc o) := h.alloc h.size o
/-- A box that was laid ahead of a call. -/
theorem box_kept {W w' : World} (hb : Below W.heap.size W w') {e : Nat} {a b c : Value} {t : TypeId} (h : W.heap[e]? = some (.cells #[a, b, c] t (0, 0))) :
    Hid (w'.heap[e]? = some (.cells #[a, b, c] t (0, 0))) ∧ w'.cell? ⟨e, 0, none⟩ = some a ∧ w'.cell? ⟨e, 1, none⟩ = some b ∧ w'.cell? ⟨e, 2, none⟩ = some c ∧ w'.frozen? ⟨e, 0, none⟩ = false ∧ w'.frozen? ⟨e, 1, none⟩ = false ∧ w'.frozen? ⟨e, 2, none⟩ = false ∧ e < w'.heap.size := by
  have h2 := (hb.block e (Array.getElem?_eq_some_iff.1 h).1).trans h
  refine ⟨h2, ?_, ?_, ?_, ?_, ?_, ?_, (Array.getElem?_eq_some_iff.1 h2).1⟩
  · rw [cell_of_row _ _ _ _ _ _ h2]; rfl
  · rw [cell_of_row _ _ _ _ _ _ h2]; rfl
  · rw [cell_of_row _ _ _ _ _ _ h2]; rfl
  all_goals simp [World.frozen?, h2]
mutual
/-- Is each part's kind another than 0? -/
def nzT : Tr → Bool
  | .mk _ _ l => nzL l
def nzL : List Tr → Bool
  | [] => true
  | t :: r => decide (t.kind ≠ 0) && (nzT t && nzL r)
end
mutual
/-- A block of zeros is none of a tree's. -/
theorem TrAt.past {w w' : World} {e : Nat} (hz : ∀ o k, w.cell? ⟨e, o, none⟩ = some (.int .i64 k) → k = 0) (hh : ∀ b, b ≠ e → b < w.heap.size → w'.heap[b]? = w.heap[b]?) : ∀ (t : Tr) {A : Option Addr} {m c : Nat}, TrAt w A m c t → nzT t = true → TrAt w' A m c t
  | .mk k n l, A, m, c, h, hn => by
    rw [TrAt] at h ⊢
    rw [nzT] at hn
    obtain ⟨a1, a2, a3, a4, a5, a6⟩ := h
    refine ⟨a1, a2, a3, a4, a5, ?_⟩
    rcases a6 with a6 | ⟨b, off, ee, hk⟩
    · exact .inl a6
    · exact .inr ⟨b, off, ee, KidsAt.past hz hh l hk hn⟩
theorem KidsAt.past {w w' : World} {e : Nat} (hz : ∀ o k, w.cell? ⟨e, o, none⟩ = some (.int .i64 k) → k = 0) (hh : ∀ b, b ≠ e → b < w.heap.size → w'.heap[b]? = w.heap[b]?) : ∀ (l : List Tr) {b off i : Nat}, KidsAt w b off i l → nzL l = true → KidsAt w' b off i l
  | [], b, off, i, _, _ => by rw [KidsAt]; trivial
  | t :: r, b, off, i, h, hn => by
    rw [KidsAt] at h ⊢
    rw [nzL, Bool.and_eq_true, Bool.and_eq_true, decide_eq_true_eq] at hn
    obtain ⟨⟨A, m, c, c0, c1, c2, h3⟩, h4⟩ := h
    have hbe : b ≠ e := fun hb => by subst hb; exact hn.1 (hz _ _ c0)
    have hlt := World.block_lt_of_cell? w _ c0
    have hb := hh b hbe hlt
    have hc : ∀ o, w'.cell? ⟨b, o, none⟩ = w.cell? ⟨b, o, none⟩ := fun o => by simp only [World.cell?, hb]
    exact ⟨⟨A, m, c, (hc _).trans c0, (hc _).trans c1, (hc _).trans c2, TrAt.past hz hh t h3 hn.2.1⟩, KidsAt.past hz hh r h4 hn.2.2⟩
end
theorem zero_box {w : World} {e : Nat} (h : w.heap[e]? = some (.cells #[.int .i64 0, .int .i64 0, .slice none 0 0] 24 (0, 0))) : ∀ o k, w.cell? ⟨e, o, none⟩ = some (.int .i64 k) → k = 0 := by
  intro o k hc
  rw [cell_of_row _ _ _ _ _ _ h] at hc
  rcases o with _ | _ | _ | o
  · injection hc with hc; injection hc with _ hc; exact hc.symm
  · injection hc with hc; injection hc with _ hc; exact hc.symm
  · injection hc with hc; cases hc
  · cases hc
abbrev smRow (ga gb gc : Nat) : Obj := .cells #[.int .i64 5, .int .i64 6, .slice (some ⟨ga, 0, none⟩) 2 2, .int .i64 5, .int .i64 4, .slice (some ⟨gb, 0, none⟩) 2 2, .int .i64 5, .int .i64 2, .slice (some ⟨gc, 0, none⟩) 2 2] 24
abbrev smBox (er : Nat) : Obj := .cells #[.int .i64 6, .int .i64 0, .slice (some ⟨er, 0, none⟩) 3 3] 24
theorem sm_row {w : World} {ga gb gc : Nat} (hA : TrAt w (some ⟨ga, 0, none⟩) 2 2 (.mk 5 6 [xE, nT 0])) (hB : TrAt w (some ⟨gb, 0, none⟩) 2 2 (.mk 5 4 [nT 1, xE])) (hC : TrAt w (some ⟨gc, 0, none⟩) 2 2 (.mk 5 2 [xE, nT 7])) :
    TrAt (w.alloc (smRow ga gb gc)) (some ⟨w.heap.size, 0, none⟩) 3 3 smE :=
  tr_new (k := 6) (n := 0) (by decide) (by decide) [(.mk 5 6 [xE, nT 0], some ⟨ga, 0, none⟩, 2, 2), (.mk 5 4 [nT 1, xE], some ⟨gb, 0, none⟩, 2, 2), (.mk 5 2 [xE, nT 7], some ⟨gc, 0, none⟩, 2, 2)] (by simp) (fun x hx => by
    simp only [List.mem_cons, List.not_mem_nil, or_false] at hx
    rcases hx with rfl | rfl | rfl
    · exact hA
    · exact hB
    · exact hC)
/-- The small expression, laid. -/
structure SmOk (w1 W : World) (eb er : Nat) : Prop where
  c0 : W.cell? ⟨eb, 0, none⟩ = some (.int .i64 6)
  c1 : W.cell? ⟨eb, 1, none⟩ = some (.int .i64 0)
  c2 : W.cell? ⟨eb, 2, none⟩ = some (.slice (some ⟨er, 0, none⟩) 3 3)
  tr : TrAt W (some ⟨er, 0, none⟩) 3 3 smE
  hb : Below w1.heap.size w1 W
theorem al1 (w : World) (o : Obj) : Below w.heap.size w (w.alloc o) := (Below.refl _ w).alloc (Nat.le_refl _) o
section
variable {w1 w : World} {ga gb gc : Nat} (hA : TrAt w (some ⟨ga, 0, none⟩) 2 2 (.mk 5 6 [xE, nT 0])) (hB : TrAt w (some ⟨gb, 0, none⟩) 2 2 (.mk 5 4 [nT 1, xE])) (hC : TrAt w (some ⟨gc, 0, none⟩) 2 2 (.mk 5 2 [xE, nT 7])) (hb : Below w1.heap.size w1 w)
include hA hB hC hb
theorem sm_end1 : SmOk w1 ((w.alloc (smRow ga gb gc)).alloc (smBox w.heap.size)) (w.heap.size + 1) w.heap.size := by
  have e : (w.alloc (smRow ga gb gc)).heap.size = w.heap.size + 1 := World.size_alloc _ _
  refine ⟨?_, ?_, ?_, (sm_row hA hB hC).kept (al1 _ _), bl_alloc (bl_alloc hb _) _⟩
  all_goals rw [← e]
  · exact cell_new _ _ _ 0 _ rfl
  · exact cell_new _ _ _ 1 _ rfl
  · exact cell_new _ _ _ 2 _ rfl
theorem sm_end2 : SmOk w1 ((w.alloc (smBox (w.heap.size + 1))).alloc (smRow ga gb gc)) w.heap.size (w.heap.size + 1) := by
  have e : (w.alloc (smBox (w.heap.size + 1))).heap.size = w.heap.size + 1 := World.size_alloc _ _
  have ht := sm_row (hA.kept (al1 w (smBox (w.heap.size + 1)))) (hB.kept (al1 w (smBox (w.heap.size + 1)))) (hC.kept (al1 w (smBox (w.heap.size + 1))))
  rw [e] at ht
  exact ⟨cell_kept (al1 _ _) (cell_new w _ _ 0 _ rfl), cell_kept (al1 _ _) (cell_new w _ _ 1 _ rfl), cell_kept (al1 _ _) (cell_new w _ _ 2 _ rfl), ht, bl_alloc (bl_alloc hb _) _⟩
theorem sm_end3 {e : Nat} (hz : w.heap[e]? = some (.cells #[.int .i64 0, .int .i64 0, .slice none 0 0] 24 (0, 0))) (hl : w1.heap.size ≤ e) : SmOk w1 ((set3 w e 0 (.int .i64 6) (.int .i64 0) (.slice (some ⟨w.heap.size, 0, none⟩) 3 3)).alloc (smRow ga gb gc)) e w.heap.size := by
  have hp := fun b (h : b ≠ e) (_ : b < w.heap.size) => set3_other (w := w) (g := e) (o := 0) (u0 := .int .i64 6) (u1 := .int .i64 0) (u2 := .slice (some ⟨w.heap.size, 0, none⟩) 3 3) h
  have ht := sm_row (TrAt.past (zero_box hz) hp _ hA (by decide)) (TrAt.past (zero_box hz) hp _ hB (by decide)) (TrAt.past (zero_box hz) hp _ hC (by decide))
  rw [set3_size] at ht
  have hc := fun i => set3_cell (u0 := .int .i64 6) (u1 := .int .i64 0) (u2 := .slice (some ⟨w.heap.size, 0, none⟩) 3 3) hz (o := 0) (by simp) i
  exact ⟨cell_kept (al1 _ _) (by rw [hc]; rfl), cell_kept (al1 _ _) (by rw [hc]; rfl), cell_kept (al1 _ _) (by rw [hc]; rfl), ht, bl_alloc (below_set3 hb hl _ _ _ _) _⟩
end
theorem sm_envA (w : World) (x : Int) (hx : I64 x) : EnvAt (w.alloc (.cells #[.int .i64 x] 3)) (some ⟨w.heap.size, 0, none⟩) 1 1 [x] :=
  ⟨Sl.new w 3 [.int .i64 x] 1 1 rfl (by omega), fun y hy => by simp at hy; subst hy; exact hx⟩
theorem sm_envN (w : World) : EnvAt w none 0 0 [] := ⟨Sl.none_ w 1, fun y hy => by simp at hy⟩
/-- The small case's Eval. -/
theorem c_eval {t : Tr} {k n a b : Int} {env : List Int} {A EA : Option Addr} {m c en ec : Nat} {w : World} (e1 : t.kind = k) (e2 : t.num = n) (hv : evalV env t = (a, b)) (hs : sizeT t ≤ 1000000) (h : TrAt w A m c t) (he : EnvAt w EA en ec env) :
    Calls Tryd.prog 22 #[e3 k n A m c, .slice EA en ec] w fun e w' => e = .returned (.tuple #[.int .i64 a, .int .i64 b]) ∧ Below w.heap.size w w' := by
  subst e1 e2
  refine (ex_Eval env t A m c w EA en ec h he hs).mono ?_
  rintro e w' ⟨rfl, hb⟩
  rw [hv]
  exact ⟨rfl, hb⟩
theorem c_put {t b u : Tr} {k n kb nb kk : Int} {A B : Option Addr} {m c m' c' : Nat} {w : World} (e1 : t.kind = k) (e2 : t.num = n) (e3' : b.kind = kb) (e4 : b.num = nb) (hu : putT kk b t = u) (hs : sizeT t ≤ 1000000) (hs2 : sizeT b ≤ 1000000) (h : TrAt w A m c t) (hb : TrAt w B m' c' b) :
    Calls Tryd.prog 24 #[e3 k n A m c, .int .i64 kk, e3 kb nb B m' c'] w fun e w' => (∃ A2 m2 c2, e = .returned (e3 u.kind u.num A2 m2 c2) ∧ Hid (TrAt w' A2 m2 c2 u)) ∧ Hid (Below w.heap.size w w') := by
  subst e1 e2 e3' e4 hu
  refine (ex_Put kk b hs2 t.sz t (Nat.le_refl _) A m c B m' c' w h hb hs).mono ?_
  rintro e w' ⟨A2, m2, c2, rfl, hF, hB⟩
  exact ⟨⟨A2, m2, c2, rfl, Lib.hid (FrI.to _ hF.out)⟩, hB⟩
/-- The small case's texts. -/
theorem sm_names (w : World) : Sl (w.alloc (.cells #[.string ⟨#[120]⟩] 9)) (.slice (some ⟨w.heap.size, 0, none⟩) 1 1) 1 1 (strCells [⟨#[120]⟩]) := Sl.new w 9 [.string ⟨#[120]⟩] 1 1 rfl (by omega)
theorem c_text {t : Tr} {k n : Int} {l : List UInt8} {A EA : Option Addr} {m c : Nat} {w : World} (e1 : t.kind = k) (e2 : t.num = n) (hv : textT [⟨#[120]⟩] t = l) (hl : l.length ≤ 1000) (h : TrAt w A m c t) (htab : ∀ W, Below w.heap.size w W → TabT W) (hN : Sl w (.slice EA 1 1) 1 1 (strCells [⟨#[120]⟩])) :
    Calls Tryd.prog 17 #[e3 k n A m c, .slice EA 1 1] w fun e w' => e = .returned (.string ⟨l.toArray⟩) ∧ Below w.heap.size w w' := by
  subst e1 e2 hv
  exact ex_Text [⟨#[120]⟩] EA 1 1 t A m c w h htab hN (by intro s hs; simp at hs; subst hs; decide) (by omega)
theorem c_depth {t : Tr} {k n x : Int} {A : Option Addr} {m c : Nat} {w : World} (e1 : t.kind = k) (e2 : t.num = n) (hv : (depthT t : Int) = x) (hs : sizeT t ≤ 1000000) (h : TrAt w A m c t) :
    Calls Tryd.prog 13 #[e3 k n A m c] w fun e w' => e = .returned (.int .i64 x) ∧ Below w.heap.size w w' := by
  subst e1 e2 hv
  exact ex_Depth t.sz t (Nat.le_refl _) A m c w h hs
theorem c_size {t : Tr} {k n x : Int} {A : Option Addr} {m c : Nat} {w : World} (e1 : t.kind = k) (e2 : t.num = n) (hv : (sizeT t : Int) = x) (hs : sizeT t ≤ 1000000) (h : TrAt w A m c t) :
    Calls Tryd.prog 15 #[e3 k n A m c] w fun e w' => e = .returned (.int .i64 x) ∧ Below w.heap.size w w' := by
  subst e1 e2 hv
  exact ex_Size t.sz t (Nat.le_refl _) A m c w h hs
theorem c_vars {t : Tr} {k n : Int} {l : List Int} {A : Option Addr} {m c : Nat} {w : World} (e1 : t.kind = k) (e2 : t.num = n) (hv : varsT t = l) (hs : sizeT t ≤ 1000000) (h : TrAt w A m c t) :
    Calls Tryd.prog 20 #[e3 k n A m c] w (IntsP l w) := by
  subst e1 e2 hv
  exact ex_Vars t.sz t (Nat.le_refl _) A m c w h hs
/-- The other small expression, laid. -/
structure SmTk (w1 W : World) (tb tr_ : Nat) : Prop where
  c0 : W.cell? ⟨tb, 0, none⟩ = some (.int .i64 5)
  c1 : W.cell? ⟨tb, 1, none⟩ = some (.int .i64 3)
  c2 : W.cell? ⟨tb, 2, none⟩ = some (.slice (some ⟨tr_, 0, none⟩) 2 2)
  tr : TrAt W (some ⟨tr_, 0, none⟩) 2 2 smT
  hb : Below w1.heap.size w1 W
theorem st_end1 {w1 w : World} {gt : Nat} (hT : TrAt w (some ⟨gt, 0, none⟩) 2 2 smT) (hb : Below w1.heap.size w1 w) : SmTk w1 (w.alloc (.cells #[.int .i64 5, .int .i64 3, .slice (some ⟨gt, 0, none⟩) 2 2] 24)) w.heap.size gt :=
  ⟨cell_new _ _ _ 0 _ rfl, cell_new _ _ _ 1 _ rfl, cell_new _ _ _ 2 _ rfl, hT.kept (al1 _ _), bl_alloc hb _⟩
theorem st_end3 {w1 w : World} {gt e : Nat} (hT : TrAt w (some ⟨gt, 0, none⟩) 2 2 smT) (hb : Below w1.heap.size w1 w) (hz : w.heap[e]? = some (.cells #[.int .i64 0, .int .i64 0, .slice none 0 0] 24 (0, 0))) (hl : w1.heap.size ≤ e) : SmTk w1 (set3 w e 0 (.int .i64 5) (.int .i64 3) (.slice (some ⟨gt, 0, none⟩) 2 2)) e gt := by
  have hp := fun b (h : b ≠ e) (_ : b < w.heap.size) => set3_other (w := w) (g := e) (o := 0) (u0 := .int .i64 5) (u1 := .int .i64 3) (u2 := .slice (some ⟨gt, 0, none⟩) 2 2) h
  have hc := fun i => set3_cell (u0 := .int .i64 5) (u1 := .int .i64 3) (u2 := .slice (some ⟨gt, 0, none⟩) 2 2) hz (o := 0) (by simp) i
  exact ⟨by rw [hc]; rfl, by rw [hc]; rfl, by rw [hc]; rfl, TrAt.past (zero_box hz) hp _ hT (by decide), below_set3 hb hl _ _ _ _⟩
set_option maxRecDepth 100000 in
set_option maxHeartbeats 16000000 in
theorem law_small (w : World) (htab : Hid (∀ W, Below w.heap.size w W → TabT W)) : Calls Tryd.prog 9 #[] w fun e w' => e = .returned (.bool true) ∧ Below w.heap.size w w' := by
  have hb1 := (Below.refl w.heap.size w).alloc (Nat.le_refl _) (.cells #[.int .i64 2, .int .i64 0, .slice none 0 0] 24)
  have x0 := cell_new w #[.int .i64 2, .int .i64 0, .slice none 0 0] 24 0 _ rfl
  have x1 := cell_new w #[.int .i64 2, .int .i64 0, .slice none 0 0] 24 1 _ rfl
  have x2 := cell_new w #[.int .i64 2, .int .i64 0, .slice none 0 0] 24 2 _ rfl
  obtain ⟨w1, hw1⟩ : ∃ w1, w1 = w.alloc (.cells #[.int .i64 2, .int .i64 0, .slice none 0 0] 24) := ⟨_, rfl⟩
  obtain ⟨g, hg⟩ : ∃ g, g = w.heap.size := ⟨_, rfl⟩
  have HW1 := Lib.hid hw1
  have HG := Lib.hid hg
  rw [← hw1] at hb1 x0 x1 x2
  rw [← hg] at x0 x1 x2
  have HB1 := Lib.hid hb1
  have i0 : I64 0 := by decide
  have HC := Lib.hid (show ∀ W, Below w1.heap.size w1 W → W.cell? ⟨g, 0, none⟩ = some (.int .i64 2) ∧ W.cell? ⟨g, 1, none⟩ = some (.int .i64 0) ∧ W.cell? ⟨g, 2, none⟩ = some (.slice none 0 0) from fun W h => ⟨cell_kept h x0, cell_kept h x1, cell_kept h x2⟩)
  have hd9 : Below w1.heap.size w1 w1.drew := below_drewN' (Below.refl _ _) 1
  have BD := Lib.hid hd9
  have zh := Lib.hid True.intro
  clear hb1 hw1 hg hd9
  go_enter Tryd.func9, Tryd.ntmps9
  go_upto_region 2 with fail
  rw [← HG.out, ← HW1.out]
  go_cut [2] (fun s2 wx => ∃ eb er, s2 = .pointer (some ⟨eb, 0, none⟩) ∧ Hid (SmOk w1 wx eb er))
  case first =>
    go_region_held3 (fun W => W.cell? ⟨g, 0, none⟩ = some (.int .i64 2) ∧ W.cell? ⟨g, 1, none⟩ = some (.int .i64 0) ∧ W.cell? ⟨g, 2, none⟩ = some (.slice none 0 0))
      (first | exact HC.out _ (bl_alloc (below_set3 BD6.out yl.out 0 _ _ _) _) | exact HC.out _ (bl_alloc (bl_alloc BD6.out _) _) | exact HC.out _ (bl_alloc BD6.out _) | exact HC.out _ BD6.out | exact HC.out _ (bl_alloc (bl_alloc BD5.out _) _) | exact HC.out _ (bl_alloc BD5.out _) | exact HC.out _ BD5.out | exact HC.out _ (bl_alloc (bl_alloc BD4.out _) _) | exact HC.out _ (bl_alloc BD4.out _) | exact HC.out _ BD4.out | exact HC.out _ (bl_alloc (bl_alloc BD3.out _) _) | exact HC.out _ (bl_alloc BD3.out _) | exact HC.out _ BD3.out | exact HC.out _ (bl_alloc (bl_alloc BD2.out _) _) | exact HC.out _ (bl_alloc BD2.out _) | exact HC.out _ BD2.out | exact HC.out _ (bl_alloc (bl_alloc BD1.out _) _) | exact HC.out _ (bl_alloc BD1.out _) | exact HC.out _ BD1.out | exact HC.out _ (bl_alloc BD.out _) | exact HC.out _ BD.out)
      (first
      | (go_at_call_of 31 (Value.int .i64 0); refine (c_num 0 _).mono ?_; rintro e w2 ⟨rfl, hb⟩
         have BD1 : Hid (Below w1.heap.size w1 w2) := by first | exact Lib.hid (below_then BD.out hb) | exact Lib.hid (below_then (bl_alloc BD.out _) hb)
         first | (have zq := box_kept hb zh.out; obtain ⟨zh, z0, z1, z2, y0, y1, y2, ye⟩ := zq) | (have zq := box_kept hb (heap_alloc_new w1 (.cells #[.int .i64 0, .int .i64 0, .slice none 0 0] 24)); have yl := Lib.hid BD.out.size; obtain ⟨zh, z0, z1, z2, y0, y1, y2, ye⟩ := zq) | skip
         try clear hb)
      | (go_at_call_of 30 (Value.int .i64 6); refine (c_bin (a := xE) (b := nT 0) (by decide) rfl rfl rfl rfl (tr_var i0 _) (tr_num i0 _)).mono ?_; rintro e w3 ⟨⟨ga, rfl, hA⟩, hbh⟩
         have hb := hbh.out
         have BD2 : Hid (Below w1.heap.size w1 w3) := by first | exact Lib.hid (below_then BD1.out hb) | exact Lib.hid (below_then (bl_alloc BD1.out _) hb)
         first | (have zq := box_kept hb zh.out; obtain ⟨zh, z0, z1, z2, y0, y1, y2, ye⟩ := zq) | (have zq := box_kept hb (heap_alloc_new w2 (.cells #[.int .i64 0, .int .i64 0, .slice none 0 0] 24)); have yl := Lib.hid BD1.out.size; obtain ⟨zh, z0, z1, z2, y0, y1, y2, ye⟩ := zq) | skip
         try clear hb)
      | (go_at_call_of 31 (Value.int .i64 1); refine (c_num 1 _).mono ?_; rintro e w4 ⟨rfl, hb⟩
         have BD3 : Hid (Below w1.heap.size w1 w4) := by first | exact Lib.hid (below_then BD2.out hb) | exact Lib.hid (below_then (bl_alloc BD2.out _) hb)
         have hA2 : Hid (TrAt w4 (some ⟨ga, 0, none⟩) 2 2 (.mk 5 6 [xE, nT 0])) := by first | exact Lib.hid (hA.out.kept hb) | exact Lib.hid ((hA.out.kept (bl_alloc (Below.refl _ _) _)).kept hb)
         first | (have zq := box_kept hb zh.out; obtain ⟨zh, z0, z1, z2, y0, y1, y2, ye⟩ := zq) | (have zq := box_kept hb (heap_alloc_new w3 (.cells #[.int .i64 0, .int .i64 0, .slice none 0 0] 24)); have yl := Lib.hid BD2.out.size; obtain ⟨zh, z0, z1, z2, y0, y1, y2, ye⟩ := zq) | skip
         try clear hb)
      | (go_at_call_of 30 (Value.int .i64 4); refine (c_bin (a := nT 1) (b := xE) (by decide) rfl rfl rfl rfl (tr_num (by decide) _) (tr_var i0 _)).mono ?_; rintro e w5 ⟨⟨gb, rfl, hBt⟩, hbh⟩
         have hb := hbh.out
         have BD4 : Hid (Below w1.heap.size w1 w5) := by first | exact Lib.hid (below_then BD3.out hb) | exact Lib.hid (below_then (bl_alloc BD3.out _) hb)
         have hA3 : Hid (TrAt w5 (some ⟨ga, 0, none⟩) 2 2 (.mk 5 6 [xE, nT 0])) := by first | exact Lib.hid (hA2.out.kept hb) | exact Lib.hid ((hA2.out.kept (bl_alloc (Below.refl _ _) _)).kept hb)
         first | (have zq := box_kept hb zh.out; obtain ⟨zh, z0, z1, z2, y0, y1, y2, ye⟩ := zq) | (have zq := box_kept hb (heap_alloc_new w4 (.cells #[.int .i64 0, .int .i64 0, .slice none 0 0] 24)); have yl := Lib.hid BD3.out.size; obtain ⟨zh, z0, z1, z2, y0, y1, y2, ye⟩ := zq) | skip
         try clear hb)
      | (go_at_call_of 31 (Value.int .i64 7); refine (c_num 7 _).mono ?_; rintro e w6 ⟨rfl, hb⟩
         have BD5 : Hid (Below w1.heap.size w1 w6) := by first | exact Lib.hid (below_then BD4.out hb) | exact Lib.hid (below_then (bl_alloc BD4.out _) hb)
         have hA4 : Hid (TrAt w6 (some ⟨ga, 0, none⟩) 2 2 (.mk 5 6 [xE, nT 0])) := by first | exact Lib.hid (hA3.out.kept hb) | exact Lib.hid ((hA3.out.kept (bl_alloc (Below.refl _ _) _)).kept hb)
         have hB2 : Hid (TrAt w6 (some ⟨gb, 0, none⟩) 2 2 (.mk 5 4 [nT 1, xE])) := by first | exact Lib.hid (hBt.out.kept hb) | exact Lib.hid ((hBt.out.kept (bl_alloc (Below.refl _ _) _)).kept hb)
         first | (have zq := box_kept hb zh.out; obtain ⟨zh, z0, z1, z2, y0, y1, y2, ye⟩ := zq) | (have zq := box_kept hb (heap_alloc_new w5 (.cells #[.int .i64 0, .int .i64 0, .slice none 0 0] 24)); have yl := Lib.hid BD4.out.size; obtain ⟨zh, z0, z1, z2, y0, y1, y2, ye⟩ := zq) | skip
         try clear hb)
      | (go_at_call_of 30 (Value.int .i64 2); refine (c_bin (a := xE) (b := nT 7) (by decide) rfl rfl rfl rfl (tr_var i0 _) (tr_num (by decide) _)).mono ?_; rintro e w7 ⟨⟨gc, rfl, hCt⟩, hbh⟩
         have hb := hbh.out
         have BD6 : Hid (Below w1.heap.size w1 w7) := by first | exact Lib.hid (below_then BD5.out hb) | exact Lib.hid (below_then (bl_alloc BD5.out _) hb)
         have hA5 : Hid (TrAt w7 (some ⟨ga, 0, none⟩) 2 2 (.mk 5 6 [xE, nT 0])) := by first | exact Lib.hid (hA4.out.kept hb) | exact Lib.hid ((hA4.out.kept (bl_alloc (Below.refl _ _) _)).kept hb)
         have hB3 : Hid (TrAt w7 (some ⟨gb, 0, none⟩) 2 2 (.mk 5 4 [nT 1, xE])) := by first | exact Lib.hid (hB2.out.kept hb) | exact Lib.hid ((hB2.out.kept (bl_alloc (Below.refl _ _) _)).kept hb)
         first | (have zq := box_kept hb zh.out; obtain ⟨zh, z0, z1, z2, y0, y1, y2, ye⟩ := zq) | (have zq := box_kept hb (heap_alloc_new w6 (.cells #[.int .i64 0, .int .i64 0, .slice none 0 0] 24)); have yl := Lib.hid BD5.out.size; obtain ⟨zh, z0, z1, z2, y0, y1, y2, ye⟩ := zq) | skip
         try clear hb))
    all_goals
      go_wp2_with fail
      go_meet
      first
        | exact ⟨_, _, rfl, Lib.hid (sm_end3 hA5.out hB3.out hCt.out BD6.out zh.out yl.out)⟩
        | exact ⟨_, _, rfl, Lib.hid (sm_end1 hA5.out hB3.out hCt.out BD6.out)⟩
        | exact ⟨_, _, rfl, Lib.hid (sm_end2 hA5.out hB3.out hCt.out BD6.out)⟩
  case rest =>
    obtain ⟨eb, er, rfl, hSM⟩ := hcut
    clear x0 x1 x2
    have e0 := hSM.out.c0
    have e1 := hSM.out.c1
    have e2 := hSM.out.c2
    have HE := Lib.hid (show ∀ W, Below wc.heap.size wc W → W.cell? ⟨eb, 0, none⟩ = some (.int .i64 6) ∧ W.cell? ⟨eb, 1, none⟩ = some (.int .i64 0) ∧ W.cell? ⟨eb, 2, none⟩ = some (.slice (some ⟨er, 0, none⟩) 3 3) ∧ TrAt W (some ⟨er, 0, none⟩) 3 3 smE from fun W h => ⟨cell_kept h e0, cell_kept h e1, cell_kept h e2, hSM.out.tr.kept h⟩)
    have HBC := Lib.hid (below_then HB1.out hSM.out.hb)
    go_wp2_with fail
    refine (c_eval (t := smE) rfl rfl sm_eval5 (by rw [sm_size]; omega) (HE.out _ (al1 _ _)).2.2.2 (sm_envA wc 5 (by decide))).mono ?_
    rintro e u1 ⟨rfl, hb⟩
    have HU1 := Lib.hid (below_then (al1 _ _) hb)
    clear hb e0 e1 e2
    obtain ⟨e0, e1, e2, hT1⟩ := HE.out u1 HU1.out
    clear hT1
    go_wp2_with fail
    refine (c_eval (t := smE) rfl rfl sm_eval0 (by rw [sm_size]; omega) (HE.out _ (below_then HU1.out (al1 _ _))).2.2.2 (sm_envA u1 0 (by decide))).mono ?_
    rintro e u2 ⟨rfl, hb⟩
    have HU2 := Lib.hid (below_then HU1.out (below_then (al1 _ _) hb))
    clear hb e0 e1 e2
    obtain ⟨e0, e1, e2, hT2⟩ := HE.out u2 HU2.out
    clear hT2
    go_wp2_with fail
    refine (c_eval (t := smE) rfl rfl sm_evalN (by rw [sm_size]; omega) (HE.out _ HU2.out).2.2.2 (sm_envN u2)).mono ?_
    rintro e u3 ⟨rfl, hb⟩
    have HU3 := Lib.hid (below_then HU2.out hb)
    clear hb e0 e1 e2
    go_wp2_with fail
    have BF : Hid (Below wc.heap.size wc u3.drew) := Lib.hid (below_then HU3.out (below_drewN' (Below.refl _ _) 1))
    have HE3 := Lib.hid (fun W (h : Below wc.heap.size wc W) => And.intro (HE.out W h).1 (And.intro (HE.out W h).2.1 (HE.out W h).2.2.1))
    go_region_held3 (fun W => W.cell? ⟨eb, 0, none⟩ = some (.int .i64 6) ∧ W.cell? ⟨eb, 1, none⟩ = some (.int .i64 0) ∧ W.cell? ⟨eb, 2, none⟩ = some (.slice (some ⟨er, 0, none⟩) 3 3))
      (first | exact HE3.out _ BF3.out | exact HE3.out _ BF2.out | exact HE3.out _ BF1.out | exact HE3.out _ BF.out)
      (first
        | (go_at_call 31; refine (c_num 9 _).mono ?_; rintro e u4 ⟨rfl, hb⟩; have BF1 := Lib.hid (below_then BF.out hb); clear hb)
        | (go_at_call 24; refine (c_put (t := smE) (b := nT 9) rfl rfl rfl rfl sm_put (by rw [sm_size]; omega) (by decide) (HE.out _ BF1.out).2.2.2 (tr_num (by decide) _)).mono ?_; rintro e u5 ⟨⟨A2, m2, c2, rfl, hP⟩, hb⟩; have BF2 := Lib.hid (below_then BF1.out hb.out); clear hb)
        | (go_at_call 22; refine (c_eval (t := smP) rfl rfl sm_evalP (by rw [sm_sizeP]; omega) hP.out (sm_envN _)).mono ?_; rintro e wd ⟨rfl, hb⟩; have BF3 := Lib.hid (below_then BF2.out hb); clear hb))
    all_goals
      go_wp2_with fail
      obtain ⟨x0, x1, x2⟩ := HC.out wd (below_then hSM.out.hb BF3.out)
      have HX := Lib.hid (show ∀ W, Below wd.heap.size wd W → W.cell? ⟨g, 0, none⟩ = some (.int .i64 2) ∧ W.cell? ⟨g, 1, none⟩ = some (.int .i64 0) ∧ W.cell? ⟨g, 2, none⟩ = some (.slice none 0 0) from fun W h => ⟨cell_kept h x0, cell_kept h x1, cell_kept h x2⟩)
      have hd9 : Below wd.heap.size wd wd.drew := below_drewN' (Below.refl _ _) 1
      have BG := Lib.hid hd9
      have zh2 := Lib.hid True.intro
      clear hd9
      go_cut [11] (fun s11 wx => ∃ tb tr_, s11 = .pointer (some ⟨tb, 0, none⟩) ∧ Hid (SmTk wd wx tb tr_))
      case first =>
        go_region_held3 (fun W => W.cell? ⟨g, 0, none⟩ = some (.int .i64 2) ∧ W.cell? ⟨g, 1, none⟩ = some (.int .i64 0) ∧ W.cell? ⟨g, 2, none⟩ = some (.slice none 0 0))
          (first | exact HX.out _ (below_set3 BG4.out yl2.out 0 _ _ _) | exact HX.out _ (bl_alloc BG4.out _) | exact HX.out _ BG4.out | exact HX.out _ (bl_alloc BG3.out _) | exact HX.out _ BG3.out | exact HX.out _ (bl_alloc BG2.out _) | exact HX.out _ BG2.out | exact HX.out _ (bl_alloc BG1.out _) | exact HX.out _ BG1.out | exact HX.out _ (bl_alloc BG.out _) | exact HX.out _ BG.out)
          (first
          | (go_at_call_of 30 (Value.int .i64 1); refine (c_bin (a := xE) (b := nT (-1)) (by decide) rfl rfl rfl rfl (tr_var i0 _) (tr_num (by decide) _)).mono ?_; rintro e v3 ⟨⟨gd, rfl, hD⟩, hbh⟩
             have hb := hbh.out
             have BG2 : Hid (Below wd.heap.size wd v3) := by first | exact Lib.hid (below_then BG1.out hb) | exact Lib.hid (below_then (bl_alloc BG1.out _) hb)
             first | (have zq := box_kept hb zh2.out; obtain ⟨zh2, z0, z1, z2, y0, y1, y2, ye⟩ := zq) | (have zq := box_kept hb (heap_alloc_new v2 (.cells #[.int .i64 0, .int .i64 0, .slice none 0 0] 24)); have yl2 := Lib.hid BG1.out.size; obtain ⟨zh2, z0, z1, z2, y0, y1, y2, ye⟩ := zq) | skip
             try clear hb)
          | (go_at_call_of 31 (Value.int .i64 2); refine (c_num 2 _).mono ?_; rintro e v4 ⟨rfl, hb⟩
             have BG3 : Hid (Below wd.heap.size wd v4) := by first | exact Lib.hid (below_then BG2.out hb) | exact Lib.hid (below_then (bl_alloc BG2.out _) hb)
             have hD2 : Hid (TrAt v4 (some ⟨gd, 0, none⟩) 2 2 (.mk 5 1 [xE, nT (-1)])) := by first | exact Lib.hid (hD.out.kept hb) | exact Lib.hid ((hD.out.kept (bl_alloc (Below.refl _ _) _)).kept hb)
             first | (have zq := box_kept hb zh2.out; obtain ⟨zh2, z0, z1, z2, y0, y1, y2, ye⟩ := zq) | (have zq := box_kept hb (heap_alloc_new v3 (.cells #[.int .i64 0, .int .i64 0, .slice none 0 0] 24)); have yl2 := Lib.hid BG2.out.size; obtain ⟨zh2, z0, z1, z2, y0, y1, y2, ye⟩ := zq) | skip
             try clear hb)
          | (go_at_call_of 30 (Value.int .i64 3); refine (c_bin (a := .mk 5 1 [xE, nT (-1)]) (b := nT 2) (by decide) rfl rfl rfl rfl (by first | exact hD2.out | exact hD2.out.kept (al1 _ _)) (tr_num (by decide) _)).mono ?_; rintro e v5 ⟨⟨gt, rfl, hTT⟩, hbh⟩
             have hb := hbh.out
             have BG4 : Hid (Below wd.heap.size wd v5) := by first | exact Lib.hid (below_then BG3.out hb) | exact Lib.hid (below_then (bl_alloc BG3.out _) hb)
             first | (have zq := box_kept hb zh2.out; obtain ⟨zh2, z0, z1, z2, y0, y1, y2, ye⟩ := zq) | (have zq := box_kept hb (heap_alloc_new v4 (.cells #[.int .i64 0, .int .i64 0, .slice none 0 0] 24)); have yl2 := Lib.hid BG3.out.size; obtain ⟨zh2, z0, z1, z2, y0, y1, y2, ye⟩ := zq) | skip
             try clear hb)
          | (go_at_call 31; refine (c_num _ _).mono ?_; rintro e v2 ⟨rfl, hb⟩
             have BG1 : Hid (Below wd.heap.size wd v2) := by first | exact Lib.hid (below_then BG.out hb) | exact Lib.hid (below_then (bl_alloc BG.out _) hb)
             first | (have zq := box_kept hb zh2.out; obtain ⟨zh2, z0, z1, z2, y0, y1, y2, ye⟩ := zq) | (have zq := box_kept hb (heap_alloc_new wd (.cells #[.int .i64 0, .int .i64 0, .slice none 0 0] 24)); have yl2 := Lib.hid BG.out.size; obtain ⟨zh2, z0, z1, z2, y0, y1, y2, ye⟩ := zq) | skip
             try clear hb))
        all_goals
          go_wp2_with fail
          go_meet
          first
            | exact ⟨_, _, rfl, Lib.hid (st_end3 hTT.out BG4.out zh2.out yl2.out)⟩
            | exact ⟨_, _, rfl, Lib.hid (st_end1 hTT.out BG4.out)⟩
      case rest =>
        obtain ⟨tb, tr_, rfl, hST⟩ := hcut
        have HF0 := Lib.hid (below_then BF3.out hST.out.hb)
        have HWF := Lib.hid (below_then HBC.out HF0.out)
        have HT := Lib.hid (fun W (h : Below wc.heap.size wc W) => HE.out W (below_then HF0.out h))
        have t0 := hST.out.c0
        have t1 := hST.out.c1
        have t2 := hST.out.c2
        have HTT := Lib.hid (show ∀ W, Below wc.heap.size wc W → W.cell? ⟨tb, 0, none⟩ = some (.int .i64 5) ∧ W.cell? ⟨tb, 1, none⟩ = some (.int .i64 3) ∧ W.cell? ⟨tb, 2, none⟩ = some (.slice (some ⟨tr_, 0, none⟩) 2 2) ∧ TrAt W (some ⟨tr_, 0, none⟩) 2 2 smT from fun W h => ⟨cell_kept h t0, cell_kept h t1, cell_kept h t2, hST.out.tr.kept h⟩)
        obtain ⟨e0, e1, e2, hTe⟩ := HT.out _ (Below.refl _ _)
        clear x0 x1 x2 t0 t1 t2 hTe
        go_wp2_with fail
        refine (c_text (t := smE) rfl rfl sm_text (by decide) (HT.out _ (al1 _ _)).2.2.2 (fun W h => htab.out W (below_then HWF.out (below_then (al1 _ _) h))) (sm_names wc)).mono ?_
        rintro e y1 ⟨rfl, hb⟩
        have HY1 := Lib.hid (below_then (al1 _ _) hb)
        clear hb e0 e1 e2
        obtain ⟨t0, t1, t2, hTt⟩ := HTT.out _ HY1.out
        clear hTt
        go_wp2_with fail
        refine (c_text (t := smT) rfl rfl sm_text2 (by decide) (HTT.out _ (below_then HY1.out (al1 _ _))).2.2.2 (fun W h => htab.out W (below_then HWF.out (below_then HY1.out (below_then (al1 _ _) h)))) (sm_names y1)).mono ?_
        rintro e y2 ⟨rfl, hb⟩
        have HY2 := Lib.hid (below_then HY1.out (below_then (al1 _ _) hb))
        clear hb t0 t1 t2
        obtain ⟨e0, e1, e2, hTe⟩ := HT.out _ HY2.out
        clear hTe
        go_wp2_with fail
        refine (c_depth (t := smE) (x := 3) rfl rfl (by rw [sm_depth]; rfl) (by rw [sm_size]; omega) (HT.out _ HY2.out).2.2.2).mono ?_
        rintro e y3 ⟨rfl, hb⟩
        have HY3 := Lib.hid (below_then HY2.out hb)
        clear hb e0 e1 e2
        obtain ⟨e0, e1, e2, hTe⟩ := HT.out _ HY3.out
        clear hTe
        go_wp2_with fail
        refine (c_size (t := smE) (x := 10) rfl rfl (by rw [sm_size]; rfl) (by rw [sm_size]; omega) (HT.out _ HY3.out).2.2.2).mono ?_
        rintro e y4 ⟨rfl, hb⟩
        have HY4 := Lib.hid (below_then HY3.out hb)
        clear hb e0 e1 e2
        obtain ⟨e0, e1, e2, hTe⟩ := HT.out _ HY4.out
        clear hTe
        go_wp2_with fail
        refine (c_vars (t := smE) rfl rfl sm_vars (by rw [sm_size]; omega) (HT.out _ HY4.out).2.2.2).mono ?_
        rintro e y5 ⟨A5, c5, rfl, hS5, hb⟩
        have HY5 := Lib.hid (below_then HY4.out hb.out)
        clear e0 e1 e2
        go_wp2_with fail
        refine (ref_Ints A5 (some ⟨y5.heap.size, 0, none⟩) 1 1 c5 1 [0] [0] _ (Lib.hid (hS5.out.below (al1 _ _))) (Lib.hid (Sl.new y5 3 [.int .i64 0] 1 1 rfl (by omega))) (by omega) (by omega)).mono ?_
        rintro e y6 ⟨rfl, q6, rfl⟩
        have HY6 := Lib.hid (below_then HWF.out (below_drewN' (below_then HY5.out (al1 y5 (.cells #[.int .i64 0] 3))) q6))
        go_wp2_with fail
        go_ret
        exact ⟨rfl, HY6.out⟩
end Go.Proofs.YtmfdiclbenmfbaaDoor
