/- Joined: The parser's variables grow. Printed by gen_pbB.py. The tasker in memory. Printed by gen_pbC.py. The tasker's rows grow. Printed by gen_pbD.py. -/
import Derived.Test.YtkpjhjoopdbkaaaGreatDoorG17
import Derived.Test.YtkpjhjoopdbkaaaGreatDoorG01
namespace Go.Proofs.YtkpjhjoopdbkaaaGreatDoor
open Go.RowKit
section
variable {T : List Tok} {en : Int} {g : Nat} {A : Option Addr} {c base : Nat} {h : Hs} {L1 : List ColV} {L2 : List PlV} {L3 : List TkV} {s : Ps} {w w' : World}
theorem NAt.push4 (N : NAt T en g A c base h L1 L2 L3 s w) (o : Obj) (x : ByteArray) {A' : Option Addr} {n' c' : Nat} (hO : w'.ownsRow base 9 1 (.slice A' n' c') (s.vars.length + 1) (strCells s.vars ++ [.string x])) (hg : (w.alloc o).grownBy w' h.V4.ownBlock)
    (hat : (Value.slice A' n' c').ownBlock = h.V4.ownBlock ∨ (Value.slice A' n' c').ownBlock = some (w.alloc o).heap.size) :
    NAt T en g A c base { h with A4 := A', n4 := n', c4 := c' } L1 L2 L3 { s with vars := s.vars ++ [x] } (w'.setCell ⟨g, 10, none⟩ (.slice A' n' c')) ∧ AgH (NH g h) w (w'.setCell ⟨g, 10, none⟩ (.slice A' n' c')) ∧ ∀ i, i < w.heap.size → NH g { h with A4 := A', n4 := n', c4 := c' } i → NH g h i := by
  have sz : (w.alloc o).heap.size = w.heap.size + 1 := World.size_alloc _ _
  have aL : AgH (fun _ => False) w (w.alloc o) := AgH.of_below (alrB w o)
  have a1 : AgH (fun i => h.V4.ownBlock = some i) (w.alloc o) w' := (AgH.refl _ _).grown hg fun i e _ => e
  have a2 : AgH (only g) w' (w'.setCell ⟨g, 10, none⟩ (.slice A' n' c')) := (AgH.refl (only g) _).setCell (.inl rfl) _
  have aA : AgH (fun i => i = g ∨ h.V4.ownBlock = some i) w (w'.setCell ⟨g, 10, none⟩ (.slice A' n' c')) := ((aL.mono fun _ _ e => e.elim).trans (a1.mono fun _ _ e => .inr e)).trans (a2.mono fun _ _ e => .inl e)
  have aN : AgH (NH g h) w (w'.setCell ⟨g, 10, none⟩ (.slice A' n' c')) := aA.mono fun i _ e => by
    rcases e with e | e
    · exact .inl e
    · exact .inr (.inr (.inr (.inr e)))
  have sub : ∀ i, i < w.heap.size → NH g { h with A4 := A', n4 := n', c4 := c' } i → NH g h i := fun i hi e => by
    rcases e with e | e | e | e | e
    · exact .inl e
    · exact .inr (.inl e)
    · exact .inr (.inr (.inl e))
    · exact .inr (.inr (.inr (.inl e)))
    · rcases hat with h1 | h1
      · exact .inr (.inr (.inr (.inr (h1 ▸ e))))
      · rw [show ({ h with A4 := A', n4 := n', c4 := c' } : Hs).V4 = .slice A' n' c' from rfl, h1] at e
        injection e with e
        omega
  have apK : ∀ {V' : Value}, Apart h.V4 V' → (∀ i, V'.ownBlock = some i → i < w.heap.size) → Apart (.slice A' n' c') V' := fun hap hlt i e e' => by
    rcases hat with h1 | h1
    · exact hap i (h1 ▸ e) e'
    · have := hlt i e'
      rw [h1] at e
      injection e with e
      omega
  refine ⟨?_, aN, sub⟩
  have hb : PBlk w' g A T.length c s.at_ en s.err (placeT T en s) h := (N.blk.below (alrB w o)).keep a1 N.ne4
  refine ⟨hb.set10 A' n' c', N.at_, N.small, N.gb, Nat.le_trans N.lb aN.size, ?_, ?_, N.e1, N.e2, N.e3, N.e4, N.e5, ?_, ?_, ?_, ?_, N.a12, N.a13, (apK N.a14.symm fun _ e => (N.lt1 e).2).symm, N.a23, (apK N.a24.symm fun _ e => (N.lt2 e).2).symm, (apK N.a34.symm fun _ e => (N.lt3 e).2).symm, N.i4, N.i5⟩
  · refine N.toks.move aA (fun i _ e => ?_) sub
    rcases e with e | e
    · exact .inl e
    · exact .inr (.inr (.inr (.inr e)))
  · refine N.tab.move aA (fun i _ e => ?_) sub
    rcases e with e | e
    · exact .inl e
    · exact .inr (.inr (.inr (.inr e)))
  · refine N.r1.move aA (fun i _ e => ?_) fun i hi e => .inl (Or.imp_right (sub i hi) e)
    rcases e with e | e
    · rw [e]; exact ⟨.inr (.inl rfl), N.ne1⟩
    · exact ⟨.inr (.inr (.inr (.inr (.inr e)))), N.a14.symm i e⟩
  · refine N.r2.move aA (fun i _ e => ?_) fun i hi e => .inl (Or.imp_right (sub i hi) e)
    rcases e with e | e
    · rw [e]; exact ⟨.inr (.inl rfl), N.ne2⟩
    · exact ⟨.inr (.inr (.inr (.inr (.inr e)))), N.a24.symm i e⟩
  · refine N.r3.move aA (fun i _ e => ?_) fun i hi e => .inl (Or.imp_right (sub i hi) e)
    rcases e with e | e
    · rw [e]; exact ⟨.inr (.inl rfl), N.ne3⟩
    · exact ⟨.inr (.inr (.inr (.inr (.inr e)))), N.a34.symm i e⟩
  · have h1 : w'.ownsRow base 9 1 (.slice A' n' c') (s.vars ++ [x]).length (strCells (s.vars ++ [x])) := by
      rw [List.length_append, show strCells (s.vars ++ [x]) = strCells s.vars ++ [Value.string x] by simp [strCells]]
      exact hO
    exact own_keep h1 a2 fun i hi e => by have h1 := (hO.lt i hi).1; have h2 := N.gb; have h3 : i = g := e; omega
theorem NAt.new4 (N : NAt T en g A c base h L1 L2 L3 s w) :
    NAt T en g A c base { h with A4 := none, n4 := 0, c4 := 0 } L1 L2 L3 { s with vars := [] } (w.setCell ⟨g, 10, none⟩ (.slice none 0 0)) ∧ AgH (only g) w (w.setCell ⟨g, 10, none⟩ (.slice none 0 0)) ∧ ∀ i, NH g { h with A4 := none, n4 := 0, c4 := 0 } i → NH g h i := by
  have a : AgH (only g) w (w.setCell ⟨g, 10, none⟩ (.slice none 0 0)) := (AgH.refl (only g) _).setCell (.inl rfl) _
  have hn : (Value.slice none 0 0).ownBlock = none := rfl
  have sub : ∀ i, NH g { h with A4 := none, n4 := 0, c4 := 0 } i → NH g h i := fun i e => by
    rcases e with e | e | e | e | e
    · exact .inl e
    · exact .inr (.inl e)
    · exact .inr (.inr (.inl e))
    · exact .inr (.inr (.inr (.inl e)))
    · cases e
  refine ⟨⟨N.blk.set10 none 0 0, N.at_, N.small, N.gb, Nat.le_trans N.lb a.size, ?_, ?_, N.e1, N.e2, N.e3, N.e4, N.e5, ?_, ?_, ?_, World.ownsRow_nil _ _ _ _, N.a12, N.a13, ?_, N.a23, ?_, ?_, N.i4, N.i5⟩, a, sub⟩
  · exact N.toks.move a (fun i _ e => .inl e) fun i _ e => sub i e
  · exact N.tab.move a (fun i _ e => .inl e) fun i _ e => sub i e
  · exact N.r1.move a (fun i _ e => ⟨.inr (.inl e), by rw [show i = g from e]; exact N.ne1⟩) fun i _ e => .inl (Or.imp_right (sub i) e)
  · exact N.r2.move a (fun i _ e => ⟨.inr (.inl e), by rw [show i = g from e]; exact N.ne2⟩) fun i _ e => .inl (Or.imp_right (sub i) e)
  · exact N.r3.move a (fun i _ e => ⟨.inr (.inl e), by rw [show i = g from e]; exact N.ne3⟩) fun i _ e => .inl (Or.imp_right (sub i) e)
  · exact fun i _ e => by cases e
  · exact fun i _ e => by cases e
  · exact fun i _ e => by cases e
theorem NAt.off {h0 : Hs} {s0 : Ps} {w0 W : World} {H : Nat → Prop} (N : NAt T en g A c base h L1 L2 L3 s w) (N0 : NAt T en g A c base h0 L1 L2 L3 s0 w0) (a0 : AgH (NH g h0) w0 W) (sub : ∀ i, i < w0.heap.size → NH g h i → NH g h0 i) (a : AgH H w W) (hn : ∀ i, H i → ¬ NH g h i) (e1 : h.V1 = h0.V1) (e2 : h.V2 = h0.V2) (e3 : h.V3 = h0.V3) : NAt T en g A c base h L1 L2 L3 s W := by
  have hx : ∀ i, H i → i ≠ g ∧ h.V1.ownBlock ≠ some i ∧ h.V2.ownBlock ≠ some i ∧ h.V3.ownBlock ≠ some i ∧ h.V4.ownBlock ≠ some i := fun i hi =>
    ⟨fun e => hn i hi (.inl e), fun e => hn i hi (.inr (.inl e)), fun e => hn i hi (.inr (.inr (.inl e))), fun e => hn i hi (.inr (.inr (.inr (.inl e)))), fun e => hn i hi (.inr (.inr (.inr (.inr e))))⟩
  refine ⟨N.blk.keep a fun e => (hx g e).1 rfl, N.at_, N.small, N.gb, Nat.le_trans N.lb a.size, N0.toks.move a0 (fun _ _ e => e) sub, N0.tab.move a0 (fun _ _ e => e) sub, N.e1, N.e2, N.e3, N.e4, N.e5, ⟨?_, ?_⟩, ⟨?_, ?_⟩, ⟨?_, ?_⟩, ?_, N.a12, N.a13, N.a14, N.a23, N.a24, N.a34, N.i4, N.i5⟩
  · exact own_keep N.r1.own a fun i hi e => (hx i e).2.1 hi
  · exact fun x hx => (N0.r1.held x hx).move a0 (fun i _ e => .inl (.inr e)) fun i hi e => by
      rcases e with e | e
      · exact .inl (Or.imp_right (sub i hi) e)
      · exact .inr (e1 ▸ e)
  · exact own_keep N.r2.own a fun i hi e => (hx i e).2.2.1 hi
  · exact fun x hx => (N0.r2.held x hx).move a0 (fun i _ e => .inl (.inr e)) fun i hi e => by
      rcases e with e | e
      · exact .inl (Or.imp_right (sub i hi) e)
      · exact .inr (e2 ▸ e)
  · exact own_keep N.r3.own a fun i hi e => (hx i e).2.2.2.1 hi
  · exact fun x hx => (N0.r3.held x hx).move a0 (fun i _ e => .inl (.inr e)) fun i hi e => by
      rcases e with e | e
      · exact .inl (Or.imp_right (sub i hi) e)
      · exact .inr (e3 ▸ e)
  · exact own_keep N.r4 a fun i hi e => (hx i e).2.2.2.2 hi
end
end Go.Proofs.YtkpjhjoopdbkaaaGreatDoor
namespace Go.Proofs.YtkpjhjoopdbkaaaGreatDoor
open Go.RowKit
/-- An arc, its tree's slice. -/
structure ArV where
  a : Ar
  A : Option Addr
  m : Nat
  c : Nat
def ArV.cells (k : ArV) : List Value := [.int .i64 k.a.place, .int .i64 k.a.expr.kind, .int .i64 k.a.expr.num, .slice k.A k.m k.c]
def ArV.at_ (k : ArV) (W : World) : Prop := TrAt W k.A k.m k.c k.a.expr ∧ I64 k.a.place
abbrev Vr.cells (v : Vr) : List Value := [.string v.name, .int .i64 v.colour]
abbrev TkV.Vv (k : TkV) : Value := .slice k.Av k.nv k.cv
abbrev TkV.Vi (k : TkV) : Value := .slice k.Ai k.ni k.ci
abbrev TkV.Vo (k : TkV) : Value := .slice k.Ao k.no k.co
abbrev TkV.Vc (k : TkV) : Value := .slice k.Ac k.nc k.cc
/-- The blocks of one's own: the parser's, the net's rows, the tasker's, its map's, its task's rows. -/
def tsB (g : Nat) (h : Hs) (gt mb : Nat) (k : TkV) : Nat → Option Nat
  | 0 => some g
  | 1 => h.V1.ownBlock
  | 2 => h.V2.ownBlock
  | 3 => h.V3.ownBlock
  | 4 => h.V4.ownBlock
  | 5 => some gt
  | 6 => some mb
  | 7 => k.Vv.ownBlock
  | 8 => k.Vi.ownBlock
  | 9 => k.Vo.ownBlock
  | 10 => k.Vc.ownBlock
  | _ => none
/-- No block twice. -/
def Ap (B : Nat → Option Nat) : Prop := ∀ i j, i ≠ j → ∀ b, B i = some b → B j ≠ some b
/-- The blocks. -/
def BH (B : Nat → Option Nat) : Nat → Prop := fun b => ∃ i, B i = some b
/-- These, and what was there before. -/
abbrev BX (base : Nat) (B : Nat → Option Nat) : Nat → Prop := fun i => i < base ∨ BH B i
theorem apart_upd {B B' : Nat → Option Nat} {sz n : Nat} (h : Ap B) (lt : ∀ i b, B i = some b → b < sz) (he : ∀ i, i ≠ n → B' i = B i) (hn : ∀ b, B' n = some b → B n = some b ∨ sz ≤ b) : Ap B' := by
  intro i j hij b hi hj
  by_cases e1 : i = n
  · subst e1
    rw [he j (fun e => hij e.symm)] at hj
    rcases hn b hi with e | e
    · exact h i j hij b e hj
    · have := lt j b hj; omega
  · rw [he i e1] at hi
    by_cases e2 : j = n
    · subst e2
      rcases hn b hj with e | e
      · exact h i j hij b hi e
      · have := lt i b hi; omega
    · rw [he j e2] at hj
      exact h i j hij b hi hj
theorem bh_upd {B B' : Nat → Option Nat} {sz n : Nat} (he : ∀ i, i ≠ n → B' i = B i) (hn : ∀ b, B' n = some b → B n = some b ∨ sz ≤ b) : ∀ b, b < sz → BH B' b → BH B b := by
  rintro b hb ⟨i, hi⟩
  by_cases e1 : i = n
  · subst e1
    rcases hn b hi with e | e
    · exact ⟨i, e⟩
    · omega
  · exact ⟨i, by rw [← he i e1]; exact hi⟩
/-- The tasker at gt; w0: the world that tasked began in. -/
structure TsAt (T : List Tok) (en : Int) (g : Nat) (A : Option Addr) (c base : Nat) (w0 : World) (h0 : Hs) (gt mb : Nat) (h : Hs) (L1 : List ColV) (L2 : List PlV) (L3 : List TkV) (k : TkV) (li lo : List ArV) (nm : Nat) (D : DataW Unit) (u : Ts) (w : World) : Prop where
  net : NAt T en g A c base h L1 L2 L3 u.s w
  n0 : ∃ s0, NAt T en g A c base h0 L1 L2 L3 s0 w0
  v1 : h.V1 = h0.V1
  v2 : h.V2 = h0.V2
  v3 : h.V3 = h0.V3
  bb : base ≤ w0.heap.size
  ag : AgH (NH g h0) w0 w
  sub : ∀ i, i < w0.heap.size → NH g h i → NH g h0 i
  gt0 : w0.heap.size ≤ gt
  mb0 : w0.heap.size ≤ mb
  box : w.heap[gt]? = some (.cells (.pointer (some ⟨g, 0, none⟩) :: (k.cells ++ [.map (some mb)])).toArray 168 (0, 0))
  et : k.t = u.t
  map : OwnS w mb nm D
  had : HadOf D (u.had.map (·.data.toList))
  rv : w.ownsRow w0.heap.size 132 2 k.Vv u.t.vars.length (u.t.vars.flatMap Vr.cells)
  ri : w.ownsRow w0.heap.size 61 4 k.Vi li.length (li.flatMap ArV.cells)
  ro : w.ownsRow w0.heap.size 61 4 k.Vo lo.length (lo.flatMap ArV.cells)
  rc : w.ownsRow w0.heap.size 3 1 k.Vc u.t.cancel.length (intCells u.t.cancel)
  ei : u.t.ins = li.map (·.a)
  eo : u.t.outs = lo.map (·.a)
  ap : Ap (tsB g h gt mb k)
  hold : HeldH (BX base (tsB g h gt mb k)) w fun W => TrAt W k.Ag k.mg k.cg u.t.guard ∧ (∀ x ∈ li, x.at_ W) ∧ ∀ x ∈ lo, x.at_ W
  iv : ∀ v ∈ u.t.vars, I64 v.colour
  i5 : I64 u.t.join
  i6 : I64 u.t.split
  i9 : ∀ x ∈ u.t.cancel, I64 x
  i10 : I64 u.t.after
  i11 : I64 u.t.m0
  i12 : I64 u.t.m1
  i13 : I64 u.t.m2
section
variable {T : List Tok} {en : Int} {g : Nat} {A : Option Addr} {c base : Nat} {w0 : World} {h0 : Hs} {gt mb : Nat} {h : Hs} {L1 : List ColV} {L2 : List PlV} {L3 : List TkV} {k : TkV} {li lo : List ArV} {nm : Nat} {D : DataW Unit} {u : Ts} {w W : World}
theorem TsAt.lt (t : TsAt T en g A c base w0 h0 gt mb h L1 L2 L3 k li lo nm D u w) : ∀ i b, tsB g h gt mb k i = some b → b < w.heap.size := by
  intro i b e
  match i, e with
  | 0, e => injection e with e; have := t.net.gb; have := t.net.lb; omega
  | 1, e => exact (t.net.lt1 e).2
  | 2, e => exact (t.net.lt2 e).2
  | 3, e => exact (t.net.lt3 e).2
  | 4, e => exact (t.net.lt4 e).2
  | 5, e => injection e with e; have := (Array.getElem?_eq_some_iff.1 t.box).1; omega
  | 6, e => injection e with e; have := t.map.lt; omega
  | 7, e => exact (t.rv.lt b e).2
  | 8, e => exact (t.ri.lt b e).2
  | 9, e => exact (t.ro.lt b e).2
  | 10, e => exact (t.rc.lt b e).2
theorem ownS_keep {H : Nat → Prop} {w W : World} {b n : Nat} {D : DataW Unit} (h : OwnS w b n D) (a : AgH H w W) (hn : ¬ H b) : OwnS W b n D := by
  obtain ⟨es, cl, h1, h2⟩ := h
  exact ⟨es, cl, by rw [a.block b (Array.getElem?_eq_some_iff.1 h1).1 hn]; exact h1, h2⟩
/-- A call that turned the parser alone. -/
theorem TsAt.turn {s' : Ps} (t : TsAt T en g A c base w0 h0 gt mb h L1 L2 L3 k li lo nm D u w) (q : Turned T en g A c h s' w W) (m : Mv (ktOf T) u.s s') : TsAt T en g A c base w0 h0 gt mb h L1 L2 L3 k li lo nm D { u with s := s' } W := by
  have a := q.2
  have ne : ∀ j, 0 ≠ j → ∀ b, tsB g h gt mb k j = some b → ¬ only g b := fun j hj b e e2 => t.ap 0 j hj b (by rw [show b = g from e2]; rfl) e
  exact ⟨t.net.turn q m, t.n0, t.v1, t.v2, t.v3, t.bb, t.ag.then_ a fun i _ e => .inl e, t.sub, t.gt0, t.mb0, row_keep' t.box a (ne 5 (by decide) gt rfl), t.et, ownS_keep t.map a (ne 6 (by decide) mb rfl), t.had,
    own_keep t.rv a (ne 7 (by decide)), own_keep t.ri a (ne 8 (by decide)), own_keep t.ro a (ne 9 (by decide)), own_keep t.rc a (ne 10 (by decide)), t.ei, t.eo, t.ap,
    t.hold.keep a fun i _ e => .inr ⟨0, by rw [show i = g from e]; rfl⟩, t.iv, t.i5, t.i6, t.i9, t.i10, t.i11, t.i12, t.i13⟩
/-- The box's cells turned, the rows stay. -/
theorem TsAt.put {k' : TkV} {t' : Tk} (t : TsAt T en g A c base w0 h0 gt mb h L1 L2 L3 k li lo nm D u w) (a : AgH (only gt) w W) (hb : W.heap[gt]? = some (.cells (.pointer (some ⟨g, 0, none⟩) :: (k'.cells ++ [.map (some mb)])).toArray 168 (0, 0)))
    (et : k'.t = t') (e1 : k'.Vv = k.Vv) (e2 : k'.Vi = k.Vi) (e3 : k'.Vo = k.Vo) (e4 : k'.Vc = k.Vc) (f1 : t'.vars = u.t.vars) (f2 : t'.ins = u.t.ins) (f3 : t'.outs = u.t.outs) (f4 : t'.cancel = u.t.cancel)
    (hg : HeldH (BX base (tsB g h gt mb k)) w fun W => TrAt W k'.Ag k'.mg k'.cg t'.guard) (i5 : I64 t'.join) (i6 : I64 t'.split) (i10 : I64 t'.after) (i11 : I64 t'.m0) (i12 : I64 t'.m1) (i13 : I64 t'.m2) :
    TsAt T en g A c base w0 h0 gt mb h L1 L2 L3 k' li lo nm D { u with t := t' } W := by
  have eB : tsB g h gt mb k' = tsB g h gt mb k := by
    funext i
    match i with
    | 0 | 1 | 2 | 3 | 4 | 5 | 6 => rfl
    | 7 => show k'.Vv.ownBlock = _; rw [e1]; rfl
    | 8 => show k'.Vi.ownBlock = _; rw [e2]; rfl
    | 9 => show k'.Vo.ownBlock = _; rw [e3]; rfl
    | 10 => show k'.Vc.ownBlock = _; rw [e4]; rfl
    | n + 11 => rfl
  have ne : ∀ j, 5 ≠ j → ∀ b, tsB g h gt mb k j = some b → ¬ only gt b := fun j hj b e e2 => t.ap 5 j hj b (by rw [show b = gt from e2]; rfl) e
  have a0 : AgH (NH g h0) w0 W := t.ag.then_ a fun i hi e => by have := t.gt0; rw [show i = gt from e] at hi; omega
  obtain ⟨s0, N0⟩ := t.n0
  have N := t.net.off N0 a0 t.sub a (fun i e q => by
    have e : i = gt := e
    rcases q with q | q | q | q | q
    · exact ne 0 (by decide) g rfl (by rw [← q]; exact e)
    · exact ne 1 (by decide) i q e
    · exact ne 2 (by decide) i q e
    · exact ne 3 (by decide) i q e
    · exact ne 4 (by decide) i q e) t.v1 t.v2 t.v3
  refine ⟨N, t.n0, t.v1, t.v2, t.v3, t.bb, a0, t.sub, t.gt0, t.mb0, hb, et, ownS_keep t.map a (ne 6 (by decide) mb rfl), t.had, ?_, ?_, ?_, ?_, f2.trans t.ei, f3.trans t.eo, by rw [eB]; exact t.ap, ?_, ?_, i5, i6, ?_, i10, i11, i12, i13⟩
  · show W.ownsRow _ _ _ k'.Vv t'.vars.length (t'.vars.flatMap Vr.cells)
    rw [e1, f1]; exact own_keep t.rv a (ne 7 (by decide))
  · rw [e2]; exact own_keep t.ri a (ne 8 (by decide))
  · rw [e3]; exact own_keep t.ro a (ne 9 (by decide))
  · show W.ownsRow _ _ _ k'.Vc t'.cancel.length (intCells t'.cancel)
    rw [e4, f4]; exact own_keep t.rc a (ne 10 (by decide))
  · rw [eB]
    have h1 := t.hold.keep a fun i _ e => .inr ⟨5, by rw [show i = gt from e]; rfl⟩
    have h2 := hg.keep a fun i _ e => .inr ⟨5, by rw [show i = gt from e]; rfl⟩
    exact fun W' a' => ⟨h2 W' a', (h1 W' a').2⟩
  · intro v hv
    exact t.iv v (f1 ▸ hv)
  · intro x hx
    exact t.i9 x (f4 ▸ hx)
end
end Go.Proofs.YtkpjhjoopdbkaaaGreatDoor
namespace Go.Proofs.YtkpjhjoopdbkaaaGreatDoor
open Go.RowKit
section
variable {T : List Tok} {en : Int} {g : Nat} {A : Option Addr} {c base : Nat} {w0 : World} {h0 : Hs} {gt mb : Nat} {h : Hs} {L1 : List ColV} {L2 : List PlV} {L3 : List TkV} {k : TkV} {li lo : List ArV} {nm : Nat} {D : DataW Unit} {u : Ts} {w W : World}
abbrev BoxAt (W : World) (gt g mb : Nat) (k : TkV) : Prop := W.heap[gt]? = some (.cells (.pointer (some ⟨g, 0, none⟩) :: (k.cells ++ [.map (some mb)])).toArray 168 (0, 0))
theorem TsAt.ne_ (t : TsAt T en g A c base w0 h0 gt mb h L1 L2 L3 k li lo nm D u w) {i j : Nat} (hij : i ≠ j) {b : Nat} (hi : tsB g h gt mb k i = some b) : tsB g h gt mb k j ≠ some b := t.ap i j hij b hi
/-- A row keeps, where the box and another row turned. -/
theorem TsAt.keepR (t : TsAt T en g A c base w0 h0 gt mb h L1 L2 L3 k li lo nm D u w) {n j : Nat} (a : AgH (fun i => i = gt ∨ tsB g h gt mb k n = some i) w W) (h5 : j ≠ 5) (hn : j ≠ n) {V : Value} (hV : tsB g h gt mb k j = V.ownBlock) {b : Nat} {e : TypeId} {size m : Nat} {xs : List Value} (r : w.ownsRow b e size V m xs) : W.ownsRow b e size V m xs :=
  own_keep r a fun i hi q => by
    rw [← hV] at hi
    rcases q with q | q
    · exact t.ap 5 j (fun e => h5 e.symm) i (by rw [q]; rfl) hi
    · exact t.ap n j (fun e => hn e.symm) i q hi
theorem TsAt.old (t : TsAt T en g A c base w0 h0 gt mb h L1 L2 L3 k li lo nm D u w) {n i : Nat} (hn : 7 ≤ n) (e : tsB g h gt mb k n = some i) : w0.heap.size ≤ i := by
  match n, hn, e with
  | 7, _, e => exact (t.rv.lt i e).1
  | 8, _, e => exact (t.ri.lt i e).1
  | 9, _, e => exact (t.ro.lt i e).1
  | 10, _, e => exact (t.rc.lt i e).1
theorem TsAt.grow {k' : TkV} {t' : Tk} {li' lo' : List ArV} (n : Nat) (hn : 7 ≤ n) (t : TsAt T en g A c base w0 h0 gt mb h L1 L2 L3 k li lo nm D u w) (a : AgH (fun i => i = gt ∨ tsB g h gt mb k n = some i) w W) (hb : BoxAt W gt g mb k') (et : k'.t = t')
    (he : ∀ i, i ≠ n → tsB g h gt mb k' i = tsB g h gt mb k i) (hnb : ∀ b, tsB g h gt mb k' n = some b → tsB g h gt mb k n = some b ∨ w.heap.size ≤ b)
    (rv : W.ownsRow w0.heap.size 132 2 k'.Vv t'.vars.length (t'.vars.flatMap Vr.cells)) (ri : W.ownsRow w0.heap.size 61 4 k'.Vi li'.length (li'.flatMap ArV.cells)) (ro : W.ownsRow w0.heap.size 61 4 k'.Vo lo'.length (lo'.flatMap ArV.cells)) (rc : W.ownsRow w0.heap.size 3 1 k'.Vc t'.cancel.length (intCells t'.cancel))
    (ei : t'.ins = li'.map (·.a)) (eo : t'.outs = lo'.map (·.a)) (hg : HeldH (BX base (tsB g h gt mb k)) w fun W => TrAt W k'.Ag k'.mg k'.cg t'.guard ∧ (∀ x ∈ li', x.at_ W) ∧ ∀ x ∈ lo', x.at_ W)
    (iv : ∀ v ∈ t'.vars, I64 v.colour) (i5 : I64 t'.join) (i6 : I64 t'.split) (i9 : ∀ x ∈ t'.cancel, I64 x) (i10 : I64 t'.after) (i11 : I64 t'.m0) (i12 : I64 t'.m1) (i13 : I64 t'.m2) :
    TsAt T en g A c base w0 h0 gt mb h L1 L2 L3 k' li' lo' nm D { u with t := t' } W := by
  have a0 : AgH (NH g h0) w0 W := t.ag.then_ a fun i hi e => by
    rcases e with e | e
    · have := t.gt0; omega
    · have := t.old hn e; omega
  have n5 : ∀ i j, j ≠ 5 → j ≠ n → tsB g h gt mb k j = some i → ¬ (i = gt ∨ tsB g h gt mb k n = some i) := fun i j h5 hn q e => by
    rcases e with e | e
    · exact t.ap 5 j (fun x => h5 x.symm) i (by rw [e]; rfl) q
    · exact t.ap n j (fun x => hn x.symm) i e q
  obtain ⟨s0, N0⟩ := t.n0
  have N := t.net.off N0 a0 t.sub a (fun i e q => by
    rcases q with q | q | q | q | q
    · exact n5 i 0 (by decide) (by omega) (by rw [q]; rfl) e
    · exact n5 i 1 (by decide) (by omega) q e
    · exact n5 i 2 (by decide) (by omega) q e
    · exact n5 i 3 (by decide) (by omega) q e
    · exact n5 i 4 (by decide) (by omega) q e) t.v1 t.v2 t.v3
  exact ⟨N, t.n0, t.v1, t.v2, t.v3, t.bb, a0, t.sub, t.gt0, t.mb0, hb, et, ownS_keep t.map a (n5 mb 6 (by decide) (by omega) rfl), t.had, rv, ri, ro, rc, ei, eo, apart_upd t.ap t.lt he hnb,
    hg.move a (fun i _ e => by
      rcases e with e | e
      · exact .inr ⟨5, by rw [e]; rfl⟩
      · exact .inr ⟨n, e⟩) fun i hi e => Or.imp_right (bh_upd he hnb i hi) e, iv, i5, i6, i9, i10, i11, i12, i13⟩
/-- What an append and a store leave. -/
theorem TsAt.app {n : Nat} {V V' : Value} {w' : World} {off : Nat} (hn : 7 ≤ n) (t : TsAt T en g A c base w0 h0 gt mb h L1 L2 L3 k li lo nm D u w) (o : Obj) (hV : tsB g h gt mb k n = V.ownBlock) (hg : (w.alloc o).grownBy w' V.ownBlock) :
    AgH (fun i => i = gt ∨ tsB g h gt mb k n = some i) w (w'.setCell ⟨gt, off, none⟩ V') ∧ (w'.setCell ⟨gt, off, none⟩ V').heap[gt]? = some (.cells ((.pointer (some ⟨g, 0, none⟩) :: (k.cells ++ [.map (some mb)])).toArray.setIfInBounds off V') 168 (0, 0)) := by
  have aL : AgH (fun _ => False) w (w.alloc o) := AgH.of_below (alrB w o)
  have a1 : AgH (fun i => V.ownBlock = some i) (w.alloc o) w' := (AgH.refl _ _).grown hg fun i e _ => e
  have a2 : AgH (only gt) w' (w'.setCell ⟨gt, off, none⟩ V') := (AgH.refl (only gt) _).setCell (.inl rfl) _
  refine ⟨((aL.mono fun _ _ e => e.elim).trans (a1.mono fun _ _ e => .inr (hV.trans e))).trans (a2.mono fun _ _ e => .inl e), ?_⟩
  refine row_put ?_ off V'
  exact row_keep' (row_keep' (H := fun _ => False) t.box aL fun e => e) a1 fun e => t.ap 5 n (by omega) gt rfl (hV.trans e)
theorem TsAt.push_v (t : TsAt T en g A c base w0 h0 gt mb h L1 L2 L3 k li lo nm D u w) (o : Obj) (x : Vr) (hx : I64 x.colour) {w' : World} {A' : Option Addr} {n' c' : Nat} (hO : w'.ownsRow w0.heap.size 132 2 (.slice A' n' c') (u.t.vars.length + 1) (u.t.vars.flatMap Vr.cells ++ x.cells)) (hg : (w.alloc o).grownBy w' k.Vv.ownBlock)
    (hat : (Value.slice A' n' c').ownBlock = k.Vv.ownBlock ∨ (Value.slice A' n' c').ownBlock = some (w.alloc o).heap.size) :
    TsAt T en g A c base w0 h0 gt mb h L1 L2 L3 { k with Av := A', nv := n', cv := c', t := { u.t with vars := u.t.vars ++ [x] } } (li) (lo) nm D { u with t := { u.t with vars := u.t.vars ++ [x] } } (w'.setCell ⟨gt, 2, none⟩ (.slice A' n' c')) := by
  obtain ⟨a, hb⟩ := t.app (n := 7) (off := 2) (V' := .slice A' n' c') (V := k.Vv) (by decide) o rfl hg
  have sz : (w.alloc o).heap.size = w.heap.size + 1 := World.size_alloc _ _
  have et := t.et
  obtain ⟨ut, uh, us⟩ := u
  simp only at et
  subst et
  have aG : AgH (only gt) w' (w'.setCell ⟨gt, 2, none⟩ (.slice A' n' c')) := (AgH.refl (only gt) _).setCell (.inl rfl) _
  have hgl : gt < w.heap.size := t.lt 5 gt rfl
  have ng : ∀ i, (Value.slice A' n' c').ownBlock = some i → ¬ only gt i := fun i hi e => by
    rcases hat with q | q
    · exact t.ap 5 7 (by decide) gt rfl (q.symm.trans (hi.trans (by rw [show i = gt from e])))
    · rw [q] at hi
      injection hi with hi
      have e : i = gt := e
      omega
  refine t.grow 7 (by decide) a hb rfl (fun i hi => ?_) (fun b hb => ?_) (own_keep (by show w'.ownsRow _ _ _ (.slice A' n' c') (k.t.vars ++ [x]).length ((k.t.vars ++ [x]).flatMap Vr.cells); rw [List.length_append, List.flatMap_append, show [x].flatMap Vr.cells = x.cells by simp]; exact hO) aG ng) (t.keepR a (j := 8) (by decide) (by decide) rfl t.ri) (t.keepR a (j := 9) (by decide) (by decide) rfl t.ro) (t.keepR a (j := 10) (by decide) (by decide) rfl t.rc) t.ei t.eo t.hold (fun v hv => (List.mem_append.1 hv).elim (t.iv v) fun e => by rw [List.mem_singleton.1 e]; exact hx) t.i5 t.i6 t.i9 t.i10 t.i11 t.i12 t.i13
  · match i, hi with
    | 0, _ => rfl
    | 1, _ => rfl
    | 2, _ => rfl
    | 3, _ => rfl
    | 4, _ => rfl
    | 5, _ => rfl
    | 6, _ => rfl
    | 8, _ => rfl
    | 9, _ => rfl
    | 10, _ => rfl
    | 7, hi => exact absurd rfl hi
    | n + 11, _ => rfl
  · rcases hat with q | q
    · exact .inl (q.symm.trans hb)
    · right
      rw [show tsB g h gt mb _ 7 = (Value.slice A' n' c').ownBlock from rfl, q] at hb
      injection hb with hb
      omega
theorem TsAt.push_i (t : TsAt T en g A c base w0 h0 gt mb h L1 L2 L3 k li lo nm D u w) (o : Obj) (x : ArV) (hx : HeldH (BX base (tsB g h gt mb k)) w x.at_) {w' : World} {A' : Option Addr} {n' c' : Nat} (hO : w'.ownsRow w0.heap.size 61 4 (.slice A' n' c') (li.length + 1) (li.flatMap ArV.cells ++ x.cells)) (hg : (w.alloc o).grownBy w' k.Vi.ownBlock)
    (hat : (Value.slice A' n' c').ownBlock = k.Vi.ownBlock ∨ (Value.slice A' n' c').ownBlock = some (w.alloc o).heap.size) :
    TsAt T en g A c base w0 h0 gt mb h L1 L2 L3 { k with Ai := A', ni := n', ci := c', t := { u.t with ins := u.t.ins ++ [x.a] } } (li ++ [x]) (lo) nm D { u with t := { u.t with ins := u.t.ins ++ [x.a] } } (w'.setCell ⟨gt, 8, none⟩ (.slice A' n' c')) := by
  obtain ⟨a, hb⟩ := t.app (n := 8) (off := 8) (V' := .slice A' n' c') (V := k.Vi) (by decide) o rfl hg
  have sz : (w.alloc o).heap.size = w.heap.size + 1 := World.size_alloc _ _
  have et := t.et
  obtain ⟨ut, uh, us⟩ := u
  simp only at et
  subst et
  have aG : AgH (only gt) w' (w'.setCell ⟨gt, 8, none⟩ (.slice A' n' c')) := (AgH.refl (only gt) _).setCell (.inl rfl) _
  have hgl : gt < w.heap.size := t.lt 5 gt rfl
  have ng : ∀ i, (Value.slice A' n' c').ownBlock = some i → ¬ only gt i := fun i hi e => by
    rcases hat with q | q
    · exact t.ap 5 8 (by decide) gt rfl (q.symm.trans (hi.trans (by rw [show i = gt from e])))
    · rw [q] at hi
      injection hi with hi
      have e : i = gt := e
      omega
  refine t.grow 8 (by decide) a hb rfl (fun i hi => ?_) (fun b hb => ?_) (t.keepR a (j := 7) (by decide) (by decide) rfl t.rv) (own_keep (by rw [List.length_append, List.flatMap_append, show [x].flatMap ArV.cells = x.cells by simp]; exact hO) aG ng) (t.keepR a (j := 9) (by decide) (by decide) rfl t.ro) (t.keepR a (j := 10) (by decide) (by decide) rfl t.rc) (by show k.t.ins ++ [x.a] = _; rw [List.map_append, ← show k.t.ins = li.map (·.a) from t.ei]; rfl) t.eo (fun W' a' => ⟨(t.hold W' a').1, fun y hy => (List.mem_append.1 hy).elim ((t.hold W' a').2.1 y) fun e => by rw [List.mem_singleton.1 e]; exact hx W' a', (t.hold W' a').2.2⟩) t.iv t.i5 t.i6 t.i9 t.i10 t.i11 t.i12 t.i13
  · match i, hi with
    | 0, _ => rfl
    | 1, _ => rfl
    | 2, _ => rfl
    | 3, _ => rfl
    | 4, _ => rfl
    | 5, _ => rfl
    | 6, _ => rfl
    | 7, _ => rfl
    | 9, _ => rfl
    | 10, _ => rfl
    | 8, hi => exact absurd rfl hi
    | n + 11, _ => rfl
  · rcases hat with q | q
    · exact .inl (q.symm.trans hb)
    · right
      rw [show tsB g h gt mb _ 8 = (Value.slice A' n' c').ownBlock from rfl, q] at hb
      injection hb with hb
      omega
theorem TsAt.push_o (t : TsAt T en g A c base w0 h0 gt mb h L1 L2 L3 k li lo nm D u w) (o : Obj) (x : ArV) (hx : HeldH (BX base (tsB g h gt mb k)) w x.at_) {w' : World} {A' : Option Addr} {n' c' : Nat} (hO : w'.ownsRow w0.heap.size 61 4 (.slice A' n' c') (lo.length + 1) (lo.flatMap ArV.cells ++ x.cells)) (hg : (w.alloc o).grownBy w' k.Vo.ownBlock)
    (hat : (Value.slice A' n' c').ownBlock = k.Vo.ownBlock ∨ (Value.slice A' n' c').ownBlock = some (w.alloc o).heap.size) :
    TsAt T en g A c base w0 h0 gt mb h L1 L2 L3 { k with Ao := A', no := n', co := c', t := { u.t with outs := u.t.outs ++ [x.a] } } (li) (lo ++ [x]) nm D { u with t := { u.t with outs := u.t.outs ++ [x.a] } } (w'.setCell ⟨gt, 9, none⟩ (.slice A' n' c')) := by
  obtain ⟨a, hb⟩ := t.app (n := 9) (off := 9) (V' := .slice A' n' c') (V := k.Vo) (by decide) o rfl hg
  have sz : (w.alloc o).heap.size = w.heap.size + 1 := World.size_alloc _ _
  have et := t.et
  obtain ⟨ut, uh, us⟩ := u
  simp only at et
  subst et
  have aG : AgH (only gt) w' (w'.setCell ⟨gt, 9, none⟩ (.slice A' n' c')) := (AgH.refl (only gt) _).setCell (.inl rfl) _
  have hgl : gt < w.heap.size := t.lt 5 gt rfl
  have ng : ∀ i, (Value.slice A' n' c').ownBlock = some i → ¬ only gt i := fun i hi e => by
    rcases hat with q | q
    · exact t.ap 5 9 (by decide) gt rfl (q.symm.trans (hi.trans (by rw [show i = gt from e])))
    · rw [q] at hi
      injection hi with hi
      have e : i = gt := e
      omega
  refine t.grow 9 (by decide) a hb rfl (fun i hi => ?_) (fun b hb => ?_) (t.keepR a (j := 7) (by decide) (by decide) rfl t.rv) (t.keepR a (j := 8) (by decide) (by decide) rfl t.ri) (own_keep (by rw [List.length_append, List.flatMap_append, show [x].flatMap ArV.cells = x.cells by simp]; exact hO) aG ng) (t.keepR a (j := 10) (by decide) (by decide) rfl t.rc) t.ei (by show k.t.outs ++ [x.a] = _; rw [List.map_append, ← show k.t.outs = lo.map (·.a) from t.eo]; rfl) (fun W' a' => ⟨(t.hold W' a').1, (t.hold W' a').2.1, fun y hy => (List.mem_append.1 hy).elim ((t.hold W' a').2.2 y) fun e => by rw [List.mem_singleton.1 e]; exact hx W' a'⟩) t.iv t.i5 t.i6 t.i9 t.i10 t.i11 t.i12 t.i13
  · match i, hi with
    | 0, _ => rfl
    | 1, _ => rfl
    | 2, _ => rfl
    | 3, _ => rfl
    | 4, _ => rfl
    | 5, _ => rfl
    | 6, _ => rfl
    | 7, _ => rfl
    | 8, _ => rfl
    | 10, _ => rfl
    | 9, hi => exact absurd rfl hi
    | n + 11, _ => rfl
  · rcases hat with q | q
    · exact .inl (q.symm.trans hb)
    · right
      rw [show tsB g h gt mb _ 9 = (Value.slice A' n' c').ownBlock from rfl, q] at hb
      injection hb with hb
      omega
theorem TsAt.push_c (t : TsAt T en g A c base w0 h0 gt mb h L1 L2 L3 k li lo nm D u w) (o : Obj) (x : Int) (hx : I64 x) {w' : World} {A' : Option Addr} {n' c' : Nat} (hO : w'.ownsRow w0.heap.size 3 1 (.slice A' n' c') (u.t.cancel.length + 1) (intCells u.t.cancel ++ [.int .i64 x])) (hg : (w.alloc o).grownBy w' k.Vc.ownBlock)
    (hat : (Value.slice A' n' c').ownBlock = k.Vc.ownBlock ∨ (Value.slice A' n' c').ownBlock = some (w.alloc o).heap.size) :
    TsAt T en g A c base w0 h0 gt mb h L1 L2 L3 { k with Ac := A', nc := n', cc := c', t := { u.t with cancel := u.t.cancel ++ [x] } } (li) (lo) nm D { u with t := { u.t with cancel := u.t.cancel ++ [x] } } (w'.setCell ⟨gt, 10, none⟩ (.slice A' n' c')) := by
  obtain ⟨a, hb⟩ := t.app (n := 10) (off := 10) (V' := .slice A' n' c') (V := k.Vc) (by decide) o rfl hg
  have sz : (w.alloc o).heap.size = w.heap.size + 1 := World.size_alloc _ _
  have et := t.et
  obtain ⟨ut, uh, us⟩ := u
  simp only at et
  subst et
  have aG : AgH (only gt) w' (w'.setCell ⟨gt, 10, none⟩ (.slice A' n' c')) := (AgH.refl (only gt) _).setCell (.inl rfl) _
  have hgl : gt < w.heap.size := t.lt 5 gt rfl
  have ng : ∀ i, (Value.slice A' n' c').ownBlock = some i → ¬ only gt i := fun i hi e => by
    rcases hat with q | q
    · exact t.ap 5 10 (by decide) gt rfl (q.symm.trans (hi.trans (by rw [show i = gt from e])))
    · rw [q] at hi
      injection hi with hi
      have e : i = gt := e
      omega
  refine t.grow 10 (by decide) a hb rfl (fun i hi => ?_) (fun b hb => ?_) (t.keepR a (j := 7) (by decide) (by decide) rfl t.rv) (t.keepR a (j := 8) (by decide) (by decide) rfl t.ri) (t.keepR a (j := 9) (by decide) (by decide) rfl t.ro) (own_keep (by show w'.ownsRow _ _ _ (.slice A' n' c') (k.t.cancel ++ [x]).length (intCells (k.t.cancel ++ [x])); rw [List.length_append, show intCells (k.t.cancel ++ [x]) = intCells k.t.cancel ++ [Value.int .i64 x] by simp [intCells]]; exact hO) aG ng) t.ei t.eo t.hold t.iv t.i5 t.i6 (fun v hv => (List.mem_append.1 hv).elim (t.i9 v) fun e => by rw [List.mem_singleton.1 e]; exact hx) t.i10 t.i11 t.i12 t.i13
  · match i, hi with
    | 0, _ => rfl
    | 1, _ => rfl
    | 2, _ => rfl
    | 3, _ => rfl
    | 4, _ => rfl
    | 5, _ => rfl
    | 6, _ => rfl
    | 7, _ => rfl
    | 8, _ => rfl
    | 9, _ => rfl
    | 10, hi => exact absurd rfl hi
    | n + 11, _ => rfl
  · rcases hat with q | q
    · exact .inl (q.symm.trans hb)
    · right
      rw [show tsB g h gt mb _ 10 = (Value.slice A' n' c').ownBlock from rfl, q] at hb
      injection hb with hb
      omega
/-- The parser's variables turned. -/
theorem TsAt.var4 {h' : Hs} {s' : Ps} (t : TsAt T en g A c base w0 h0 gt mb h L1 L2 L3 k li lo nm D u w) (N' : NAt T en g A c base h' L1 L2 L3 s' W) (a : AgH (NH g h) w W) (hs : ∀ i, i < w.heap.size → NH g h' i → NH g h i) (e1 : h'.V1 = h.V1) (e2 : h'.V2 = h.V2) (e3 : h'.V3 = h.V3) (hat : ∀ b, h'.V4.ownBlock = some b → h.V4.ownBlock = some b ∨ w.heap.size ≤ b) :
    TsAt T en g A c base w0 h0 gt mb h' L1 L2 L3 k li lo nm D { u with s := s' } W := by
  have ne : ∀ j, 5 ≤ j → ∀ i, tsB g h gt mb k j = some i → ¬ NH g h i := fun j hj i q e => by
    rcases e with e | e | e | e | e
    · exact t.ap 0 j (by omega) i (by rw [e]; rfl) q
    · exact t.ap 1 j (by omega) i e q
    · exact t.ap 2 j (by omega) i e q
    · exact t.ap 3 j (by omega) i e q
    · exact t.ap 4 j (by omega) i e q
  have he : ∀ i, i ≠ 4 → tsB g h' gt mb k i = tsB g h gt mb k i := fun i hi => by
    match i, hi with
    | 0, _ => rfl
    | 1, _ => show h'.V1.ownBlock = _; rw [e1]; rfl
    | 2, _ => show h'.V2.ownBlock = _; rw [e2]; rfl
    | 3, _ => show h'.V3.ownBlock = _; rw [e3]; rfl
    | 4, hi => exact absurd rfl hi
    | 5, _ => rfl
    | 6, _ => rfl
    | 7, _ => rfl
    | 8, _ => rfl
    | 9, _ => rfl
    | 10, _ => rfl
    | n + 11, _ => rfl
  exact ⟨N', t.n0, e1.trans t.v1, e2.trans t.v2, e3.trans t.v3, t.bb, t.ag.then_ a fun i hi e => t.sub i hi e, fun i hi e => t.sub i hi (hs i (Nat.lt_of_lt_of_le hi t.ag.size) e), t.gt0, t.mb0, row_keep' t.box a (ne 5 (by decide) gt rfl), t.et, ownS_keep t.map a (ne 6 (by decide) mb rfl), t.had,
    own_keep t.rv a (ne 7 (by decide)), own_keep t.ri a (ne 8 (by decide)), own_keep t.ro a (ne 9 (by decide)), own_keep t.rc a (ne 10 (by decide)), t.ei, t.eo, apart_upd t.ap t.lt he hat,
    t.hold.move a (fun i _ e => by
      rcases e with e | e | e | e | e
      · exact .inr ⟨0, by rw [e]; rfl⟩
      · exact .inr ⟨1, e⟩
      · exact .inr ⟨2, e⟩
      · exact .inr ⟨3, e⟩
      · exact .inr ⟨4, e⟩) fun i hi e => Or.imp_right (bh_upd he hat i hi) e, t.iv, t.i5, t.i6, t.i9, t.i10, t.i11, t.i12, t.i13⟩
/-- The words so far turned. -/
theorem TsAt.put6 {nm' : Nat} {D' : DataW Unit} {l' : List ByteArray} (t : TsAt T en g A c base w0 h0 gt mb h L1 L2 L3 k li lo nm D u w) (a : AgH (only mb) w W) (hm : OwnS W mb nm' D') (hd : HadOf D' (l'.map (·.data.toList))) :
    TsAt T en g A c base w0 h0 gt mb h L1 L2 L3 k li lo nm' D' { u with had := l' } W := by
  have ne : ∀ j, j ≠ 6 → ∀ i, tsB g h gt mb k j = some i → ¬ only mb i := fun j hj i q e => t.ap 6 j (fun x => hj x.symm) i (by rw [show i = mb from e]; rfl) q
  have a0 : AgH (NH g h0) w0 W := t.ag.then_ a fun i hi e => by have := t.mb0; rw [show i = mb from e] at hi; omega
  obtain ⟨s0, N0⟩ := t.n0
  have N := t.net.off N0 a0 t.sub a (fun i e q => by
    rcases q with q | q | q | q | q
    · exact ne 0 (by decide) i (by rw [q]; rfl) e
    · exact ne 1 (by decide) i q e
    · exact ne 2 (by decide) i q e
    · exact ne 3 (by decide) i q e
    · exact ne 4 (by decide) i q e) t.v1 t.v2 t.v3
  exact ⟨N, t.n0, t.v1, t.v2, t.v3, t.bb, a0, t.sub, t.gt0, t.mb0, row_keep' t.box a (ne 5 (by decide) gt rfl), t.et, hm, hd,
    own_keep t.rv a (ne 7 (by decide)), own_keep t.ri a (ne 8 (by decide)), own_keep t.ro a (ne 9 (by decide)), own_keep t.rc a (ne 10 (by decide)), t.ei, t.eo, t.ap,
    t.hold.keep a fun i _ e => .inr ⟨6, by rw [show i = mb from e]; rfl⟩, t.iv, t.i5, t.i6, t.i9, t.i10, t.i11, t.i12, t.i13⟩
end
end Go.Proofs.YtkpjhjoopdbkaaaGreatDoor
