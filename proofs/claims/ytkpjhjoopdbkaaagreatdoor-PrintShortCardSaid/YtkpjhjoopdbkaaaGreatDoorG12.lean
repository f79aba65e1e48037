/- Joined: Package parse: told, Expr. Printed by gen_paG.py. The net under way, in memory. Printed by gen_paN.py. The net's rows grow. Printed by gen_paO.py. -/
import Derived.Test.YtkpjhjoopdbkaaaGreatDoorG11
namespace Go.Proofs.YtkpjhjoopdbkaaaGreatDoor
open Go.RowKit
section
variable {T : List Tok} {en : Int} {g : Nat} {A : Option Addr} {c : Nat} {h : Hs} {s : Ps}
end
end Go.Proofs.YtkpjhjoopdbkaaaGreatDoor
namespace Go.Proofs.YtkpjhjoopdbkaaaGreatDoor
open Go.RowKit
/-- A colour, its names' slice. -/
structure ColV where
  c : Col
  A : Option Addr
  n : Nat
  d : Nat
def ColV.cells (k : ColV) : List Value := [.string k.c.name, .int .i64 k.c.kind, .int .i64 k.c.lo, .int .i64 k.c.hi, .slice k.A k.n k.d, .int .i64 k.c.first, .int .i64 k.c.then_]
def ColV.at_ (k : ColV) (W : World) : Prop := Sl W (.slice k.A k.n k.d) k.n 1 (strCells k.c.names) ∧ k.c.ok
/-- A place, its tokens' slice. -/
structure PlV where
  p : Pl
  A : Option Addr
  n : Nat
  d : Nat
def PlV.cells (k : PlV) : List Value := [.string k.p.name, .int .i64 k.p.colour, .slice k.A k.n k.d]
def PlV.at_ (k : PlV) (W : World) : Prop := Sl W (.slice k.A k.n k.d) k.n 2 (pairCells k.p.first) ∧ I64 k.p.colour ∧ ∀ q ∈ k.p.first, I64 q.1 ∧ I64 q.2
/-- A task, its slices. -/
structure TkV where
  t : Tk
  Av : Option Addr
  nv : Nat
  cv : Nat
  Ag : Option Addr
  mg : Nat
  cg : Nat
  Ai : Option Addr
  ni : Nat
  ci : Nat
  Ao : Option Addr
  no : Nat
  co : Nat
  Ac : Option Addr
  nc : Nat
  cc : Nat
def TkV.cells (k : TkV) : List Value := [.string k.t.name, .slice k.Av k.nv k.cv, .int .i64 k.t.guard.kind, .int .i64 k.t.guard.num, .slice k.Ag k.mg k.cg, .int .i64 k.t.join, .int .i64 k.t.split, .slice k.Ai k.ni k.ci, .slice k.Ao k.no k.co, .slice k.Ac k.nc k.cc, .int .i64 k.t.after, .int .i64 k.t.m0, .int .i64 k.t.m1, .int .i64 k.t.m2]
structure TkV.at_ (k : TkV) (W : World) : Prop where
  vars : SlOf 2 VrAt W k.Av k.nv k.cv k.t.vars
  guard : TrAt W k.Ag k.mg k.cg k.t.guard
  ins : SlOf 4 ArAt W k.Ai k.ni k.ci k.t.ins
  outs : SlOf 4 ArAt W k.Ao k.no k.co k.t.outs
  cancel : Sl W (.slice k.Ac k.nc k.cc) k.nc 1 (intCells k.t.cancel)
  i5 : I64 k.t.join
  i6 : I64 k.t.split
  i9 : ∀ x ∈ k.t.cancel, I64 x
  i10 : I64 k.t.after
  i11 : I64 k.t.m0
  i12 : I64 k.t.m1
  i13 : I64 k.t.m2
abbrev Hs.V1 (h : Hs) : Value := .slice h.A1 h.n1 h.c1
abbrev Hs.V2 (h : Hs) : Value := .slice h.A2 h.n2 h.c2
abbrev Hs.V3 (h : Hs) : Value := .slice h.A3 h.n3 h.c3
abbrev Hs.V4 (h : Hs) : Value := .slice h.A4 h.n4 h.c4
/-- The blocks that a reader of nets turns: the parser's, the rows'. -/
def NH (g : Nat) (h : Hs) : Nat → Prop := fun i => i = g ∨ h.V1.ownBlock = some i ∨ h.V2.ownBlock = some i ∨ h.V3.ownBlock = some i ∨ h.V4.ownBlock = some i
/-- These, and what was there before. -/
abbrev NX (base g : Nat) (h : Hs) : Nat → Prop := fun i => i < base ∨ NH g h i
/-- Two rows' blocks are not one. -/
def Apart (V V' : Value) : Prop := ∀ i, V.ownBlock = some i → V'.ownBlock ≠ some i
/-- The parser, the net so far in rows of its own. -/
structure NAt (T : List Tok) (en : Int) (g : Nat) (A : Option Addr) (c : Nat) (base : Nat) (h : Hs) (L1 : List ColV) (L2 : List PlV) (L3 : List TkV) (s : Ps) (w : World) : Prop where
  blk : PBlk w g A T.length c s.at_ en s.err (placeT T en s) h
  at_ : s.at_ ≤ T.length
  small : TokS T
  gb : g < base
  lb : base ≤ w.heap.size
  toks : HeldH (NH g h) w fun W => Sl W (.slice A T.length c) T.length 3 (toksCells T)
  tab : HeldH (NH g h) w TabOk
  e1 : s.cols = L1.map (·.c)
  e2 : s.pls = L2.map (·.p)
  e3 : s.tks = L3.map (·.t)
  e4 : h.f = s.from_
  e5 : h.t = s.to_
  r1 : OwnR 7 ColV.cells ColV.at_ 82 base (NX base g h) h.V1 L1 w
  r2 : OwnR 3 PlV.cells PlV.at_ 66 base (NX base g h) h.V2 L2 w
  r3 : OwnR 14 TkV.cells TkV.at_ 59 base (NX base g h) h.V3 L3 w
  r4 : w.ownsRow base 9 1 h.V4 s.vars.length (strCells s.vars)
  a12 : Apart h.V1 h.V2
  a13 : Apart h.V1 h.V3
  a14 : Apart h.V1 h.V4
  a23 : Apart h.V2 h.V3
  a24 : Apart h.V2 h.V4
  a34 : Apart h.V3 h.V4
  i4 : I64 s.from_
  i5 : I64 s.to_
theorem Apart.symm {V V' : Value} (h : Apart V V') : Apart V' V := fun i e e' => h i e' e
section
variable {T : List Tok} {en : Int} {g : Nat} {A : Option Addr} {c base : Nat} {h : Hs} {L1 : List ColV} {L2 : List PlV} {L3 : List TkV} {s : Ps} {w W : World}
theorem NAt.lt1 (N : NAt T en g A c base h L1 L2 L3 s w) {i : Nat} (e : h.V1.ownBlock = some i) : base ≤ i ∧ i < w.heap.size := N.r1.own.lt i e
theorem NAt.lt2 (N : NAt T en g A c base h L1 L2 L3 s w) {i : Nat} (e : h.V2.ownBlock = some i) : base ≤ i ∧ i < w.heap.size := N.r2.own.lt i e
theorem NAt.lt3 (N : NAt T en g A c base h L1 L2 L3 s w) {i : Nat} (e : h.V3.ownBlock = some i) : base ≤ i ∧ i < w.heap.size := N.r3.own.lt i e
theorem NAt.lt4 (N : NAt T en g A c base h L1 L2 L3 s w) {i : Nat} (e : h.V4.ownBlock = some i) : base ≤ i ∧ i < w.heap.size := N.r4.lt i e
theorem NAt.ne1 (N : NAt T en g A c base h L1 L2 L3 s w) : h.V1.ownBlock ≠ some g := fun e => by have := (N.lt1 e).1; have := N.gb; omega
theorem NAt.ne2 (N : NAt T en g A c base h L1 L2 L3 s w) : h.V2.ownBlock ≠ some g := fun e => by have := (N.lt2 e).1; have := N.gb; omega
theorem NAt.ne3 (N : NAt T en g A c base h L1 L2 L3 s w) : h.V3.ownBlock ≠ some g := fun e => by have := (N.lt3 e).1; have := N.gb; omega
theorem NAt.ne4 (N : NAt T en g A c base h L1 L2 L3 s w) : h.V4.ownBlock ≠ some g := fun e => by have := (N.lt4 e).1; have := N.gb; omega
/-- A row of one's own, read whatever else turns. -/
theorem held_own {w : World} {b : Nat} {e : TypeId} {size n : Nat} {v : Value} {xs : List Value} {H : Nat → Prop} (h : w.ownsRow b e size v n xs) (hn : ∀ i, v.ownBlock = some i → ¬ H i) : HeldH H w fun W => Sl W v n size xs :=
  fun _ a => Sl.of_own (own_keep h a hn)
/-- The parser alone. -/
theorem NAt.pat (N : NAt T en g A c base h L1 L2 L3 s w) : PAt T en g A c h s w := by
  refine ⟨N.blk, N.at_, N.small, N.toks.mono fun i _ e => .inl e, N.tab.mono fun i _ e => .inl e, ?_⟩
  have hl := N.r4.1
  rcases hv : h.V4.ownBlock with _ | i
  all_goals
    have h4 := held_own (H := only g) N.r4 fun i hi e => N.ne4 (by rw [hi]; exact congrArg some e)
    obtain ⟨A4, c4, e4, hc⟩ := own_form N.r4
    have e5 : h.n4 = s.vars.length := by
      have e6 : (Value.slice h.A4 h.n4 h.c4) = .slice A4 s.vars.length c4 := e4
      injection e6
    rw [e5]
    intro W a
    have := h4 W a
    unfold Hs.V4 at this
    rw [e5] at this
    exact this
/-- A call that turned the parser alone. -/
theorem NAt.turn {s' : Ps} (N : NAt T en g A c base h L1 L2 L3 s w) (k : Turned T en g A c h s' w W) (m : Mv (ktOf T) s s') : NAt T en g A c base h L1 L2 L3 s' W := by
  have a := k.2
  refine ⟨k.1.blk, k.1.at_, N.small, N.gb, Nat.le_trans N.lb a.size, ?_, ?_, m.cols.trans N.e1, m.pls.trans N.e2, m.tks.trans N.e3, N.e4.trans m.from_.symm, N.e5.trans m.to_.symm, ?_, ?_, ?_, ?_, N.a12, N.a13, N.a14, N.a23, N.a24, N.a34, ?_, ?_⟩
  · exact N.toks.keep a fun i _ e => .inl e
  · exact N.tab.keep a fun i _ e => .inl e
  · exact N.r1.keep a fun i _ e => ⟨.inr (.inl e), by rw [show i = g from e]; exact N.ne1⟩
  · exact N.r2.keep a fun i _ e => ⟨.inr (.inl e), by rw [show i = g from e]; exact N.ne2⟩
  · exact N.r3.keep a fun i _ e => ⟨.inr (.inl e), by rw [show i = g from e]; exact N.ne3⟩
  · rw [m.vars]; exact own_keep N.r4 a fun i hi e => N.ne4 (by rw [hi]; exact congrArg some e)
  · rw [m.from_]; exact N.i4
  · rw [m.to_]; exact N.i5
/-- What reads a part of a net leaves. -/
def NTurn (T : List Tok) (en : Int) (g : Nat) (A : Option Addr) (c base : Nat) (h : Hs) (s' : Ps) (w w' : World) : Prop :=
  ∃ h' L1' L2' L3', NAt T en g A c base h' L1' L2' L3' s' w' ∧ AgH (NH g h) w w' ∧ ∀ i, i < w.heap.size → NH g h' i → NH g h i
theorem NTurn.of_turn {s' : Ps} (N : NAt T en g A c base h L1 L2 L3 s w) (k : Turned T en g A c h s' w W) (m : Mv (ktOf T) s s') : NTurn T en g A c base h s' w W :=
  ⟨h, L1, L2, L3, N.turn k m, k.2.mono fun _ _ e => .inl e, fun _ _ e => e⟩
end
end Go.Proofs.YtkpjhjoopdbkaaaGreatDoor
namespace Go.Proofs.YtkpjhjoopdbkaaaGreatDoor
open Go.RowKit
theorem OwnR.move {α : Type} {size : Nat} {cells : α → List Value} {Q : α → World → Prop} {ty : TypeId} {base : Nat} {H H' Ha : Nat → Prop} {V : Value} {l : List α} {w W : World} (h : OwnR size cells Q ty base H V l w) (a : AgH Ha w W) (h1 : ∀ i, i < w.heap.size → Ha i → H i ∧ V.ownBlock ≠ some i) (h2 : ∀ i, i < w.heap.size → H' i → H i ∨ V.ownBlock = some i) : OwnR size cells Q ty base H' V l W :=
  ⟨own_keep h.own a fun k hk e => (h1 k (h.own.lt k hk).2 e).2 hk, fun x hx W' a' => h.held x hx W' ((a.mono fun i hi e => .inl (h1 i hi e).1).then_ a' fun i hi e => by
    rcases e with e | e
    · exact h2 i hi e
    · exact .inr e)⟩
theorem HeldH.move {H H' Ha : Nat → Prop} {w W : World} {Q : World → Prop} (h : HeldH H w Q) (a : AgH Ha w W) (h1 : ∀ i, i < w.heap.size → Ha i → H i) (h2 : ∀ i, i < w.heap.size → H' i → H i) : HeldH H' W Q :=
  fun W' a' => h W' ((a.mono h1).then_ a' h2)
section
variable {T : List Tok} {en : Int} {g : Nat} {A : Option Addr} {c base : Nat} {h : Hs} {L1 : List ColV} {L2 : List PlV} {L3 : List TkV} {s : Ps} {w w' : World}
theorem NAt.push1 (N : NAt T en g A c base h L1 L2 L3 s w) (o : Obj) (x : ColV) (hx : HeldH (NX base g h) w x.at_) {A' : Option Addr} {n' c' : Nat} (hO : w'.ownsRow base 82 7 (.slice A' n' c') (L1.length + 1) (L1.flatMap ColV.cells ++ x.cells)) (hg : (w.alloc o).grownBy w' h.V1.ownBlock)
    (hat : (Value.slice A' n' c').ownBlock = h.V1.ownBlock ∨ (Value.slice A' n' c').ownBlock = some (w.alloc o).heap.size) :
    NAt T en g A c base { h with A1 := A', n1 := n', c1 := c' } (L1 ++ [x]) L2 L3 { s with cols := s.cols ++ [x.c] } (w'.setCell ⟨g, 5, none⟩ (.slice A' n' c')) ∧ AgH (NH g h) w (w'.setCell ⟨g, 5, none⟩ (.slice A' n' c')) ∧ ∀ i, i < w.heap.size → NH g { h with A1 := A', n1 := n', c1 := c' } i → NH g h i := by
  have sz : (w.alloc o).heap.size = w.heap.size + 1 := World.size_alloc _ _
  have aL : AgH (fun _ => False) w (w.alloc o) := AgH.of_below (alrB w o)
  have a1 : AgH (fun i => h.V1.ownBlock = some i) (w.alloc o) w' := (AgH.refl _ _).grown hg fun i e _ => e
  have a2 : AgH (only g) w' (w'.setCell ⟨g, 5, none⟩ (.slice A' n' c')) := (AgH.refl (only g) _).setCell (.inl rfl) _
  have aA : AgH (fun i => i = g ∨ h.V1.ownBlock = some i) w (w'.setCell ⟨g, 5, none⟩ (.slice A' n' c')) := ((aL.mono fun _ _ e => e.elim).trans (a1.mono fun _ _ e => .inr e)).trans (a2.mono fun _ _ e => .inl e)
  have aN : AgH (NH g h) w (w'.setCell ⟨g, 5, none⟩ (.slice A' n' c')) := aA.mono fun i _ e => by
    rcases e with e | e
    · exact .inl e
    · exact .inr (.inl e)
  have sub : ∀ i, i < w.heap.size → NH g { h with A1 := A', n1 := n', c1 := c' } i → NH g h i := fun i hi e => by
    rcases e with e | e | e | e | e
    · exact .inl e
    · rcases hat with h1 | h1
      · exact .inr (.inl (h1 ▸ e))
      · rw [show ({ h with A1 := A', n1 := n', c1 := c' } : Hs).V1 = .slice A' n' c' from rfl, h1] at e
        injection e with e
        omega
    · exact .inr (.inr (.inl e))
    · exact .inr (.inr (.inr (.inl e)))
    · exact .inr (.inr (.inr (.inr e)))
  have apK : ∀ {V' : Value}, Apart h.V1 V' → (∀ i, V'.ownBlock = some i → i < w.heap.size) → Apart (.slice A' n' c') V' := fun hap hlt i e e' => by
    rcases hat with h1 | h1
    · exact hap i (h1 ▸ e) e'
    · have := hlt i e'
      rw [h1] at e
      injection e with e
      omega
  refine ⟨?_, aN, sub⟩
  have hb : PBlk w' g A T.length c s.at_ en s.err (placeT T en s) h := (N.blk.below (alrB w o)).keep a1 N.ne1
  refine ⟨hb.set5 A' n' c', N.at_, N.small, N.gb, Nat.le_trans N.lb aN.size, ?_, ?_, by show s.cols ++ [x.c] = _; rw [N.e1, List.map_append]; rfl, N.e2, N.e3, N.e4, N.e5, ?_, ?_, ?_, ?_, apK N.a12 fun _ e => (N.lt2 e).2, apK N.a13 fun _ e => (N.lt3 e).2, apK N.a14 fun _ e => (N.lt4 e).2, N.a23, N.a24, N.a34, N.i4, N.i5⟩
  · refine N.toks.move aA (fun i _ e => ?_) sub
    rcases e with e | e
    · exact .inl e
    · exact .inr (.inl e)
  · refine N.tab.move aA (fun i _ e => ?_) sub
    rcases e with e | e
    · exact .inl e
    · exact .inr (.inl e)
  · refine (((N.r1.keep aL fun _ _ e => e.elim).append hO hg hat ((hx.keep aL fun _ _ e => e.elim).mono fun i _ e => ?_))).move a2 (fun i _ e => ?_) fun i _ e => ?_
    · rcases e with e | e
      · exact e
      · exact .inr (.inr (.inl e))
    · rw [show i = g from e]; exact ⟨.inr (.inl rfl), fun e => by have := (hO.lt g e).1; have := N.gb; omega⟩
    · rcases e with e | e | e | e | e | e
      · exact .inl (.inl e)
      · exact .inl (.inr (.inl e))
      · exact .inr e
      · exact .inl (.inr (.inr (.inr (.inl e))))
      · exact .inl (.inr (.inr (.inr (.inr (.inl e)))))
      · exact .inl (.inr (.inr (.inr (.inr (.inr e)))))
  · refine N.r2.move aA (fun i _ e => ?_) fun i hi e => .inl (Or.imp_right (sub i hi) e)
    rcases e with e | e
    · rw [e]; exact ⟨.inr (.inl rfl), N.ne2⟩
    · exact ⟨.inr (.inr (.inl e)), N.a12 i e⟩
  · refine N.r3.move aA (fun i _ e => ?_) fun i hi e => .inl (Or.imp_right (sub i hi) e)
    rcases e with e | e
    · rw [e]; exact ⟨.inr (.inl rfl), N.ne3⟩
    · exact ⟨.inr (.inr (.inl e)), N.a13 i e⟩
  · refine own_keep N.r4 aA fun i hi e => ?_
    rcases e with e | e
    · exact N.ne4 (by rw [hi, e])
    · exact N.a14 i e hi
theorem NAt.push2 (N : NAt T en g A c base h L1 L2 L3 s w) (o : Obj) (x : PlV) (hx : HeldH (NX base g h) w x.at_) {A' : Option Addr} {n' c' : Nat} (hO : w'.ownsRow base 66 3 (.slice A' n' c') (L2.length + 1) (L2.flatMap PlV.cells ++ x.cells)) (hg : (w.alloc o).grownBy w' h.V2.ownBlock)
    (hat : (Value.slice A' n' c').ownBlock = h.V2.ownBlock ∨ (Value.slice A' n' c').ownBlock = some (w.alloc o).heap.size) :
    NAt T en g A c base { h with A2 := A', n2 := n', c2 := c' } L1 (L2 ++ [x]) L3 { s with pls := s.pls ++ [x.p] } (w'.setCell ⟨g, 6, none⟩ (.slice A' n' c')) ∧ AgH (NH g h) w (w'.setCell ⟨g, 6, none⟩ (.slice A' n' c')) ∧ ∀ i, i < w.heap.size → NH g { h with A2 := A', n2 := n', c2 := c' } i → NH g h i := by
  have sz : (w.alloc o).heap.size = w.heap.size + 1 := World.size_alloc _ _
  have aL : AgH (fun _ => False) w (w.alloc o) := AgH.of_below (alrB w o)
  have a1 : AgH (fun i => h.V2.ownBlock = some i) (w.alloc o) w' := (AgH.refl _ _).grown hg fun i e _ => e
  have a2 : AgH (only g) w' (w'.setCell ⟨g, 6, none⟩ (.slice A' n' c')) := (AgH.refl (only g) _).setCell (.inl rfl) _
  have aA : AgH (fun i => i = g ∨ h.V2.ownBlock = some i) w (w'.setCell ⟨g, 6, none⟩ (.slice A' n' c')) := ((aL.mono fun _ _ e => e.elim).trans (a1.mono fun _ _ e => .inr e)).trans (a2.mono fun _ _ e => .inl e)
  have aN : AgH (NH g h) w (w'.setCell ⟨g, 6, none⟩ (.slice A' n' c')) := aA.mono fun i _ e => by
    rcases e with e | e
    · exact .inl e
    · exact .inr (.inr (.inl e))
  have sub : ∀ i, i < w.heap.size → NH g { h with A2 := A', n2 := n', c2 := c' } i → NH g h i := fun i hi e => by
    rcases e with e | e | e | e | e
    · exact .inl e
    · exact .inr (.inl e)
    · rcases hat with h1 | h1
      · exact .inr (.inr (.inl (h1 ▸ e)))
      · rw [show ({ h with A2 := A', n2 := n', c2 := c' } : Hs).V2 = .slice A' n' c' from rfl, h1] at e
        injection e with e
        omega
    · exact .inr (.inr (.inr (.inl e)))
    · exact .inr (.inr (.inr (.inr e)))
  have apK : ∀ {V' : Value}, Apart h.V2 V' → (∀ i, V'.ownBlock = some i → i < w.heap.size) → Apart (.slice A' n' c') V' := fun hap hlt i e e' => by
    rcases hat with h1 | h1
    · exact hap i (h1 ▸ e) e'
    · have := hlt i e'
      rw [h1] at e
      injection e with e
      omega
  refine ⟨?_, aN, sub⟩
  have hb : PBlk w' g A T.length c s.at_ en s.err (placeT T en s) h := (N.blk.below (alrB w o)).keep a1 N.ne2
  refine ⟨hb.set6 A' n' c', N.at_, N.small, N.gb, Nat.le_trans N.lb aN.size, ?_, ?_, N.e1, by show s.pls ++ [x.p] = _; rw [N.e2, List.map_append]; rfl, N.e3, N.e4, N.e5, ?_, ?_, ?_, ?_, (apK N.a12.symm fun _ e => (N.lt1 e).2).symm, N.a13, N.a14, apK N.a23 fun _ e => (N.lt3 e).2, apK N.a24 fun _ e => (N.lt4 e).2, N.a34, N.i4, N.i5⟩
  · refine N.toks.move aA (fun i _ e => ?_) sub
    rcases e with e | e
    · exact .inl e
    · exact .inr (.inr (.inl e))
  · refine N.tab.move aA (fun i _ e => ?_) sub
    rcases e with e | e
    · exact .inl e
    · exact .inr (.inr (.inl e))
  · refine N.r1.move aA (fun i _ e => ?_) fun i hi e => .inl (Or.imp_right (sub i hi) e)
    rcases e with e | e
    · rw [e]; exact ⟨.inr (.inl rfl), N.ne1⟩
    · exact ⟨.inr (.inr (.inr (.inl e))), N.a12.symm i e⟩
  · refine (((N.r2.keep aL fun _ _ e => e.elim).append hO hg hat ((hx.keep aL fun _ _ e => e.elim).mono fun i _ e => ?_))).move a2 (fun i _ e => ?_) fun i _ e => ?_
    · rcases e with e | e
      · exact e
      · exact .inr (.inr (.inr (.inl e)))
    · rw [show i = g from e]; exact ⟨.inr (.inl rfl), fun e => by have := (hO.lt g e).1; have := N.gb; omega⟩
    · rcases e with e | e | e | e | e | e
      · exact .inl (.inl e)
      · exact .inl (.inr (.inl e))
      · exact .inl (.inr (.inr (.inl e)))
      · exact .inr e
      · exact .inl (.inr (.inr (.inr (.inr (.inl e)))))
      · exact .inl (.inr (.inr (.inr (.inr (.inr e)))))
  · refine N.r3.move aA (fun i _ e => ?_) fun i hi e => .inl (Or.imp_right (sub i hi) e)
    rcases e with e | e
    · rw [e]; exact ⟨.inr (.inl rfl), N.ne3⟩
    · exact ⟨.inr (.inr (.inr (.inl e))), N.a23 i e⟩
  · refine own_keep N.r4 aA fun i hi e => ?_
    rcases e with e | e
    · exact N.ne4 (by rw [hi, e])
    · exact N.a24 i e hi
theorem NAt.push3 (N : NAt T en g A c base h L1 L2 L3 s w) (o : Obj) (x : TkV) (hx : HeldH (NX base g h) w x.at_) {A' : Option Addr} {n' c' : Nat} (hO : w'.ownsRow base 59 14 (.slice A' n' c') (L3.length + 1) (L3.flatMap TkV.cells ++ x.cells)) (hg : (w.alloc o).grownBy w' h.V3.ownBlock)
    (hat : (Value.slice A' n' c').ownBlock = h.V3.ownBlock ∨ (Value.slice A' n' c').ownBlock = some (w.alloc o).heap.size) :
    NAt T en g A c base { h with A3 := A', n3 := n', c3 := c' } L1 L2 (L3 ++ [x]) { s with tks := s.tks ++ [x.t] } (w'.setCell ⟨g, 7, none⟩ (.slice A' n' c')) ∧ AgH (NH g h) w (w'.setCell ⟨g, 7, none⟩ (.slice A' n' c')) ∧ ∀ i, i < w.heap.size → NH g { h with A3 := A', n3 := n', c3 := c' } i → NH g h i := by
  have sz : (w.alloc o).heap.size = w.heap.size + 1 := World.size_alloc _ _
  have aL : AgH (fun _ => False) w (w.alloc o) := AgH.of_below (alrB w o)
  have a1 : AgH (fun i => h.V3.ownBlock = some i) (w.alloc o) w' := (AgH.refl _ _).grown hg fun i e _ => e
  have a2 : AgH (only g) w' (w'.setCell ⟨g, 7, none⟩ (.slice A' n' c')) := (AgH.refl (only g) _).setCell (.inl rfl) _
  have aA : AgH (fun i => i = g ∨ h.V3.ownBlock = some i) w (w'.setCell ⟨g, 7, none⟩ (.slice A' n' c')) := ((aL.mono fun _ _ e => e.elim).trans (a1.mono fun _ _ e => .inr e)).trans (a2.mono fun _ _ e => .inl e)
  have aN : AgH (NH g h) w (w'.setCell ⟨g, 7, none⟩ (.slice A' n' c')) := aA.mono fun i _ e => by
    rcases e with e | e
    · exact .inl e
    · exact .inr (.inr (.inr (.inl e)))
  have sub : ∀ i, i < w.heap.size → NH g { h with A3 := A', n3 := n', c3 := c' } i → NH g h i := fun i hi e => by
    rcases e with e | e | e | e | e
    · exact .inl e
    · exact .inr (.inl e)
    · exact .inr (.inr (.inl e))
    · rcases hat with h1 | h1
      · exact .inr (.inr (.inr (.inl (h1 ▸ e))))
      · rw [show ({ h with A3 := A', n3 := n', c3 := c' } : Hs).V3 = .slice A' n' c' from rfl, h1] at e
        injection e with e
        omega
    · exact .inr (.inr (.inr (.inr e)))
  have apK : ∀ {V' : Value}, Apart h.V3 V' → (∀ i, V'.ownBlock = some i → i < w.heap.size) → Apart (.slice A' n' c') V' := fun hap hlt i e e' => by
    rcases hat with h1 | h1
    · exact hap i (h1 ▸ e) e'
    · have := hlt i e'
      rw [h1] at e
      injection e with e
      omega
  refine ⟨?_, aN, sub⟩
  have hb : PBlk w' g A T.length c s.at_ en s.err (placeT T en s) h := (N.blk.below (alrB w o)).keep a1 N.ne3
  refine ⟨hb.set7 A' n' c', N.at_, N.small, N.gb, Nat.le_trans N.lb aN.size, ?_, ?_, N.e1, N.e2, by show s.tks ++ [x.t] = _; rw [N.e3, List.map_append]; rfl, N.e4, N.e5, ?_, ?_, ?_, ?_, N.a12, (apK N.a13.symm fun _ e => (N.lt1 e).2).symm, N.a14, (apK N.a23.symm fun _ e => (N.lt2 e).2).symm, N.a24, apK N.a34 fun _ e => (N.lt4 e).2, N.i4, N.i5⟩
  · refine N.toks.move aA (fun i _ e => ?_) sub
    rcases e with e | e
    · exact .inl e
    · exact .inr (.inr (.inr (.inl e)))
  · refine N.tab.move aA (fun i _ e => ?_) sub
    rcases e with e | e
    · exact .inl e
    · exact .inr (.inr (.inr (.inl e)))
  · refine N.r1.move aA (fun i _ e => ?_) fun i hi e => .inl (Or.imp_right (sub i hi) e)
    rcases e with e | e
    · rw [e]; exact ⟨.inr (.inl rfl), N.ne1⟩
    · exact ⟨.inr (.inr (.inr (.inr (.inl e)))), N.a13.symm i e⟩
  · refine N.r2.move aA (fun i _ e => ?_) fun i hi e => .inl (Or.imp_right (sub i hi) e)
    rcases e with e | e
    · rw [e]; exact ⟨.inr (.inl rfl), N.ne2⟩
    · exact ⟨.inr (.inr (.inr (.inr (.inl e)))), N.a23.symm i e⟩
  · refine (((N.r3.keep aL fun _ _ e => e.elim).append hO hg hat ((hx.keep aL fun _ _ e => e.elim).mono fun i _ e => ?_))).move a2 (fun i _ e => ?_) fun i _ e => ?_
    · rcases e with e | e
      · exact e
      · exact .inr (.inr (.inr (.inr (.inl e))))
    · rw [show i = g from e]; exact ⟨.inr (.inl rfl), fun e => by have := (hO.lt g e).1; have := N.gb; omega⟩
    · rcases e with e | e | e | e | e | e
      · exact .inl (.inl e)
      · exact .inl (.inr (.inl e))
      · exact .inl (.inr (.inr (.inl e)))
      · exact .inl (.inr (.inr (.inr (.inl e))))
      · exact .inr e
      · exact .inl (.inr (.inr (.inr (.inr (.inr e)))))
  · refine own_keep N.r4 aA fun i hi e => ?_
    rcases e with e | e
    · exact N.ne4 (by rw [hi, e])
    · exact N.a34 i e hi
theorem NTurn.then_ {s1 s2 : Ps} {w1 w2 : World} (k1 : NTurn T en g A c base h s1 w w1) (k2 : ∀ h' L1' L2' L3', NAt T en g A c base h' L1' L2' L3' s1 w1 → NTurn T en g A c base h' s2 w1 w2) : NTurn T en g A c base h s2 w w2 := by
  obtain ⟨h', L1', L2', L3', N, a, sub⟩ := k1
  obtain ⟨h2, M1, M2, M3, N2, a2, sub2⟩ := k2 h' L1' L2' L3' N
  exact ⟨h2, M1, M2, M3, N2, a.then_ a2 sub, fun i hi e => sub i hi (sub2 i (Nat.lt_of_lt_of_le hi a.size) e)⟩
end
end Go.Proofs.YtkpjhjoopdbkaaaGreatDoor
