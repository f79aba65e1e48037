/- Nets in memory. -/
import Derived.Test.YtaeeblceedklnaaGreatDoorColF
import Derived.Test.YtaeeblceedklnaaGreatDoorBagA
import Derived.Test.YtaeeblceedklnaaGreatDoorExprD
namespace Go.Proofs.YtaeeblceedklnaaGreatDoor
open Go.RowKit
/-- A slice whose elements, of so many cells each, are read by R. -/
def SlOf {α : Type} [Inhabited α] (size : Nat) (R : World → Nat → Nat → α → Prop) (w : World) (A : Option Addr) (n c : Nat) (l : List α) : Prop :=
  n ≤ c ∧ c ≤ 9223372036854775807 ∧ l.length = n ∧ (0 < n → ∃ b off, A = some ⟨b, off, none⟩ ∧ ∀ k, k < n → R w b (off + k * size) (l.getD k default))
/-- What R reads stays. -/
def Stays {α : Type} (R : World → Nat → Nat → α → Prop) : Prop := ∀ (w w' : World) (b o : Nat) (x : α), R w b o x → Below w.heap.size w w' → R w' b o x
theorem SlOf.below {α : Type} [Inhabited α] {size : Nat} {R : World → Nat → Nat → α → Prop} (hR : Stays R) {w w' : World} {A : Option Addr} {n c : Nat} {l : List α} (h : SlOf size R w A n c l) (hb : Below w.heap.size w w') : SlOf size R w' A n c l := by
  refine ⟨h.1, h.2.1, h.2.2.1, fun hn => ?_⟩
  obtain ⟨b, off, e, hc⟩ := h.2.2.2 hn
  exact ⟨b, off, e, fun k hk => hR _ _ _ _ _ (hc k hk) hb⟩
theorem SlOf.at_ {α : Type} [Inhabited α] {size : Nat} {R : World → Nat → Nat → α → Prop} {w : World} {A : Option Addr} {n c : Nat} {l : List α} (h : SlOf size R w A n c l) {k : Nat} (hk : k < n) : ∃ b off, A = some ⟨b, off, none⟩ ∧ R w b (off + k * size) (l.getD k default) := by
  obtain ⟨b, off, e, hc⟩ := h.2.2.2 (by omega)
  exact ⟨b, off, e, hc k hk⟩
theorem SlOf.len {α : Type} [Inhabited α] {size : Nat} {R : World → Nat → Nat → α → Prop} {w : World} {A : Option Addr} {n c : Nat} {l : List α} (h : SlOf size R w A n c l) : l.length = n ∧ n ≤ c ∧ c ≤ 9223372036854775807 := ⟨h.2.2.1, h.1, h.2.1⟩
theorem SlOf.none_ {α : Type} [Inhabited α] (size : Nat) (R : World → Nat → Nat → α → Prop) (w : World) : SlOf size R w none 0 0 [] := ⟨Nat.le_refl _, by omega, rfl, fun h => absurd h (by omega)⟩
/-- A slice's head. -/
theorem SlOf.take {α : Type} [Inhabited α] {size : Nat} {R : World → Nat → Nat → α → Prop} {w : World} {A : Option Addr} {n c : Nat} {l : List α} (h : SlOf size R w A n c l) {k : Nat} (hk : k ≤ n) : SlOf size R w A k c (l.take k) := by
  refine ⟨Nat.le_trans hk h.1, h.2.1, by rw [List.length_take, h.2.2.1]; omega, fun hn => ?_⟩
  obtain ⟨b, off, e, hc⟩ := h.2.2.2 (by omega)
  refine ⟨b, off, e, fun j hj => ?_⟩
  have e1 : (l.take k).getD j default = l.getD j default := by simp [List.getD, hj]
  rw [e1]
  exact hc j (by omega)
/-- Read by cells. -/
theorem SlOf.new {α : Type} [Inhabited α] {size : Nat} {R : World → Nat → Nat → α → Prop} {w : World} {b off : Nat} {n c : Nat} {l : List α} (hn : n ≤ c) (hc : c ≤ 9223372036854775807) (hl : l.length = n) (h : ∀ k, k < n → R w b (off + k * size) (l.getD k default)) : SlOf size R w (some ⟨b, off, none⟩) n c l :=
  ⟨hn, hc, hl, fun _ => ⟨b, off, rfl, h⟩⟩
/-- A task's variable. -/
structure Vr where
  name : ByteArray
  colour : Int
instance : Inhabited Vr := ⟨⟨ByteArray.empty, 0⟩⟩
structure VrAt (w : World) (b o : Nat) (v : Vr) : Prop where
  c0 : w.cell? ⟨b, o, none⟩ = some (.string v.name)
  c1 : w.cell? ⟨b, o + 1, none⟩ = some (.int .i64 v.colour)
  i1 : I64 v.colour
theorem VrAt.below {w w' : World} {b o : Nat} {v : Vr} (h : VrAt w b o v) (hb : Below w.heap.size w w') : VrAt w' b o v := ⟨cell_kept hb h.c0, cell_kept hb h.c1, h.i1⟩
theorem VrAt.stays : Stays VrAt := fun _ _ _ _ _ h hb => h.below hb
abbrev Vr.val (v : Vr) : Value := .agg #[.string v.name, .int .i64 v.colour]
/-- A place. -/
structure Pl where
  name : ByteArray
  colour : Int
  first : Row
instance : Inhabited Pl := ⟨⟨ByteArray.empty, 0, []⟩⟩
structure PlAt' (w : World) (b o : Nat) (A : Option Addr) (n c : Nat) (p : Pl) : Prop where
  c0 : w.cell? ⟨b, o, none⟩ = some (.string p.name)
  c1 : w.cell? ⟨b, o + 1, none⟩ = some (.int .i64 p.colour)
  c2 : w.cell? ⟨b, o + 2, none⟩ = some (.slice A n c)
  sl : Sl w (.slice A n c) n 2 (pairCells p.first)
  i1 : I64 p.colour
  i2 : ∀ q ∈ p.first, I64 q.1 ∧ I64 q.2
def PlAt (w : World) (b o : Nat) (p : Pl) : Prop := ∃ A n c, PlAt' w b o A n c p
theorem PlAt'.below {w w' : World} {b o : Nat} {A : Option Addr} {n c : Nat} {p : Pl} (h : PlAt' w b o A n c p) (hb : Below w.heap.size w w') : PlAt' w' b o A n c p :=
  ⟨cell_kept hb h.c0, cell_kept hb h.c1, cell_kept hb h.c2, h.sl.below hb, h.i1, h.i2⟩
theorem PlAt.stays : Stays PlAt := fun _ _ _ _ _ ⟨A, n, c, h⟩ hb => ⟨A, n, c, h.below hb⟩
abbrev Pl.val (p : Pl) (A : Option Addr) (n c : Nat) : Value := .agg #[.string p.name, .int .i64 p.colour, .slice A n c]
/-- An arc. -/
structure Ar where
  place : Int
  expr : Tr
instance : Inhabited Ar := ⟨⟨0, default⟩⟩
structure ArAt' (w : World) (b o : Nat) (A : Option Addr) (m c : Nat) (a : Ar) : Prop where
  c0 : w.cell? ⟨b, o, none⟩ = some (.int .i64 a.place)
  c1 : w.cell? ⟨b, o + 1, none⟩ = some (.int .i64 a.expr.kind)
  c2 : w.cell? ⟨b, o + 2, none⟩ = some (.int .i64 a.expr.num)
  c3 : w.cell? ⟨b, o + 3, none⟩ = some (.slice A m c)
  tr : TrAt w A m c a.expr
  i0 : I64 a.place
def ArAt (w : World) (b o : Nat) (a : Ar) : Prop := ∃ A m c, ArAt' w b o A m c a
theorem ArAt'.below {w w' : World} {b o : Nat} {A : Option Addr} {n c : Nat} {p : Ar} (h : ArAt' w b o A n c p) (hb : Below w.heap.size w w') : ArAt' w' b o A n c p :=
  ⟨cell_kept hb h.c0, cell_kept hb h.c1, cell_kept hb h.c2, cell_kept hb h.c3, h.tr.kept hb, h.i0⟩
theorem ArAt.stays : Stays ArAt := fun _ _ _ _ _ ⟨A, n, c, h⟩ hb => ⟨A, n, c, h.below hb⟩
abbrev Ar.val (a : Ar) (A : Option Addr) (m c : Nat) : Value := .agg #[.int .i64 a.place, .int .i64 a.expr.kind, .int .i64 a.expr.num, .slice A m c]
/-- A task. -/
structure Tk where
  name : ByteArray
  vars : List Vr
  guard : Tr
  join : Int
  split : Int
  ins : List Ar
  outs : List Ar
  cancel : List Int
  after : Int
  m0 : Int
  m1 : Int
  m2 : Int
instance : Inhabited Tk := ⟨⟨ByteArray.empty, [], default, 0, 0, [], [], [], 0, 0, 0, 0⟩⟩
/-- A slice's header. -/
structure Hd where
  A : Option Addr
  n : Nat
  c : Nat
/-- The slices of a task. -/
structure TkAt' (w : World) (b o : Nat) (Av : Option Addr) (nv cv : Nat) (Ag : Option Addr) (mg cg : Nat) (Ai : Option Addr) (ni ci : Nat) (Ao : Option Addr) (no co : Nat) (Ac : Option Addr) (nc cc : Nat) (t : Tk) : Prop where
  c0 : w.cell? ⟨b, o, none⟩ = some (.string t.name)
  c1 : w.cell? ⟨b, o + 1, none⟩ = some (.slice Av nv cv)
  c2 : w.cell? ⟨b, o + 2, none⟩ = some (.int .i64 t.guard.kind)
  c3 : w.cell? ⟨b, o + 3, none⟩ = some (.int .i64 t.guard.num)
  c4 : w.cell? ⟨b, o + 4, none⟩ = some (.slice Ag mg cg)
  c5 : w.cell? ⟨b, o + 5, none⟩ = some (.int .i64 t.join)
  c6 : w.cell? ⟨b, o + 6, none⟩ = some (.int .i64 t.split)
  c7 : w.cell? ⟨b, o + 7, none⟩ = some (.slice Ai ni ci)
  c8 : w.cell? ⟨b, o + 8, none⟩ = some (.slice Ao no co)
  c9 : w.cell? ⟨b, o + 9, none⟩ = some (.slice Ac nc cc)
  c10 : w.cell? ⟨b, o + 10, none⟩ = some (.int .i64 t.after)
  c11 : w.cell? ⟨b, o + 11, none⟩ = some (.int .i64 t.m0)
  c12 : w.cell? ⟨b, o + 12, none⟩ = some (.int .i64 t.m1)
  c13 : w.cell? ⟨b, o + 13, none⟩ = some (.int .i64 t.m2)
  vars : SlOf 2 VrAt w Av nv cv t.vars
  guard : TrAt w Ag mg cg t.guard
  ins : SlOf 4 ArAt w Ai ni ci t.ins
  outs : SlOf 4 ArAt w Ao no co t.outs
  cancel : Sl w (.slice Ac nc cc) nc 1 (intCells t.cancel)
  i5 : I64 t.join
  i6 : I64 t.split
  i9 : ∀ x ∈ t.cancel, I64 x
  i10 : I64 t.after
  i11 : I64 t.m0
  i12 : I64 t.m1
  i13 : I64 t.m2
def TkAt (w : World) (b o : Nat) (t : Tk) : Prop := ∃ Av nv cv Ag mg cg Ai ni ci Ao no co Ac nc cc, TkAt' w b o Av nv cv Ag mg cg Ai ni ci Ao no co Ac nc cc t
theorem TkAt'.below {w w' : World} {b o : Nat} {Av Ag Ai Ao Ac : Option Addr} {nv cv mg cg ni ci no co nc cc : Nat} {t : Tk} (h : TkAt' w b o Av nv cv Ag mg cg Ai ni ci Ao no co Ac nc cc t) (hb : Below w.heap.size w w') : TkAt' w' b o Av nv cv Ag mg cg Ai ni ci Ao no co Ac nc cc t :=
  ⟨cell_kept hb h.c0, cell_kept hb h.c1, cell_kept hb h.c2, cell_kept hb h.c3, cell_kept hb h.c4, cell_kept hb h.c5, cell_kept hb h.c6, cell_kept hb h.c7, cell_kept hb h.c8, cell_kept hb h.c9, cell_kept hb h.c10, cell_kept hb h.c11, cell_kept hb h.c12, cell_kept hb h.c13,
    h.vars.below VrAt.stays hb, h.guard.kept hb, h.ins.below ArAt.stays hb, h.outs.below ArAt.stays hb, h.cancel.below hb, h.i5, h.i6, h.i9, h.i10, h.i11, h.i12, h.i13⟩
theorem TkAt.stays : Stays TkAt := fun _ _ _ _ _ ⟨a1, a2, a3, a4, a5, a6, a7, a8, a9, a10, a11, a12, a13, a14, a15, h⟩ hb => ⟨a1, a2, a3, a4, a5, a6, a7, a8, a9, a10, a11, a12, a13, a14, a15, h.below hb⟩
abbrev Tk.val (t : Tk) (Av : Option Addr) (nv cv : Nat) (Ag : Option Addr) (mg cg : Nat) (Ai : Option Addr) (ni ci : Nat) (Ao : Option Addr) (no co : Nat) (Ac : Option Addr) (nc cc : Nat) : Value :=
  .agg #[.string t.name, .slice Av nv cv, .int .i64 t.guard.kind, .int .i64 t.guard.num, .slice Ag mg cg, .int .i64 t.join, .int .i64 t.split, .slice Ai ni ci, .slice Ao no co, .slice Ac nc cc, .int .i64 t.after, .int .i64 t.m0, .int .i64 t.m1, .int .i64 t.m2]
/-- A net. -/
structure Nt where
  cols : List Col
  pls : List Pl
  tks : List Tk
  from_ : Int
  to_ : Int
abbrev netV (A1 : Option Addr) (n1 c1 : Nat) (A2 : Option Addr) (n2 c2 : Nat) (A3 : Option Addr) (n3 c3 : Nat) (a b : Int) : Value := .agg #[.slice A1 n1 c1, .slice A2 n2 c2, .slice A3 n3 c3, .int .i64 a, .int .i64 b]
structure NetAt (w : World) (A1 : Option Addr) (n1 c1 : Nat) (A2 : Option Addr) (n2 c2 : Nat) (A3 : Option Addr) (n3 c3 : Nat) (N : Nt) : Prop where
  cols : Cols w A1 n1 c1 N.cols
  pls : SlOf 3 PlAt w A2 n2 c2 N.pls
  tks : SlOf 14 TkAt w A3 n3 c3 N.tks
  i4 : I64 N.from_
  i5 : I64 N.to_
theorem NetAt.below {w w' : World} {A1 A2 A3 : Option Addr} {n1 c1 n2 c2 n3 c3 : Nat} {N : Nt} (h : NetAt w A1 n1 c1 A2 n2 c2 A3 n3 c3 N) (hb : Below w.heap.size w w') : NetAt w' A1 n1 c1 A2 n2 c2 A3 n3 c3 N :=
  ⟨h.cols.below hb, h.pls.below PlAt.stays hb, h.tks.below TkAt.stays hb, h.i4, h.i5⟩
theorem Cols.take {w : World} {A : Option Addr} {n c : Nat} {L : List Col} (h : Cols w A n c L) {k : Nat} (hk : k ≤ n) : Cols w A k c (L.take k) := by
  refine ⟨Nat.le_trans hk h.1, h.2.1, by rw [List.length_take, h.2.2.1]; omega, fun hn => ?_⟩
  obtain ⟨b, off, e, hc⟩ := h.2.2.2 (by omega)
  refine ⟨b, off, e, fun j hj => ?_⟩
  have e1 : (L.take k).getD j default = L.getD j default := by simp [List.getD, hj]
  rw [e1]
  exact hc j (by omega)
/-- A box of a net. -/
structure NBox (w : World) (g : Nat) (A1 : Option Addr) (n1 c1 : Nat) (A2 : Option Addr) (n2 c2 : Nat) (A3 : Option Addr) (n3 c3 : Nat) (a b : Int) : Prop where
  c0 : w.cell? ⟨g, 0, none⟩ = some (.slice A1 n1 c1)
  c1 : w.cell? ⟨g, 1, none⟩ = some (.slice A2 n2 c2)
  c2 : w.cell? ⟨g, 2, none⟩ = some (.slice A3 n3 c3)
  c3 : w.cell? ⟨g, 3, none⟩ = some (.int .i64 a)
  c4 : w.cell? ⟨g, 4, none⟩ = some (.int .i64 b)
theorem NBox.below {w w' : World} {g : Nat} {A1 A2 A3 : Option Addr} {n1 c1 n2 c2 n3 c3 : Nat} {a b : Int} (h : NBox w g A1 n1 c1 A2 n2 c2 A3 n3 c3 a b) (hb : Below w.heap.size w w') : NBox w' g A1 n1 c1 A2 n2 c2 A3 n3 c3 a b :=
  ⟨cell_kept hb h.c0, cell_kept hb h.c1, cell_kept hb h.c2, cell_kept hb h.c3, cell_kept hb h.c4⟩
theorem NBox.new (w : World) (A1 : Option Addr) (n1 c1 : Nat) (A2 : Option Addr) (n2 c2 : Nat) (A3 : Option Addr) (n3 c3 : Nat) (a b : Int) (T : TypeId) : NBox (w.alloc (.cells #[.slice A1 n1 c1, .slice A2 n2 c2, .slice A3 n3 c3, .int .i64 a, .int .i64 b] T)) w.heap.size A1 n1 c1 A2 n2 c2 A3 n3 c3 a b :=
  ⟨cell_new w _ T 0 _ rfl, cell_new w _ T 1 _ rfl, cell_new w _ T 2 _ rfl, cell_new w _ T 3 _ rfl, cell_new w _ T 4 _ rfl⟩
theorem getD_take {α : Type} [Inhabited α] (l : List α) {j k : Nat} (h : j < k) : (l.take k).getD j default = l.getD j default := by simp [List.getD, h]
end Go.Proofs.YtaeeblceedklnaaGreatDoor
