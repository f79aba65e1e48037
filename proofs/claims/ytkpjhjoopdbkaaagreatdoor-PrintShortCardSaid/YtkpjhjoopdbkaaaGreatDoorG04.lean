/- Joined: Nets in memory. Contract of package token: Word. Contracts: Op, Fold. What package parse reads; no program in sight. Printed by gen_paP.py. -/
import Derived.Test.YtkpjhjoopdbkaaaGreatDoorG02
import Derived.Test.YtkpjhjoopdbkaaaGreatDoorG03
import Derived.Test.YtkpjhjoopdbkaaaGreatDoorG01
import Derived.Test.YtkpjhjoopdbkaaaGreatDoorG41
import Derived.Lib.SmallJoins
namespace Go.Proofs.YtkpjhjoopdbkaaaGreatDoor
open Go.RowKit
/-- A slice whose elements, of so many cells each, are read by R. -/
def SlOf {α : Type} [Inhabited α] (size : Nat) (R : World → Nat → Nat → α → Prop) (w : World) (A : Option Addr) (n c : Nat) (l : List α) : Prop :=
  n ≤ c ∧ c ≤ 9223372036854775807 ∧ l.length = n ∧ (0 < n → ∃ b off, A = some ⟨b, off, none⟩ ∧ ∀ k, k < n → R w b (off + k * size) (l.getD k default))
/-- What R reads stays. -/
def Stays {α : Type} (R : World → Nat → Nat → α → Prop) : Prop := ∀ (w w' : World) (b o : Nat) (x : α), R w b o x → Below w.heap.size w w' → R w' b o x
theorem SlOf.below {α : Type} [Inhabited α] {size : Nat} {R : World → Nat → Nat → α → Prop} (hR : Stays R) {w w' : World} {A : Option Addr} {n c : Nat} {l : List α} (h : SlOf size R w A n c l) (hb : Below w.heap.size w w') : SlOf size R w' A n c l := by
  refine ⟨h.1, h.2.1, h.2.2.1, fun hn => ?_⟩
  obtain ⟨b, off, e, hc⟩ := h.2.2.2 hn
  exact ⟨b, off, e, fun k hk => hR _ _ _ _ _ (hc k hk) hb⟩
theorem SlOf.at_ {α : Type} [Inhabited α] {size : Nat} {R : World → Nat → Nat → α → Prop} {w : World} {A : Option Addr} {n c : Nat} {l : List α} (h : SlOf size R w A n c l) {k : Nat} (hk : k < n) : ∃ b off, A = some ⟨b, off, none⟩ ∧ R w b (off + k * size) (l.getD k default) := by
  obtain ⟨b, off, e, hc⟩ := h.2.2.2 (by omega)
  exact ⟨b, off, e, hc k hk⟩
theorem SlOf.len {α : Type} [Inhabited α] {size : Nat} {R : World → Nat → Nat → α → Prop} {w : World} {A : Option Addr} {n c : Nat} {l : List α} (h : SlOf size R w A n c l) : l.length = n ∧ n ≤ c ∧ c ≤ 9223372036854775807 := ⟨h.2.2.1, h.1, h.2.1⟩
theorem SlOf.none_ {α : Type} [Inhabited α] (size : Nat) (R : World → Nat → Nat → α → Prop) (w : World) : SlOf size R w none 0 0 [] := ⟨Nat.le_refl _, by omega, rfl, fun h => absurd h (by omega)⟩
/-- A slice's head. -/
theorem SlOf.take {α : Type} [Inhabited α] {size : Nat} {R : World → Nat → Nat → α → Prop} {w : World} {A : Option Addr} {n c : Nat} {l : List α} (h : SlOf size R w A n c l) {k : Nat} (hk : k ≤ n) : SlOf size R w A k c (l.take k) := by
  refine ⟨Nat.le_trans hk h.1, h.2.1, by rw [List.length_take, h.2.2.1]; omega, fun hn => ?_⟩
  obtain ⟨b, off, e, hc⟩ := h.2.2.2 (by omega)
  refine ⟨b, off, e, fun j hj => ?_⟩
  have e1 : (l.take k).getD j default = l.getD j default := by simp [List.getD, hj]
  rw [e1]
  exact hc j (by omega)
/-- Read by cells. -/
theorem SlOf.new {α : Type} [Inhabited α] {size : Nat} {R : World → Nat → Nat → α → Prop} {w : World} {b off : Nat} {n c : Nat} {l : List α} (hn : n ≤ c) (hc : c ≤ 9223372036854775807) (hl : l.length = n) (h : ∀ k, k < n → R w b (off + k * size) (l.getD k default)) : SlOf size R w (some ⟨b, off, none⟩) n c l :=
  ⟨hn, hc, hl, fun _ => ⟨b, off, rfl, h⟩⟩
/-- A task's variable. -/
structure Vr where
  name : ByteArray
  colour : Int
instance : Inhabited Vr := ⟨⟨ByteArray.empty, 0⟩⟩
structure VrAt (w : World) (b o : Nat) (v : Vr) : Prop where
  c0 : w.cell? ⟨b, o, none⟩ = some (.string v.name)
  c1 : w.cell? ⟨b, o + 1, none⟩ = some (.int .i64 v.colour)
  i1 : I64 v.colour
theorem VrAt.below {w w' : World} {b o : Nat} {v : Vr} (h : VrAt w b o v) (hb : Below w.heap.size w w') : VrAt w' b o v := ⟨cell_kept hb h.c0, cell_kept hb h.c1, h.i1⟩
theorem VrAt.stays : Stays VrAt := fun _ _ _ _ _ h hb => h.below hb
abbrev Vr.val (v : Vr) : Value := .agg #[.string v.name, .int .i64 v.colour]
/-- A place. -/
structure Pl where
  name : ByteArray
  colour : Int
  first : Row
instance : Inhabited Pl := ⟨⟨ByteArray.empty, 0, []⟩⟩
structure PlAt' (w : World) (b o : Nat) (A : Option Addr) (n c : Nat) (p : Pl) : Prop where
  c0 : w.cell? ⟨b, o, none⟩ = some (.string p.name)
  c1 : w.cell? ⟨b, o + 1, none⟩ = some (.int .i64 p.colour)
  c2 : w.cell? ⟨b, o + 2, none⟩ = some (.slice A n c)
  sl : Sl w (.slice A n c) n 2 (pairCells p.first)
  i1 : I64 p.colour
  i2 : ∀ q ∈ p.first, I64 q.1 ∧ I64 q.2
def PlAt (w : World) (b o : Nat) (p : Pl) : Prop := ∃ A n c, PlAt' w b o A n c p
theorem PlAt'.below {w w' : World} {b o : Nat} {A : Option Addr} {n c : Nat} {p : Pl} (h : PlAt' w b o A n c p) (hb : Below w.heap.size w w') : PlAt' w' b o A n c p :=
  ⟨cell_kept hb h.c0, cell_kept hb h.c1, cell_kept hb h.c2, h.sl.below hb, h.i1, h.i2⟩
theorem PlAt.stays : Stays PlAt := fun _ _ _ _ _ ⟨A, n, c, h⟩ hb => ⟨A, n, c, h.below hb⟩
abbrev Pl.val (p : Pl) (A : Option Addr) (n c : Nat) : Value := .agg #[.string p.name, .int .i64 p.colour, .slice A n c]
/-- An arc. -/
structure Ar where
  place : Int
  expr : Tr
instance : Inhabited Ar := ⟨⟨0, default⟩⟩
structure ArAt' (w : World) (b o : Nat) (A : Option Addr) (m c : Nat) (a : Ar) : Prop where
  c0 : w.cell? ⟨b, o, none⟩ = some (.int .i64 a.place)
  c1 : w.cell? ⟨b, o + 1, none⟩ = some (.int .i64 a.expr.kind)
  c2 : w.cell? ⟨b, o + 2, none⟩ = some (.int .i64 a.expr.num)
  c3 : w.cell? ⟨b, o + 3, none⟩ = some (.slice A m c)
  tr : TrAt w A m c a.expr
  i0 : I64 a.place
def ArAt (w : World) (b o : Nat) (a : Ar) : Prop := ∃ A m c, ArAt' w b o A m c a
theorem ArAt'.below {w w' : World} {b o : Nat} {A : Option Addr} {n c : Nat} {p : Ar} (h : ArAt' w b o A n c p) (hb : Below w.heap.size w w') : ArAt' w' b o A n c p :=
  ⟨cell_kept hb h.c0, cell_kept hb h.c1, cell_kept hb h.c2, cell_kept hb h.c3, h.tr.kept hb, h.i0⟩
theorem ArAt.stays : Stays ArAt := fun _ _ _ _ _ ⟨A, n, c, h⟩ hb => ⟨A, n, c, h.below hb⟩
abbrev Ar.val (a : Ar) (A : Option Addr) (m c : Nat) : Value := .agg #[.int .i64 a.place, .int .i64 a.expr.kind, .int .i64 a.expr.num, .slice A m c]
/-- A task. -/
structure Tk where
  name : ByteArray
  vars : List Vr
  guard : Tr
  join : Int
  split : Int
  ins : List Ar
  outs : List Ar
  cancel : List Int
  after : Int
  m0 : Int
  m1 : Int
  m2 : Int
instance : Inhabited Tk := ⟨⟨ByteArray.empty, [], default, 0, 0, [], [], [], 0, 0, 0, 0⟩⟩
/-- A slice's header. -/
structure Hd where
  A : Option Addr
  n : Nat
  c : Nat
/-- The slices of a task. -/
structure TkAt' (w : World) (b o : Nat) (Av : Option Addr) (nv cv : Nat) (Ag : Option Addr) (mg cg : Nat) (Ai : Option Addr) (ni ci : Nat) (Ao : Option Addr) (no co : Nat) (Ac : Option Addr) (nc cc : Nat) (t : Tk) : Prop where
  c0 : w.cell? ⟨b, o, none⟩ = some (.string t.name)
  c1 : w.cell? ⟨b, o + 1, none⟩ = some (.slice Av nv cv)
  c2 : w.cell? ⟨b, o + 2, none⟩ = some (.int .i64 t.guard.kind)
  c3 : w.cell? ⟨b, o + 3, none⟩ = some (.int .i64 t.guard.num)
  c4 : w.cell? ⟨b, o + 4, none⟩ = some (.slice Ag mg cg)
  c5 : w.cell? ⟨b, o + 5, none⟩ = some (.int .i64 t.join)
  c6 : w.cell? ⟨b, o + 6, none⟩ = some (.int .i64 t.split)
  c7 : w.cell? ⟨b, o + 7, none⟩ = some (.slice Ai ni ci)
  c8 : w.cell? ⟨b, o + 8, none⟩ = some (.slice Ao no co)
  c9 : w.cell? ⟨b, o + 9, none⟩ = some (.slice Ac nc cc)
  c10 : w.cell? ⟨b, o + 10, none⟩ = some (.int .i64 t.after)
  c11 : w.cell? ⟨b, o + 11, none⟩ = some (.int .i64 t.m0)
  c12 : w.cell? ⟨b, o + 12, none⟩ = some (.int .i64 t.m1)
  c13 : w.cell? ⟨b, o + 13, none⟩ = some (.int .i64 t.m2)
  vars : SlOf 2 VrAt w Av nv cv t.vars
  guard : TrAt w Ag mg cg t.guard
  ins : SlOf 4 ArAt w Ai ni ci t.ins
  outs : SlOf 4 ArAt w Ao no co t.outs
  cancel : Sl w (.slice Ac nc cc) nc 1 (intCells t.cancel)
  i5 : I64 t.join
  i6 : I64 t.split
  i9 : ∀ x ∈ t.cancel, I64 x
  i10 : I64 t.after
  i11 : I64 t.m0
  i12 : I64 t.m1
  i13 : I64 t.m2
def TkAt (w : World) (b o : Nat) (t : Tk) : Prop := ∃ Av nv cv Ag mg cg Ai ni ci Ao no co Ac nc cc, TkAt' w b o Av nv cv Ag mg cg Ai ni ci Ao no co Ac nc cc t
theorem TkAt'.below {w w' : World} {b o : Nat} {Av Ag Ai Ao Ac : Option Addr} {nv cv mg cg ni ci no co nc cc : Nat} {t : Tk} (h : TkAt' w b o Av nv cv Ag mg cg Ai ni ci Ao no co Ac nc cc t) (hb : Below w.heap.size w w') : TkAt' w' b o Av nv cv Ag mg cg Ai ni ci Ao no co Ac nc cc t :=
  ⟨cell_kept hb h.c0, cell_kept hb h.c1, cell_kept hb h.c2, cell_kept hb h.c3, cell_kept hb h.c4, cell_kept hb h.c5, cell_kept hb h.c6, cell_kept hb h.c7, cell_kept hb h.c8, cell_kept hb h.c9, cell_kept hb h.c10, cell_kept hb h.c11, cell_kept hb h.c12, cell_kept hb h.c13,
    h.vars.below VrAt.stays hb, h.guard.kept hb, h.ins.below ArAt.stays hb, h.outs.below ArAt.stays hb, h.cancel.below hb, h.i5, h.i6, h.i9, h.i10, h.i11, h.i12, h.i13⟩
theorem TkAt.stays : Stays TkAt := fun _ _ _ _ _ ⟨a1, a2, a3, a4, a5, a6, a7, a8, a9, a10, a11, a12, a13, a14, a15, h⟩ hb => ⟨a1, a2, a3, a4, a5, a6, a7, a8, a9, a10, a11, a12, a13, a14, a15, h.below hb⟩
abbrev Tk.val (t : Tk) (Av : Option Addr) (nv cv : Nat) (Ag : Option Addr) (mg cg : Nat) (Ai : Option Addr) (ni ci : Nat) (Ao : Option Addr) (no co : Nat) (Ac : Option Addr) (nc cc : Nat) : Value :=
  .agg #[.string t.name, .slice Av nv cv, .int .i64 t.guard.kind, .int .i64 t.guard.num, .slice Ag mg cg, .int .i64 t.join, .int .i64 t.split, .slice Ai ni ci, .slice Ao no co, .slice Ac nc cc, .int .i64 t.after, .int .i64 t.m0, .int .i64 t.m1, .int .i64 t.m2]
/-- A net. -/
structure Nt where
  cols : List Col
  pls : List Pl
  tks : List Tk
  from_ : Int
  to_ : Int
abbrev netV (A1 : Option Addr) (n1 c1 : Nat) (A2 : Option Addr) (n2 c2 : Nat) (A3 : Option Addr) (n3 c3 : Nat) (a b : Int) : Value := .agg #[.slice A1 n1 c1, .slice A2 n2 c2, .slice A3 n3 c3, .int .i64 a, .int .i64 b]
structure NetAt (w : World) (A1 : Option Addr) (n1 c1 : Nat) (A2 : Option Addr) (n2 c2 : Nat) (A3 : Option Addr) (n3 c3 : Nat) (N : Nt) : Prop where
  cols : Cols w A1 n1 c1 N.cols
  pls : SlOf 3 PlAt w A2 n2 c2 N.pls
  tks : SlOf 14 TkAt w A3 n3 c3 N.tks
  i4 : I64 N.from_
  i5 : I64 N.to_
theorem NetAt.below {w w' : World} {A1 A2 A3 : Option Addr} {n1 c1 n2 c2 n3 c3 : Nat} {N : Nt} (h : NetAt w A1 n1 c1 A2 n2 c2 A3 n3 c3 N) (hb : Below w.heap.size w w') : NetAt w' A1 n1 c1 A2 n2 c2 A3 n3 c3 N :=
  ⟨h.cols.below hb, h.pls.below PlAt.stays hb, h.tks.below TkAt.stays hb, h.i4, h.i5⟩
theorem Cols.take {w : World} {A : Option Addr} {n c : Nat} {L : List Col} (h : Cols w A n c L) {k : Nat} (hk : k ≤ n) : Cols w A k c (L.take k) := by
  refine ⟨Nat.le_trans hk h.1, h.2.1, by rw [List.length_take, h.2.2.1]; omega, fun hn => ?_⟩
  obtain ⟨b, off, e, hc⟩ := h.2.2.2 (by omega)
  refine ⟨b, off, e, fun j hj => ?_⟩
  have e1 : (L.take k).getD j default = L.getD j default := by simp [List.getD, hj]
  rw [e1]
  exact hc j (by omega)
/-- A box of a net. -/
structure NBox (w : World) (g : Nat) (A1 : Option Addr) (n1 c1 : Nat) (A2 : Option Addr) (n2 c2 : Nat) (A3 : Option Addr) (n3 c3 : Nat) (a b : Int) : Prop where
  c0 : w.cell? ⟨g, 0, none⟩ = some (.slice A1 n1 c1)
  c1 : w.cell? ⟨g, 1, none⟩ = some (.slice A2 n2 c2)
  c2 : w.cell? ⟨g, 2, none⟩ = some (.slice A3 n3 c3)
  c3 : w.cell? ⟨g, 3, none⟩ = some (.int .i64 a)
  c4 : w.cell? ⟨g, 4, none⟩ = some (.int .i64 b)
theorem NBox.below {w w' : World} {g : Nat} {A1 A2 A3 : Option Addr} {n1 c1 n2 c2 n3 c3 : Nat} {a b : Int} (h : NBox w g A1 n1 c1 A2 n2 c2 A3 n3 c3 a b) (hb : Below w.heap.size w w') : NBox w' g A1 n1 c1 A2 n2 c2 A3 n3 c3 a b :=
  ⟨cell_kept hb h.c0, cell_kept hb h.c1, cell_kept hb h.c2, cell_kept hb h.c3, cell_kept hb h.c4⟩
theorem NBox.new (w : World) (A1 : Option Addr) (n1 c1 : Nat) (A2 : Option Addr) (n2 c2 : Nat) (A3 : Option Addr) (n3 c3 : Nat) (a b : Int) (T : TypeId) : NBox (w.alloc (.cells #[.slice A1 n1 c1, .slice A2 n2 c2, .slice A3 n3 c3, .int .i64 a, .int .i64 b] T)) w.heap.size A1 n1 c1 A2 n2 c2 A3 n3 c3 a b :=
  ⟨cell_new w _ T 0 _ rfl, cell_new w _ T 1 _ rfl, cell_new w _ T 2 _ rfl, cell_new w _ T 3 _ rfl, cell_new w _ T 4 _ rfl⟩
end Go.Proofs.YtkpjhjoopdbkaaaGreatDoor
namespace Go.Proofs.YtkpjhjoopdbkaaaGreatDoor
open Go.RowKit
def wordText : ByteArray := ⟨#[99, 111, 108, 111, 117, 114, 32, 112, 108, 97, 99, 101, 32, 116, 97, 115, 107, 32, 118, 97, 114, 32, 119, 104, 101, 110, 32, 106, 111, 105, 110, 32, 115, 112, 108, 105, 116, 32, 105, 110, 32, 111, 117, 116, 32, 99, 97, 110, 99, 101, 108, 32, 97, 102, 116, 101, 114, 32, 109, 97, 110, 121, 32, 102, 114, 111, 109, 32, 116, 111, 32, 105, 110, 116, 32, 101, 110, 117, 109, 32, 112, 97, 105, 114, 32, 97, 110, 100, 32, 120, 111, 114, 32, 111, 114, 32, 105, 102]⟩
/-- The words that are no names. -/
def wordL : List (List UInt8) := [[99, 111, 108, 111, 117, 114], [112, 108, 97, 99, 101], [116, 97, 115, 107], [118, 97, 114], [119, 104, 101, 110], [106, 111, 105, 110], [115, 112, 108, 105, 116], [105, 110], [111, 117, 116], [99, 97, 110, 99, 101, 108], [97, 102, 116, 101, 114], [109, 97, 110, 121], [102, 114, 111, 109], [116, 111], [105, 110, 116], [101, 110, 117, 109], [112, 97, 105, 114], [97, 110, 100], [120, 111, 114], [111, 114], [105, 102]]
def wordStrs : List ByteArray := wordL.map fun l => ⟨l.toArray⟩
theorem word_fields : Lib.fields wordText.data.toList = wordL := by decide +kernel
def isWord (s : ByteArray) : Bool := Lib.containsS wordStrs s
def TabOk (w : World) : Prop := Lib.TabIs Tryz.prog w "strings.asciiSpace" .u8 Lib.asciiSpaceTab
theorem TabOk.below {w w' : World} (h : TabOk w) (hb : Below w.heap.size w w') : TabOk w' := Joins.tab_stays (P := Tryz.prog) (g := 1) (by kernel_rfl) h hb (Nat.le_refl _)
theorem TabOk.drewN {w : World} (h : TabOk w) (n : Nat) : TabOk (w.drewN n) := h.below (below_drewN' (Below.refl _ _) n)
def wordCells : Array Value := (wordStrs.map Value.string).toArray
set_option maxHeartbeats 400000 in
theorem tok_words (w : World) (ht : Hid (TabOk w)) :
    Calls Tryz.prog 160 #[] w fun e w' => e = .returned (.slice (some ⟨w.heap.size, 0, none⟩) 21 21) ∧ w.alloc (.cells wordCells 9) = w' := by
  have hasc : ∀ (j : Nat) b, wordText.data.toList[j]? = some b → b.toNat < 128 := by
    intro j b hj
    have h : wordText.data.toList.all (fun b => decide (b.toNat < 128)) = true := by decide +kernel
    have := List.all_eq_true.1 h b (List.mem_of_getElem? hj)
    simpa using this
  have hc := Tryz.strings_Fields wordText w (by decide) hasc ht.out
  rw [word_fields] at hc
  have HC := Lib.hid hc
  clear hc
  go_enter Tryz.func160, Tryz.ntmps160
  go_wp2_with fail
  refine HC.out.mono ?_
  rintro e w2 ⟨rfl, rfl⟩
  go_wp2
  go_ret
  exact ⟨rfl, rfl⟩
set_option maxHeartbeats 400000 in
theorem tok_Word (s : ByteArray) (w : World) (ht : Hid (TabOk w)) :
    Calls Tryz.prog 124 #[.string s] w fun e w' => e = .returned (.bool (isWord s)) ∧ Below w.heap.size w w' := by
  have hcells : ∀ j, j < wordStrs.length → (w.alloc (.cells wordCells 9)).cell? ⟨w.heap.size, 0 + j, none⟩ = some (.string (wordStrs.getD j ByteArray.empty)) := by
    intro j hj
    rw [cell_of_row _ _ _ _ _ _ (heap_alloc_new w _)]
    have : wordCells = (wordStrs.map Value.string).toArray := rfl
    rw [this]
    simp [List.getD, List.getElem?_eq_getElem hj]
  have HC := Lib.hid hcells
  clear hcells
  go_enter Tryz.func124, Tryz.ntmps124
  go_wp2_with fail
  refine (tok_words w ht).mono ?_
  rintro e w2 ⟨rfl, rfl⟩
  go_wp2_with fail
  refine (Tryz.slices_Contains_string w.heap.size 0 21 21 wordStrs s _ (by decide) (by decide) HC.out).mono ?_
  rintro e w2 ⟨rfl, rfl⟩
  go_wp2
  go_ret
  exact ⟨rfl, (Below.refl _ _).alloc (Nat.le_refl _) _⟩
end Go.Proofs.YtkpjhjoopdbkaaaGreatDoor
namespace Go.Proofs.YtkpjhjoopdbkaaaGreatDoor
open Go.RowKit
def opN (s : ByteArray) : Int := if Lib.idxOfS signStrs s < 0 then 0 else Lib.idxOfS signStrs s + 1
def isOp (s : ByteArray) : Bool := decide (0 ≤ Lib.idxOfS signStrs s)
theorem idxOfS_bd (zs : List ByteArray) (x : ByteArray) : -1 ≤ Lib.idxOfS zs x ∧ Lib.idxOfS zs x < zs.length ∨ Lib.idxOfS zs x = -1 := by
  have gen : ∀ (zs : List ByteArray) (i : Nat), Lib.idxFromS zs x i = -1 ∨ (i ≤ Lib.idxFromS zs x i ∧ Lib.idxFromS zs x i < i + zs.length) := by
    intro zs
    induction zs with
    | nil => intro i; simp [Lib.idxFromS]
    | cons z zs ih =>
      intro i
      simp only [Lib.idxFromS]
      split
      · right; simp; omega
      · rcases ih (i + 1) with h | h
        · exact .inl h
        · right; simp; omega
  rcases gen zs 0 with h | h
  · exact .inr h
  · left; unfold Lib.idxOfS; omega
theorem signs_cells (w : World) (t : TypeId) : ∀ j, j < signStrs.length → (w.alloc (.cells signCells t)).cell? ⟨w.heap.size, 0 + j, none⟩ = some (.string (signStrs.getD j ByteArray.empty)) := by
  intro j hj
  have hb : (w.alloc (.cells signCells t)).heap[w.heap.size]? = some (.cells signCells t (0, 0)) := heap_alloc_new w _
  rw [cell_of_row _ _ _ _ _ _ hb]
  have : signCells = (signStrs.map Value.string).toArray := rfl
  rw [this]
  simp [List.getD, List.getElem?_eq_getElem hj]
set_option maxHeartbeats 400000 in
theorem calc_Op (s : ByteArray) (w : World) :
    Calls Tryz.prog 65 #[.string s] w fun e w' => e = .returned (.tuple #[.int .i64 (opN s), .bool (isOp s)]) ∧ Below w.heap.size w w' := by
  have HC := Lib.hid (signs_cells w 9)
  go_enter Tryz.func65, Tryz.ntmps65
  go_wp2_with (first
    | (go_at_call 123; refine (calc_signs _).mono ?_; rintro e w' ⟨rfl, rfl⟩)
    | (go_at_call 122; refine (Tryz.slices_Index_string w.heap.size 0 11 11 signStrs s _ (by decide) (by decide) HC.out).mono ?_; rintro e w' ⟨rfl, rfl⟩))
  · go_ret2
    have h : Lib.idxOfS signStrs s < 0 := ‹Lib.idxOfS (List.take 11 signStrs) s < 0›
    exact ⟨ret2b (by simp [opN, h]) (by simp [isOp]; omega), (Below.refl _ _).alloc (Nat.le_refl _) _⟩
  · go_ret2
    have h : 0 ≤ Lib.idxOfS signStrs s := ‹0 ≤ Lib.idxOfS (List.take 11 signStrs) s›
    have hbd := idxOfS_bd signStrs s
    have hl : signStrs.length = 11 := rfl
    refine ⟨ret2b ?_ (by simp [isOp]; omega), (Below.refl _ _).alloc (Nat.le_refl _) _⟩
    show wrap64 (1 + Lib.idxOfS signStrs s) = _
    rw [wrapI (by unfold I64; omega)]
    unfold opN
    rw [if_neg (by omega)]
    omega
/-- A slice of integers that reads as a list: its cells at a plain address. -/
def IntsAt (w : World) (b off : Nat) (l : List Int) : Prop := ∀ j, j < l.length → w.cell? ⟨b, off + j, none⟩ = some (.int .i64 (l.getD j 0))
theorem IntsAt.drewN {w : World} {b off : Nat} {l : List Int} (h : IntsAt w b off l) (n : Nat) : IntsAt (w.drewN n) b off l := h
end Go.Proofs.YtkpjhjoopdbkaaaGreatDoor
namespace Go.Proofs.YtkpjhjoopdbkaaaGreatDoor
/-- A token's kind and text. -/
abbrev Kt := Int × ByteArray
/-- The parser: where it stands, the error, where that stands, the net so far, the variables. -/
structure Ps where
  at_ : Nat
  err : Int
  ep : Nat
  cols : List Col
  pls : List Pl
  tks : List Tk
  from_ : Int
  to_ : Int
  vars : List ByteArray
def Ps.zero : Ps := ⟨0, 0, 0, [], [], [], 0, 0, []⟩
def wrongP (e : Int) (s : Ps) : Ps := if s.err = 0 then { s with err := e, ep := s.at_ } else s
def stepP (s : Ps) : Ps := { s with at_ := s.at_ + 1 }
/-- Where a text stands in a row; below 0: nowhere. -/
def findN (l : List ByteArray) (x : ByteArray) : Int := Lib.idxOfS l x
section
variable (K : List Kt)
def nextP (s : Ps) : Kt := if s.err = 0 then K.getD s.at_ (0, ByteArray.empty) else (0, ByteArray.empty)
def seesP (s : Ps) : ByteArray := if (nextP K s).1 = 3 ∨ ((nextP K s).1 = 1 ∧ isWord (nextP K s).2 = true) then (nextP K s).2 else ByteArray.empty
def takeB (x : ByteArray) (s : Ps) : Bool := decide (seesP K s = x)
def takeP (x : ByteArray) (s : Ps) : Ps := if takeB K x s then stepP s else s
def wantP (x : ByteArray) (s : Ps) : Ps := if takeB K x s then stepP s else wrongP 4 s
def nameB (s : Ps) : Bool := decide ((nextP K s).1 = 1) && !isWord (nextP K s).2
def nameV (s : Ps) : ByteArray := if nameB K s then (nextP K s).2 else ByteArray.empty
def nameQ (s : Ps) : Ps := if nameB K s then s else wrongP 4 s
/-- Behind a fresh name: what it does where the name is there, and had already. -/
def freshQ (s : Ps) : Ps := if s.err = 0 then stepP s else s
def freshS (has : ByteArray → Bool) (s : Ps) : Ps := freshQ (if nameB K s && has (nameV K s) then wrongP 5 s else nameQ K s)
def knownV (find : ByteArray → Int) (s : Ps) : Int := if nameB K s && decide (0 ≤ find (nameV K s)) then find (nameV K s) else 0
def knownS (find : ByteArray → Int) (s : Ps) : Ps := if nameB K s then (if find (nameV K s) < 0 then wrongP 3 s else stepP s) else wrongP 4 s
def numB (s : Ps) : Bool := decide ((nextP K s).1 = 2) && numOk (nextP K s).2.data.toList
def numbV (s : Ps) : Int := if numB K s then numV (nextP K s).2.data.toList else 0
def numbS (s : Ps) : Ps := if numB K s then stepP s else wrongP 4 s
def minusT : ByteArray := ⟨#[45]⟩
def integerV (s : Ps) : Int := if takeB K minusT s then - numbV K (stepP s) else numbV K s
def integerS (s : Ps) : Ps := if takeB K minusT s then numbS K (stepP s) else numbS K s
def findVar (s : Ps) (x : ByteArray) : Int := findN s.vars x
def findCol (s : Ps) (x : ByteArray) : Int := findN (s.cols.map (·.name)) x
def findPl (s : Ps) (x : ByteArray) : Int := findN (s.pls.map (·.name)) x
def findTk (s : Ps) (x : ByteArray) : Int := findN (s.tks.map (·.name)) x
def hadT (f : ByteArray → Int) (x : ByteArray) : Bool := decide (0 ≤ f x)
def nobody (_ : ByteArray) : Bool := false
/-- The signs behind an expression. -/
def signB (strength : Int) (s : Ps) : Bool := isOp (seesP K s) && decide (strength < strI (opN (seesP K s)))
def loopP (ex : Int → Ps → Tr × Ps) (strength : Int) : Nat → Tr → Ps → Tr × Ps
  | 0, e, s => (e, s)
  | n + 1, e, s => if signB K strength s then
      loopP ex strength n (.mk 5 (opN (seesP K s)) [e, (ex (strI (opN (seesP K s))) (stepP s)).1]) (ex (strI (opN (seesP K s))) (stepP s)).2
    else (e, s)
def choiceP (ex : Int → Ps → Tr × Ps) (s : Ps) : Tr × Ps :=
  let a := ex 0 (wantP K ⟨#[40]⟩ s)
  let b := ex 0 (wantP K ⟨#[44]⟩ a.2)
  let c := ex 0 (wantP K ⟨#[44]⟩ b.2)
  (.mk 6 0 [a.1, b.1, c.1], wantP K ⟨#[41]⟩ c.2)
def unaryP (ex : Int → Ps → Tr × Ps) (un : Ps → Tr × Ps) (s : Ps) : Tr × Ps :=
  if takeB K minusT s then (.mk 3 0 [(un (stepP s)).1], (un (stepP s)).2)
  else if takeB K ⟨#[33]⟩ s then (.mk 4 0 [(un (stepP s)).1], (un (stepP s)).2)
  else if takeB K ⟨#[40]⟩ s then ((ex 0 (stepP s)).1, wantP K ⟨#[41]⟩ (ex 0 (stepP s)).2)
  else if takeB K ⟨#[105, 102]⟩ s then choiceP K ex (stepP s)
  else if (nextP K s).1 = 2 then (.mk 1 (numbV K s) [], numbS K s)
  else (.mk 2 (knownV K (findVar s) s) [], knownS K (findVar s) s)
/-- The parts and the expressions, so much deeper. -/
def exprsP : Nat → (Ps → Tr × Ps) × (Int → Ps → Tr × Ps)
  | 0 => (fun s => (.mk 0 0 [], wrongP 2 s), fun _ s => (.mk 0 0 [], wrongP 2 s))
  | f + 1 => (unaryP K (exprsP f).2 (exprsP f).1, fun st s => loopP K (exprsP f).2 st (K.length + 1) (unaryP K (exprsP f).2 (exprsP f).1 s).1 (unaryP K (exprsP f).2 (exprsP f).1 s).2)
def exprP (st : Int) (s : Ps) : Tr × Ps := (exprsP K 40).2 st s
/-- Names of members, as long as a comma follows. -/
def namesP : Nat → List ByteArray → Ps → List ByteArray × Ps
  | 0, l, s => (l, s)
  | n + 1, l, s => if takeB K ⟨#[44]⟩ (freshS K nobody s) then namesP n (l ++ [nameV K s]) (stepP (freshS K nobody s)) else (l ++ [nameV K s], freshS K nobody s)
/-- A colour's kind and what follows it. -/
def colourK (c : Col) (s : Ps) : Col × Ps :=
  if takeB K ⟨#[105, 110, 116]⟩ s then
    ({ c with kind := 1, lo := integerV K (stepP s), hi := integerV K (wantP K ⟨#[46, 46]⟩ (integerS K (stepP s))) }, integerS K (wantP K ⟨#[46, 46]⟩ (integerS K (stepP s))))
  else if takeB K ⟨#[101, 110, 117, 109]⟩ s then
    ({ c with kind := 2, names := (namesP K (K.length + 1) [] (stepP s)).1 }, (namesP K (K.length + 1) [] (stepP s)).2)
  else if takeB K ⟨#[112, 97, 105, 114]⟩ s then
    ({ c with kind := 3, first := knownV K (findCol (stepP s)) (stepP s), then_ := knownV K (findCol (wantP K ⟨#[44]⟩ (knownS K (findCol (stepP s)) (stepP s)))) (wantP K ⟨#[44]⟩ (knownS K (findCol (stepP s)) (stepP s))) },
      knownS K (findCol (wantP K ⟨#[44]⟩ (knownS K (findCol (stepP s)) (stepP s)))) (wantP K ⟨#[44]⟩ (knownS K (findCol (stepP s)) (stepP s))))
  else (c, wrongP 4 s)
def Col.named (x : ByteArray) : Col := ⟨x, 0, 0, 0, [], 0, 0⟩
def colourS (s : Ps) : Ps :=
  let r := colourK K (Col.named (nameV K s)) (wantP K ⟨#[61]⟩ (freshS K (hadT (findCol s)) s))
  let z := wantP K ⟨#[59]⟩ r.2
  { z with cols := z.cols ++ [r.1] }
/-- So many more of a member. -/
def bumpC (m n : Int) : Row → Row
  | [] => [(m, min n 1048576)]
  | (x, v) :: r => if m < x then (m, min n 1048576) :: (x, v) :: r else if m = x then (x, v + min n (1048576 - v)) :: r else (x, v) :: bumpC m n r
def starV (s : Ps) : Int := if takeB K ⟨#[42]⟩ s then numbV K (stepP s) else 1
def starS (s : Ps) : Ps := if takeB K ⟨#[42]⟩ s then numbS K (stepP s) else s
def countsP : Nat → Row → Ps → Row × Ps
  | 0, c, s => (c, s)
  | n + 1, c, s =>
    let k := starV K (numbS K s)
    let z := starS K (numbS K s)
    if takeB K ⟨#[44]⟩ z then countsP n (bumpC (numbV K s) k c) (stepP z) else (bumpC (numbV K s) k c, z)
def firstC (s : Ps) : Row × Ps := if takeB K ⟨#[61]⟩ s then countsP K (K.length + 1) [] (stepP s) else ([], s)
def placeS (s : Ps) : Ps :=
  let y := wantP K ⟨#[58]⟩ (freshS K (hadT (findPl s)) s)
  let r := firstC K (knownS K (findCol y) y)
  let z := wantP K ⟨#[59]⟩ r.2
  { z with pls := z.pls ++ [⟨nameV K s, knownV K (findCol y) y, r.1.filter fun q => decide (0 < q.2)⟩] }
def kindV (s : Ps) : Int := if takeB K ⟨#[97, 110, 100]⟩ s then 1 else if takeB K ⟨#[120, 111, 114]⟩ s then 2 else if takeB K ⟨#[111, 114]⟩ s then 3 else 0
def kindS (s : Ps) : Ps := if takeB K ⟨#[97, 110, 100]⟩ s then stepP s else if takeB K ⟨#[120, 111, 114]⟩ s then stepP s else if takeB K ⟨#[111, 114]⟩ s then stepP s else wrongP 4 s
def arcP (s : Ps) : Ar × Ps :=
  let r := exprP K 0 (wantP K ⟨#[40]⟩ (knownS K (findPl s) s))
  (⟨knownV K (findPl s) s, r.1⟩, wantP K ⟨#[41]⟩ r.2)
def varP (t : Tk) (s : Ps) : Tk × Ps :=
  let y := wantP K ⟨#[58]⟩ (freshS K (hadT (findVar s)) s)
  let z := knownS K (findCol y) y
  ({ t with vars := t.vars ++ [⟨nameV K s, knownV K (findCol y) y⟩] }, { z with vars := z.vars ++ [nameV K s] })
def manyP (t : Tk) (s : Ps) : Tk × Ps :=
  let y := wantP K ⟨#[44]⟩ (numbS K s)
  let z := wantP K ⟨#[44]⟩ (numbS K y)
  ({ t with m0 := numbV K s, m1 := numbV K y, m2 := numbV K z }, numbS K z)
/-- What reads a clause, behind its word; none: it is no such word. -/
def clauseP (word : ByteArray) (t : Tk) (s : Ps) : Option (Tk × Ps) :=
  if word = ⟨#[118, 97, 114]⟩ then some (varP K t s)
  else if word = ⟨#[119, 104, 101, 110]⟩ then some ({ t with guard := (exprP K 0 s).1 }, (exprP K 0 s).2)
  else if word = ⟨#[106, 111, 105, 110]⟩ then some ({ t with join := kindV K s }, kindS K s)
  else if word = ⟨#[115, 112, 108, 105, 116]⟩ then some ({ t with split := kindV K s }, kindS K s)
  else if word = ⟨#[105, 110]⟩ then some ({ t with ins := t.ins ++ [(arcP K s).1] }, (arcP K s).2)
  else if word = ⟨#[111, 117, 116]⟩ then some ({ t with outs := t.outs ++ [(arcP K s).1] }, (arcP K s).2)
  else if word = ⟨#[99, 97, 110, 99, 101, 108]⟩ then some ({ t with cancel := t.cancel ++ [knownV K (findPl s) s] }, knownS K (findPl s) s)
  else if word = ⟨#[97, 102, 116, 101, 114]⟩ then some ({ t with after := numbV K s }, numbS K s)
  else if word = ⟨#[109, 97, 110, 121]⟩ then some (manyP K t s)
  else none
def isOnce (x : ByteArray) : Bool := Lib.containsS [⟨#[119, 104, 101, 110]⟩, ⟨#[106, 111, 105, 110]⟩, ⟨#[115, 112, 108, 105, 116]⟩, ⟨#[97, 102, 116, 101, 114]⟩, ⟨#[109, 97, 110, 121]⟩] x
/-- The task, its words so far, the parser. -/
structure Ts where
  t : Tk
  had : List ByteArray
  s : Ps
def oneP (u : Ts) : Ts :=
  match clauseP K (seesP K u.s) u.t (stepP u.s) with
  | none => { u with s := wrongP 4 u.s }
  | some r => if Lib.containsS u.had (seesP K u.s) && isOnce (seesP K u.s) then { u with s := wrongP 5 u.s } else ⟨r.1, seesP K u.s :: u.had, wantP K ⟨#[59]⟩ r.2⟩
def clausesP : Nat → Ts → Ts
  | 0, u => u
  | n + 1, u => if u.s.err = 0 then (if takeB K ⟨#[125]⟩ u.s then { u with s := stepP u.s } else clausesP n (oneP K u)) else u
def Tk.named (x : ByteArray) : Tk := ⟨x, [], .mk 1 1 [], 1, 1, [], [], [], 0, 0, 0, 0⟩
def taskS (s : Ps) : Ps :=
  let u := clausesP K (K.length + 1) ⟨Tk.named (nameV K s), [], wantP K ⟨#[123]⟩ (freshS K (hadT (findTk s)) { s with vars := [] })⟩
  { u.s with tks := u.s.tks ++ [u.t] }
def partS (s : Ps) : Ps :=
  if takeB K ⟨#[99, 111, 108, 111, 117, 114]⟩ s then colourS K (stepP s)
  else if takeB K ⟨#[112, 108, 97, 99, 101]⟩ s then placeS K (stepP s)
  else if takeB K ⟨#[116, 97, 115, 107]⟩ s then taskS K (stepP s)
  else wrongP 4 s
def declsP : Nat → Ps → Ps
  | 0, s => s
  | n + 1, s => if s.err = 0 then (if takeB K ⟨#[102, 114, 111, 109]⟩ s then stepP s else declsP n (partS K s)) else s
def toldS (s : Ps) : Ps := if s.at_ < K.length then wrongP 4 s else s
def endsP (s : Ps) : Ps :=
  let a := wantP K ⟨#[116, 111]⟩ (wantP K ⟨#[59]⟩ { knownS K (findPl s) s with from_ := knownV K (findPl s) s })
  wantP K ⟨#[59]⟩ { knownS K (findPl a) a with to_ := knownV K (findPl a) a }
def netP : Ps := toldS K (endsP K (declsP K (K.length + 1) Ps.zero))
end
end Go.Proofs.YtkpjhjoopdbkaaaGreatDoor
