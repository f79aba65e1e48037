/- Joined: Contracts: Do of the reference; signs. Package expr: trees in memory. Plain words on trees: depth, size, parts. Depth and Size, the program's and the document's. Package colour: colours in memory; size. Package colour: sizes. Package colour: of, has, colour, parts. Package colour: Right, Size, Parts, Number. -/
import Derived.Test.YtkpjhjoopdbkaaaGreatDoorG01
import Derived.Lib.Hide
import Derived.WalkLawsBesides
import Derived.Deep.QuietTactic
import Derived.BigQuiet
import Derived.Handy
import Derived.Deep.RegionHeld3
import Derived.Deep.DeepCutAuto
namespace Go.Proofs.YtkpjhjoopdbkaaaGreatDoor
open Go.RowKit
/-- The texts of the operations' signs. -/
def signBytes : List (List UInt8) := [[43], [45], [42], [47], [37], [61, 61], [33, 61], [60], [60, 61], [38, 38], [124, 124]]
def signStrs : List ByteArray := signBytes.map fun l => ⟨l.toArray⟩
def signCells : Array Value := (signStrs.map Value.string).toArray
set_option maxHeartbeats 400000 in
theorem calc_signs (w : World) :
    Calls Tryz.prog 123 #[] w fun e w' => e = .returned (.slice (some ⟨w.heap.size, 0, none⟩) 11 11) ∧ w.alloc (.cells signCells 9) = w' := by
  go_enter Tryz.func123, Tryz.ntmps123
  go_wp2
  go_ret
  exact ⟨rfl, rfl⟩
def signOf (op : Int) : ByteArray := if 1 ≤ op ∧ op ≤ 11 then signStrs.getD (op - 1).toNat ⟨#[]⟩ else ⟨#[63]⟩
theorem sign_cell (w : World) (t : TypeId) (op : Int) (h1 : 1 ≤ op) (h2 : op ≤ 11) : (w.alloc (.cells signCells t)).cell? ⟨w.heap.size, op.toNat - 1, none⟩ = some (.string (signOf op)) := by
  have h : signCells[op.toNat - 1]? = some (.string (signOf op)) := by
    have : op = 1 ∨ op = 2 ∨ op = 3 ∨ op = 4 ∨ op = 5 ∨ op = 6 ∨ op = 7 ∨ op = 8 ∨ op = 9 ∨ op = 10 ∨ op = 11 := by omega
    rcases this with h | h | h | h | h | h | h | h | h | h | h <;> subst h <;> rfl
  have hb : (w.alloc (.cells signCells t)).heap[w.heap.size]? = some (.cells signCells t (0, 0)) := heap_alloc_new w _
  rw [cell_of_row _ _ _ _ _ _ hb, h]
set_option maxHeartbeats 400000 in
theorem calc_Sign (op : Int) (w : World) :
    Calls Tryz.prog 86 #[.int .i64 op] w fun e w' => e = .returned (.string (signOf op)) ∧ Below w.heap.size w w' := by
  by_cases h : 1 ≤ op ∧ op ≤ 11
  · obtain ⟨h1, h2⟩ := h
    have hk : knownB op = true := by simp [knownB]; omega
    have hcell := sign_cell w 9 op h1 h2
    go_enter Tryz.func86, Tryz.ntmps86
    go_wp2_with (first
      | (go_at_call 81; refine (calc_Known _ _).mono ?_; rintro e w' ⟨rfl, rfl⟩)
      | (go_at_call 123; refine (calc_signs _).mono ?_; rintro e w' ⟨rfl, rfl⟩))
    go_ret
    exact ⟨rfl, (Below.refl _ _).alloc (Nat.le_refl _) _⟩
  · have hk : knownB op = false := by simp [knownB]; omega
    have hs : signOf op = ⟨#[63]⟩ := by simp [signOf, h]
    have HS := Lib.hid hs
    clear h hs
    go_enter Tryz.func86, Tryz.ntmps86
    go_wp2_with (first
      | (go_at_call 81; refine (calc_Known _ _).mono ?_; rintro e w' ⟨rfl, rfl⟩))
    go_ret
    exact ⟨by rw [HS.out]; rfl, Below.refl _ _⟩
end Go.Proofs.YtkpjhjoopdbkaaaGreatDoor
namespace Go.Proofs.YtkpjhjoopdbkaaaGreatDoor
open Go.RowKit
inductive Tr where
  | mk (kind num : Int) (kids : List Tr)
instance : Inhabited Tr := ⟨.mk 0 0 []⟩
def Tr.kind : Tr → Int | .mk k _ _ => k
def Tr.num : Tr → Int | .mk _ n _ => n
def Tr.kids : Tr → List Tr | .mk _ _ l => l
noncomputable def Tr.sz (t : Tr) : Nat := SizeOf.sizeOf t
theorem Tr.sz_pos (t : Tr) : 0 < t.sz := by
  obtain ⟨k, n, l⟩ := t
  unfold Tr.sz
  simp only [Tr.mk.sizeOf_spec]
  omega
theorem Tr.kid_lt {t : Tr} {j : Nat} (h : j < t.kids.length) : (t.kids.getD j default).sz < t.sz := by
  obtain ⟨k, n, l⟩ := t
  have h' : j < l.length := h
  have e : (Tr.mk k n l).kids.getD j default = l[j] := by
    show l.getD j default = _
    rw [List.getD, List.getElem?_eq_getElem h']; rfl
  rw [e]
  have := List.sizeOf_lt_of_mem (List.getElem_mem h')
  unfold Tr.sz
  simp only [Tr.mk.sizeOf_spec]
  omega
/-- An expression's value. -/
abbrev Tr.val (t : Tr) (A : Option Addr) (m c : Nat) : Value := .agg #[.int .i64 t.kind, .int .i64 t.num, .slice A m c]
mutual
/-- The slice of a tree's kids. -/
def TrAt (w : World) (A : Option Addr) (m c : Nat) : Tr → Prop
  | .mk k n kids => I64 k ∧ I64 n ∧ kids.length = m ∧ m ≤ c ∧ c ≤ 9223372036854775807 ∧ (m = 0 ∨ ∃ b off, A = some ⟨b, off, none⟩ ∧ KidsAt w b off 0 kids)
def KidsAt (w : World) (b off : Nat) : Nat → List Tr → Prop
  | _, [] => True
  | i, t :: r => (∃ A m c, w.cell? ⟨b, off + i * 3, none⟩ = some (.int .i64 t.kind) ∧ w.cell? ⟨b, off + i * 3 + 1, none⟩ = some (.int .i64 t.num) ∧ w.cell? ⟨b, off + i * 3 + 2, none⟩ = some (.slice A m c) ∧ TrAt w A m c t) ∧ KidsAt w b off (i + 1) r
end
/-- A kid's cells. -/
structure KidAt (w : World) (b o : Nat) (A : Option Addr) (m c : Nat) (t : Tr) : Prop where
  c0 : w.cell? ⟨b, o, none⟩ = some (.int .i64 t.kind)
  c1 : w.cell? ⟨b, o + 1, none⟩ = some (.int .i64 t.num)
  c2 : w.cell? ⟨b, o + 2, none⟩ = some (.slice A m c)
  tr : TrAt w A m c t
theorem KidsAt.get {w : World} {b off : Nat} : ∀ {l : List Tr} {i j : Nat}, KidsAt w b off i l → j < l.length → ∃ A m c, KidAt w b (off + (i + j) * 3) A m c (l.getD j default)
  | [], i, j, _, hj => by simp at hj
  | t :: r, i, 0, h, _ => by
    rw [KidsAt] at h
    obtain ⟨⟨A, m, c, h0, h1, h2, h3⟩, _⟩ := h
    exact ⟨A, m, c, h0, h1, h2, h3⟩
  | t :: r, i, j + 1, h, hj => by
    rw [KidsAt] at h
    have := KidsAt.get h.2 (show j < r.length by simpa using hj)
    rw [show i + (j + 1) = i + 1 + j by omega]
    exact this
theorem KidsAt.mk_ {w : World} {b off : Nat} : ∀ {l : List Tr} {i : Nat}, (∀ j, j < l.length → ∃ A m c, KidAt w b (off + (i + j) * 3) A m c (l.getD j default)) → KidsAt w b off i l
  | [], i, _ => by rw [KidsAt]; trivial
  | t :: r, i, h => by
    rw [KidsAt]
    obtain ⟨A, m, c, h0, h1, h2, h3⟩ := h 0 (by simp)
    refine ⟨⟨A, m, c, h0, h1, h2, h3⟩, KidsAt.mk_ fun j hj => ?_⟩
    have := h (j + 1) (by simpa using hj)
    rw [show i + (j + 1) = i + 1 + j by omega] at this
    exact this
theorem TrAt.len {w : World} {A : Option Addr} {m c : Nat} {t : Tr} (h : TrAt w A m c t) : t.kids.length = m ∧ m ≤ c ∧ c ≤ 9223372036854775807 := by
  obtain ⟨k, n, l⟩ := t
  rw [TrAt] at h
  exact ⟨h.2.2.1, h.2.2.2.1, h.2.2.2.2.1⟩
theorem TrAt.nums {w : World} {A : Option Addr} {m c : Nat} {t : Tr} (h : TrAt w A m c t) : I64 t.kind ∧ I64 t.num := by
  obtain ⟨k, n, l⟩ := t
  rw [TrAt] at h
  exact ⟨h.1, h.2.1⟩
theorem TrAt.kid {w : World} {A : Option Addr} {m c : Nat} {t : Tr} (h : TrAt w A m c t) {j : Nat} (hj : j < m) : ∃ b off, A = some ⟨b, off, none⟩ ∧ ∃ A' m' c', KidAt w b (off + j * 3) A' m' c' (t.kids.getD j default) := by
  obtain ⟨k, n, l⟩ := t
  rw [TrAt] at h
  obtain ⟨_, _, hl, _, _, h | ⟨b, off, e, hk⟩⟩ := h
  · omega
  · refine ⟨b, off, e, ?_⟩
    have := hk.get (j := j) (by omega)
    rw [Nat.zero_add] at this
    exact this
theorem TrAt.mk_ {w : World} {A : Option Addr} {m c : Nat} {t : Tr} (h1 : I64 t.kind) (h2 : I64 t.num) (hl : t.kids.length = m) (hc : m ≤ c) (hc9 : c ≤ 9223372036854775807) (h : m = 0 ∨ ∃ b off, A = some ⟨b, off, none⟩ ∧ ∀ j, j < m → ∃ A' m' c', KidAt w b (off + j * 3) A' m' c' (t.kids.getD j default)) : TrAt w A m c t := by
  obtain ⟨k, n, l⟩ := t
  rw [TrAt]
  refine ⟨h1, h2, hl, hc, hc9, ?_⟩
  rcases h with h | ⟨b, off, e, h⟩
  · exact .inl h
  · refine .inr ⟨b, off, e, KidsAt.mk_ fun j hj => ?_⟩
    rw [Nat.zero_add]
    exact h j (by have : l.length = m := hl; omega)
theorem TrAt.below {w w' : World} (hb : Below w.heap.size w w') : ∀ (N : Nat) (t : Tr), t.sz ≤ N → ∀ {A : Option Addr} {m c : Nat}, TrAt w A m c t → TrAt w' A m c t
  | 0, t, hN, _, _, _, _ => by
    have := t.sz_pos
    omega
  | N + 1, t, hN, A, m, c, h => by
    obtain ⟨hl, hc, hc9⟩ := h.len
    obtain ⟨i1, i2⟩ := h.nums
    refine TrAt.mk_ i1 i2 hl hc hc9 ?_
    by_cases h0 : m = 0
    · exact .inl h0
    · obtain ⟨b, off, e, _⟩ := h.kid (j := 0) (by omega)
      refine .inr ⟨b, off, e, fun j hj => ?_⟩
      obtain ⟨b', off', e', A', m', c', hk⟩ := h.kid hj
      rw [e] at e'
      injection e' with e'
      injection e' with e1 e2
      subst e1; subst e2
      have hlt := Tr.kid_lt (t := t) (j := j) (by omega)
      exact ⟨A', m', c', cell_kept hb hk.c0, cell_kept hb hk.c1, cell_kept hb hk.c2, TrAt.below hb N _ (by omega) hk.tr⟩
theorem TrAt.kept {w w' : World} {A : Option Addr} {m c : Nat} {t : Tr} (h : TrAt w A m c t) (hb : Below w.heap.size w w') : TrAt w' A m c t := TrAt.below hb _ t (Nat.le_refl _) h
end Go.Proofs.YtkpjhjoopdbkaaaGreatDoor
namespace Go.Proofs.YtkpjhjoopdbkaaaGreatDoor
mutual
def sizeT : Tr → Nat
  | .mk _ _ l => sizeL l + 1
def sizeL : List Tr → Nat
  | [] => 0
  | t :: r => sizeT t + sizeL r
end
end Go.Proofs.YtkpjhjoopdbkaaaGreatDoor
namespace Go.Proofs.YtkpjhjoopdbkaaaGreatDoor
open Go.RowKit
theorem cell_new (w : World) (cs : Array Value) (t : TypeId) (j : Nat) (u : Value) (h : cs[j]? = some u) : (w.alloc (.cells cs t)).cell? ⟨w.heap.size, j, none⟩ = some u := by
  rw [cell_of_row _ w.heap.size j cs t (0, 0) (heap_alloc_new w _)]; exact h
end Go.Proofs.YtkpjhjoopdbkaaaGreatDoor
namespace Go.Proofs.YtkpjhjoopdbkaaaGreatDoor
open Go.RowKit
structure Col where
  name : ByteArray
  kind : Int
  lo : Int
  hi : Int
  names : List ByteArray
  first : Int
  then_ : Int
instance : Inhabited Col := ⟨⟨ByteArray.empty, 0, 0, 0, [], 0, 0⟩⟩
def Col.ok (c : Col) : Prop := I64 c.kind ∧ I64 c.lo ∧ I64 c.hi ∧ I64 c.first ∧ I64 c.then_
/-- A colour's value, with its slice of names. -/
abbrev Col.val (c : Col) (A : Option Addr) (n d : Nat) : Value := .agg #[.string c.name, .int .i64 c.kind, .int .i64 c.lo, .int .i64 c.hi, .slice A n d, .int .i64 c.first, .int .i64 c.then_]
/-- A colour's cells. -/
structure ColAt (w : World) (b o : Nat) (A : Option Addr) (n d : Nat) (c : Col) : Prop where
  c0 : w.cell? ⟨b, o, none⟩ = some (.string c.name)
  c1 : w.cell? ⟨b, o + 1, none⟩ = some (.int .i64 c.kind)
  c2 : w.cell? ⟨b, o + 2, none⟩ = some (.int .i64 c.lo)
  c3 : w.cell? ⟨b, o + 3, none⟩ = some (.int .i64 c.hi)
  c4 : w.cell? ⟨b, o + 4, none⟩ = some (.slice A n d)
  c5 : w.cell? ⟨b, o + 5, none⟩ = some (.int .i64 c.first)
  c6 : w.cell? ⟨b, o + 6, none⟩ = some (.int .i64 c.then_)
  names : Sl w (.slice A n d) n 1 (strCells c.names)
  ok : c.ok
theorem ColAt.below {w w' : World} {b o n d : Nat} {A : Option Addr} {c : Col} (h : ColAt w b o A n d c) (hb : Below w.heap.size w w') : ColAt w' b o A n d c :=
  ⟨cell_kept hb h.c0, cell_kept hb h.c1, cell_kept hb h.c2, cell_kept hb h.c3, cell_kept hb h.c4, cell_kept hb h.c5, cell_kept hb h.c6, h.names.below hb, h.ok⟩
theorem ColAt.len {w : World} {b o n d : Nat} {A : Option Addr} {c : Col} (h : ColAt w b o A n d c) : c.names.length = n ∧ n ≤ 9223372036854775807 := by
  have h1 := h.names.len
  rw [strCells_len] at h1
  obtain ⟨_, _, e, h2, h3, _⟩ := h.names
  exact ⟨by omega, by omega⟩
/-- Colours in a row. -/
def Cols (w : World) (A : Option Addr) (n c : Nat) (L : List Col) : Prop :=
  n ≤ c ∧ c ≤ 9223372036854775807 ∧ L.length = n ∧ (0 < n → ∃ b off, A = some ⟨b, off, none⟩ ∧ ∀ k, k < n → ∃ B m d, ColAt w b (off + k * 7) B m d (L.getD k default))
theorem Cols.below {w w' : World} {A : Option Addr} {n c : Nat} {L : List Col} (h : Cols w A n c L) (hb : Below w.heap.size w w') : Cols w' A n c L := by
  refine ⟨h.1, h.2.1, h.2.2.1, fun hn => ?_⟩
  obtain ⟨b, off, e, hc⟩ := h.2.2.2 hn
  refine ⟨b, off, e, fun k hk => ?_⟩
  obtain ⟨B, m, d, h1⟩ := hc k hk
  exact ⟨B, m, d, h1.below hb⟩
theorem Cols.at_ {w : World} {A : Option Addr} {n c : Nat} {L : List Col} (h : Cols w A n c L) {k : Nat} (hk : k < n) : ∃ b off, A = some ⟨b, off, none⟩ ∧ ∃ B m d, ColAt w b (off + k * 7) B m d (L.getD k default) := by
  obtain ⟨b, off, e, hc⟩ := h.2.2.2 (by omega)
  exact ⟨b, off, e, hc k hk⟩
/-- A colour's size, where those ahead are known. -/
def sizeF (c : Col) (out : List Int) : Int :=
  if c.kind = 1 then spanF c.lo c.hi
  else if c.kind = 2 then (if namesF c.names then (c.names.length : Int) else 0)
  else if c.kind = 3 then (if 0 ≤ min c.first c.then_ ∧ max c.first c.then_ < out.length then out.getD c.first.toNat 0 * out.getD c.then_.toNat 0 else 0)
  else 0
def Few1024 (out : List Int) : Prop := ∀ x ∈ out, 1 ≤ x ∧ x ≤ 1024
theorem Few1024.at_ {out : List Int} (h : Few1024 out) {k : Nat} (hk : k < out.length) : 1 ≤ out.getD k 0 ∧ out.getD k 0 ≤ 1024 := by
  refine h _ ?_
  rw [List.getD, List.getElem?_eq_getElem hk]
  exact List.getElem_mem hk
end Go.Proofs.YtkpjhjoopdbkaaaGreatDoor
namespace Go.Proofs.YtkpjhjoopdbkaaaGreatDoor
open Go.RowKit
def sizesG : List (List UInt8) → List Int → List Col → Option (List Int)
  | _, out, [] => some out
  | had, out, c :: r => if nameOk c.name.data.toList && !had.contains c.name.data.toList && decide (1 ≤ sizeF c out) && decide (sizeF c out ≤ 1024) then sizesG (c.name.data.toList :: had) (out ++ [sizeF c out]) r else none
def sizesF (L : List Col) : Option (List Int) := if 32 < L.length then none else sizesG [] [] L
theorem ints_ty1 : SlTy Tryz.prog 56 3 1 8 := SlTy.mk (z := .int .i64 0) (by kernel_rfl) (by kernel_rfl) rfl (by decide)
/-- The relation of the loop of sizes. -/
structure SizesL (w wr : World) (k : Nat) (v : Value) (out : List Int) : Prop where
  own : wr.ownsRow (w.heap.size + 1) 3 1 v k (intCells out)
  few : Few1024 out
  bel : Below w.heap.size w wr
  mlt : w.heap.size < wr.heap.size
end Go.Proofs.YtkpjhjoopdbkaaaGreatDoor
namespace Go.Proofs.YtkpjhjoopdbkaaaGreatDoor
open Go.RowKit
structure SetOk (w : World) (A : Option Addr) (n c : Nat) (L : List Col) (B : Option Addr) (d : Nat) (ss : List Int) : Prop where
  cols : Cols w A n c L
  sl : Sl w (.slice B n d) n 1 (intCells ss)
  few : Few1024 ss
  sz : sizesF L = some ss
theorem SetOk.below {w w' : World} {A : Option Addr} {n c : Nat} {L : List Col} {B : Option Addr} {d : Nat} {ss : List Int} (h : SetOk w A n c L B d ss) (hb : Below w.heap.size w w') : SetOk w' A n c L B d ss := ⟨h.cols.below hb, h.sl.below hb, h.few, h.sz⟩
theorem SetOk.len {w : World} {A : Option Addr} {n c : Nat} {L : List Col} {B : Option Addr} {d : Nat} {ss : List Int} (h : SetOk w A n c L B d ss) : ss.length = n := by have := h.sl.len; rw [intCells_len] at this; omega
section
variable {A : Option Addr} {n c : Nat} {L : List Col} {B : Option Addr} {d : Nat} {ss : List Int}
end
end Go.Proofs.YtkpjhjoopdbkaaaGreatDoor
namespace Go.Proofs.YtkpjhjoopdbkaaaGreatDoor
open Go.RowKit
end Go.Proofs.YtkpjhjoopdbkaaaGreatDoor
