/- Joined: Words for slices: a slice value that reads as a list of cells. The plain answers of package calc, as functions of integers: no program in sight. Plain words of package token: bytes and runs; no program in sight. Plain words of package token: numbers. Package colour: letter, Name. Package colour: sets of texts, names, span. Contracts of the functions of package calc and of its reference. Contracts of package calc's reference: the product. -/
import Derived.WalkKit
import Derived.WalkSpells
import Derived.Lib.Hide
import Derived.OpenShut
import Derived.Deep.Draws
import Derived.Laws.OwnMore
import Derived.Maps.AppendAt
import Derived.RegionTactic
import Derived.OwnWalk
import Derived.Lib.SlicesS
import Derived.Test.YtkpjhjoopdbkaaaGreatDoorRows
import Derived.WalkLawsBesides
import Derived.Deep.QuietTactic
import Derived.BigQuiet
import Derived.Maps.OwnSet
namespace Go.Proofs.YtkpjhjoopdbkaaaGreatDoor
open Go.RowKit

/-- 'v' is a slice of n elements of 'size' cells each; its cells are xs. -/
def Sl (w : World) (v : Value) (n size : Nat) (xs : List Value) : Prop :=
  ∃ A c, v = .slice A n c ∧ n ≤ c ∧ c ≤ 9223372036854775807 ∧ xs.length = n * size ∧
    (0 < n → ∃ b off, A = some ⟨b, off, none⟩ ∧ ∀ j u, xs[j]? = some u → w.cell? ⟨b, off + j, none⟩ = some u)

theorem below_drewN' {B : Nat} {a w : World} (h : Below B a w) (n : Nat) : Below B a (w.drewN n) := ⟨h.os, h.tape, h.output, h.size, h.block⟩
/-- One step more, of a call in the world so far. -/
theorem below_then {w w1 w2 : World} (h : Below w.heap.size w w1) (h2 : Below w1.heap.size w1 w2) : Below w.heap.size w w2 := h.trans (h2.mono h.size)

theorem cell_kept {w w' : World} (hb : Below w.heap.size w w') {p : Addr} {u : Value} (h : w.cell? p = some u) : w'.cell? p = some u :=
  (hb.cell (World.block_lt_of_cell? w p h)).trans h
theorem Sl.below {w w' : World} {v : Value} {n size : Nat} {xs : List Value} (h : Sl w v n size xs) (hb : Below w.heap.size w w') : Sl w' v n size xs := by
  obtain ⟨A, c, h1, h2, h3, h4, h5⟩ := h
  refine ⟨A, c, h1, h2, h3, h4, fun hn => ?_⟩
  obtain ⟨b, off, h6, h7⟩ := h5 hn
  exact ⟨b, off, h6, fun j u hu => cell_kept hb (h7 j u hu)⟩
theorem Sl.none_ (w : World) (size : Nat) : Sl w (.slice none 0 0) 0 size [] := ⟨none, 0, rfl, Nat.le_refl _, by omega, by simp, fun h => absurd h (by omega)⟩
theorem Sl.drewN {w : World} {v : Value} {n size : Nat} {xs : List Value} (h : Sl w v n size xs) (k : Nat) : Sl (w.drewN k) v n size xs := h
theorem Sl.len {w : World} {v : Value} {n size : Nat} {xs : List Value} (h : Sl w v n size xs) : xs.length = n * size := by
  obtain ⟨_, _, _, _, _, h4, _⟩ := h; exact h4
/-- The form: what a walk wants to see of the value. -/
theorem Sl.form {w : World} {v : Value} {n size : Nat} {xs : List Value} (h : Sl w v n size xs) : ∃ A c, v = .slice A n c ∧ n ≤ c ∧ c ≤ 9223372036854775807 ∧ Sl w (.slice A n c) n size xs := by
  obtain ⟨A, c, h1, h2, h3, h4, h5⟩ := h
  exact ⟨A, c, h1, h2, h3, A, c, rfl, h2, h3, h4, h5⟩
theorem Sl.at_ {w : World} {A : Option Addr} {n c size : Nat} {xs : List Value} (h : Sl w (.slice A n c) n size xs) (hn : 0 < n) :
    ∃ b off, A = some ⟨b, off, none⟩ ∧ ∀ j u, xs[j]? = some u → w.cell? ⟨b, off + j, none⟩ = some u := by
  obtain ⟨A', c', h1, _, _, _, h5⟩ := h
  injection h1 with h1 _ _
  subst h1
  exact h5 hn
theorem Sl.of_own {w : World} {base : Nat} {e : TypeId} {size n : Nat} {v : Value} {xs : List Value} (h : w.ownsRow base e size v n xs) : Sl w v n size xs := by
  have hc := fun g (hg : v.ownBlock = some g) => h.cells (g := g) hg
  obtain ⟨hl, hv⟩ := h
  rcases hv with ⟨rfl, rfl⟩ | ⟨g, cap, cur, rfl, _, hg, hnc, hm, _, _⟩
  · exact ⟨none, 0, rfl, Nat.le_refl _, by omega, hl, fun h => absurd h (by omega)⟩
  · refine ⟨_, cap, rfl, hnc, by unfold maxLen at hm; exact hm, hl, fun _ => ⟨g, 0, rfl, fun j u hu => ?_⟩⟩
    have := hc g rfl j u hu
    rwa [Go.WideShapes.add_plain] at this
/-- The list of integers as cells. -/
def intCells (l : List Int) : List Value := l.map (Value.int .i64)
theorem intCells_at {l : List Int} {k : Nat} (h : k < l.length) : (intCells l)[k]? = some (.int .i64 (l.getD k 0)) := by
  simp [intCells, List.getD, List.getElem?_eq_getElem h]
theorem intCells_len (l : List Int) : (intCells l).length = l.length := by simp [intCells]
/-- What the program's tables say of a slice type: its element's number, cells and bytes. -/
def SlTy (P : Program) (t e : TypeId) (size bytes : Nat) : Prop :=
  ∃ i z, P.underlying t = some (.slice e) ∧ P.info? e = some i ∧ i.zero = some z ∧ i.size = size ∧ i.bytes = bytes ∧ z.cells.size = size ∧ 0 < size
theorem SlTy.mk {P : Program} {t e : TypeId} {size bytes : Nat} {z : Value} (ht : P.underlying t = some (.slice e)) (hi : (P.info? e).map (fun i => (i.zero, i.size, i.bytes)) = some (some z, size, bytes))
    (hz : z.cells.size = size) (hs : 0 < size) : SlTy P t e size bytes := by
  obtain ⟨i, h1, h2, h3, h4⟩ := info_parts hi
  exact ⟨i, z, ht, h1, h2, h3, h4, hz, hs⟩

section
variable {P : Program} {w : World}
theorem run_append_of_nil (base : Nat) (t ty e : TypeId) (i : TypeInfo) (size : Nat) (ht : P.underlying t = some (.slice e)) (hi : P.info? e = some i)
    (v : Value) (n : Nat) (xs : List Value) (hown : w.ownsRow base e size v n xs) (c : Nat) : (Builtin.append_ #[t, t] ty #[v, .slice none 0 c]).run P w = .ok v w := by
  rcases hown.2 with ⟨rfl, rfl⟩ | ⟨g, cap, cur, rfl, _, _, hnc, _⟩
  · simp [Builtin.append_, run_underlying ht, sizeOf, typeInfo, hi, Builtin.lenOf, Builtin.firstCells]
  · simp [Builtin.append_, run_underlying ht, sizeOf, typeInfo, hi, Builtin.lenOf, Builtin.firstCells, hnc, storeCells]

theorem run_append_sl {t e : TypeId} {size bytes : Nat} (hT : SlTy P t e size bytes) (ty : TypeId) (base : Nat) {v : Value} {n : Nat} {xs : List Value} (hown : w.ownsRow base e size v n xs)
    {A : Option Addr} {m c : Nat} {news : List Value} (hs : Sl w (.slice A m c) m size news) (h1 : ∀ u ∈ news, u.oneCell' = true)
    (hbytes : (n + m) * bytes ≤ 140737488355328) (h63 : n + m ≤ 9223372036854775807) (hbase : base ≤ w.heap.size) :
    ∃ v' w', (Builtin.append_ #[t, t] ty #[v, .slice A m c]).run P w = .ok v' w' ∧ w'.ownsRow base e size v' (n + m) (xs ++ news) ∧ w.grownBy w' v.ownBlock ∧
      (v'.ownBlock = v.ownBlock ∨ v'.ownBlock = some w.heap.size) := by
  obtain ⟨i, z, ht, hi, hz, hsize, hby, hzs, hsz⟩ := hT
  have hlen := hs.len
  rcases A with _ | ad
  · have hm : m = 0 := by
      rcases Nat.eq_zero_or_pos m with h0 | h0
      · exact h0
      · obtain ⟨b, off, h, _⟩ := hs.at_ h0
        cases h
    subst hm
    have hn : news = [] := List.eq_nil_of_length_eq_zero (by simpa using hlen)
    subst hn
    exact ⟨v, w, run_append_of_nil base t ty e i size ht hi v n xs hown c, by simpa using hown, World.grownBy.refl w _, .inl rfl⟩
  · have hcells : ∀ j u, news[j]? = some u → w.cell? (ad.add j) = some u := by
      intro j u hu
      rcases Nat.eq_zero_or_pos m with h0 | h0
      · subst h0
        have hn : news = [] := List.eq_nil_of_length_eq_zero (by simpa using hlen)
        subst hn
        simp at hu
      · obtain ⟨b, off, h, hc⟩ := hs.at_ h0
        injection h with h
        subst h
        rw [Go.WideShapes.add_plain]
        exact hc j u hu
    obtain ⟨v', w', hrun, h2, h3, _, h5⟩ := run_append_own_at (P := P) w base t ty e i z size bytes ht hi hz hsize hby hzs hsz v n xs hown ad m c news hlen hcells h1 (by unfold maxLen; exact h63) hbytes hbase
    exact ⟨v', w', hrun, h2, h3, h5⟩

theorem wp_append_sl {t e : TypeId} {size bytes : Nat} (hT : SlTy P t e size bytes) {o : Oper} {a : Act} {K : Act → World → Prop} {Q : Exit → Act → World → Prop} (s x : Operand)
    (ho : o.op = .call { callee := .builtin .append, args := #[s, x], argTypes := #[t, t] }) (base : Nat)
    {v : Value} {n : Nat} {xs : List Value} (hs : a.eval s = v) (hown : w.ownsRow base e size v n xs)
    {A : Option Addr} {m c : Nat} {news : List Value} (hx : a.eval x = .slice A m c) (hr : Sl w (.slice A m c) m size news) (h1 : ∀ u ∈ news, u.oneCell' = true)
    (hbytes : (n + m) * bytes ≤ 140737488355328) (h63 : n + m ≤ 9223372036854775807) (hbase : base ≤ w.heap.size)
    (h : ∀ v' w', w'.ownsRow base e size v' (n + m) (xs ++ news) → w.grownBy w' v.ownBlock → (v'.ownBlock = v.ownBlock ∨ v'.ownBlock = some w.heap.size) → K (a.put o.dst v') w') : o.wp P a w K Q := by
  obtain ⟨v', w', hrun, h2, h3, h4⟩ := run_append_sl (P := P) hT o.type base hown hr h1 hbytes h63 hbase
  unfold Oper.wp execOp
  simp only [ho, resolve, invoke, builtin, Sem.run_bind, Sem.run_pure, Result.andThen_ok, List.map_toArray, List.map_cons, List.map_nil, hs, hx, hrun]
  exact h v' w' h2 h3 h4

theorem wpList_append_sl {t e : TypeId} {size bytes : Nat} (hT : SlTy P t e size bytes) {ops : Array Oper} {rest : List Oper} {o : Oper} {a : Act} {Q : Exit → Act → World → Prop} (hgd : o.guard = none) (s x : Operand)
    (ho : o.op = .call { callee := .builtin .append, args := #[s, x], argTypes := #[t, t] }) (base : Nat)
    {v : Value} {n : Nat} {xs : List Value} (hs : a.eval s = v) (hown : w.ownsRow base e size v n xs)
    {A : Option Addr} {m c : Nat} {news : List Value} (hx : a.eval x = .slice A m c) (hr : Sl w (.slice A m c) m size news) (h1 : ∀ u ∈ news, u.oneCell' = true)
    (hbytes : (n + m) * bytes ≤ 140737488355328) (h63 : n + m ≤ 9223372036854775807) (hbase : base ≤ w.heap.size)
    (h : ∀ v' w', w'.ownsRow base e size v' (n + m) (xs ++ news) → w.grownBy w' v.ownBlock → (v'.ownBlock = v.ownBlock ∨ v'.ownBlock = some w.heap.size) → wpList P ops Q rest (a.put o.dst v') w') : wpList P ops Q (o :: rest) a w :=
  wpList_plain hgd fun _ hK => wp_append_sl hT s x ho base hs hown hx hr h1 hbytes h63 hbase fun v' w' h2 h3 h4 => hK _ _ (h v' w' h2 h3 h4)
theorem step_append_sl {t e : TypeId} {size bytes : Nat} (hT : SlTy P t e size bytes) {ops : Array Oper} {o : Oper} {a : Act} {K : Act → World → Prop} {Q : Exit → Act → World → Prop} {E : Prop} (hgd : o.guard = none) (s x : Operand)
    (ho : o.op = .call { callee := .builtin .append, args := #[s, x], argTypes := #[t, t] }) (base : Nat)
    {v : Value} {n : Nat} {xs : List Value} (hs : a.eval s = v) (hown : w.ownsRow base e size v n xs)
    {A : Option Addr} {m c : Nat} {news : List Value} (hx : a.eval x = .slice A m c) (hr : Sl w (.slice A m c) m size news) (h1 : ∀ u ∈ news, u.oneCell' = true)
    (hbytes : (n + m) * bytes ≤ 140737488355328) (h63 : n + m ≤ 9223372036854775807) (hbase : base ≤ w.heap.size)
    (h : ∀ v' w', w'.ownsRow base e size v' (n + m) (xs ++ news) → w.grownBy w' v.ownBlock → (v'.ownBlock = v.ownBlock ∨ v'.ownBlock = some w.heap.size) → K (a.put o.dst v') w') :
    if Region.wanted o (yielded ops a.tmps) = true then Oper.wp P o a w K Q else E := by
  have hw : Region.wanted o (yielded ops a.tmps) = true := by simp [Region.wanted, hgd]
  rw [if_pos hw]
  exact wp_append_sl hT s x ho base hs hown hx hr h1 hbytes h63 hbase h
end
theorem own_below {w w' : World} {base : Nat} {e : TypeId} {size n : Nat} {v : Value} {xs : List Value} (h : w.ownsRow base e size v n xs) (hb : Below w.heap.size w w') : w'.ownsRow base e size v n xs := by
  have hlt := h.lt
  refine ⟨h.1, ?_⟩
  rcases h.2 with hn | ⟨g, cap, cur, rfl, hbg, hgg, rest⟩
  · exact .inl hn
  · refine .inr ⟨g, cap, cur, rfl, hbg, ?_, rest⟩
    rw [hb.block g (hlt g rfl).2]; exact hgg
theorem own_drew {w : World} {base : Nat} {e : TypeId} {size n : Nat} {v : Value} {xs : List Value} (h : w.ownsRow base e size v n xs) : w.drew.ownsRow base e size v n xs := h
/-- A new block of cells, read as a slice. -/
theorem Sl.new (w : World) (t : TypeId) (cs : List Value) (n size : Nat) (h : cs.length = n * size) (hm : n ≤ 9223372036854775807) : Sl (w.alloc (.cells cs.toArray t)) (.slice (some ⟨w.heap.size, 0, none⟩) n n) n size cs := by
  refine ⟨_, n, rfl, Nat.le_refl _, hm, h, fun _ => ⟨w.heap.size, 0, rfl, fun j u hu => ?_⟩⟩
  have hb := heap_alloc_new w (.cells cs.toArray t)
  rw [cell_of_row _ _ _ _ _ _ hb]
  simpa using hu
/-- What an append leaves of old memory. -/
theorem below_grown {B : Nat} {a w w' : World} {v : Value} {base : Nat} {e : TypeId} {size n : Nat} {xs : List Value} (h : Below B a w) (hg : w.grownBy w' v.ownBlock) (hown : w.ownsRow base e size v n xs) (hB : B ≤ base) (hs : B ≤ w.heap.size) : Below B a w' :=
  h.grown hg hs (fun k hk => Nat.le_trans hB (hown.lt k hk).1)
end Go.Proofs.YtkpjhjoopdbkaaaGreatDoor
namespace Go.Proofs.YtkpjhjoopdbkaaaGreatDoor
open Go.RowKit

abbrev I64 (x : Int) : Prop := -9223372036854775808 ≤ x ∧ x ≤ 9223372036854775807
instance (x : Int) : Decidable (I64 x) := by unfold I64; infer_instance
theorem wrapI {x : Int} (h : I64 x) : wrap64 x = x := IntWalk.wrap64_in x h
theorem ret1 {k : IntKind} {a b : Int} (h : a = b) : Ending.returned (.int k a) = .returned (.int k b) := by rw [h]
theorem ret2 {k l : IntKind} {a b c d : Int} (h : a = b) (g : c = d) : Ending.returned (.tuple #[.int k a, .int l c]) = .returned (.tuple #[.int k b, .int l d]) := by rw [h, g]
theorem ret3 {k l m : IntKind} {a b c d x y : Int} (h : a = b) (g : c = d) (i : x = y) : Ending.returned (.tuple #[.int k a, .int l c, .int m x]) = .returned (.tuple #[.int k b, .int l d, .int m y]) := by rw [h, g, i]
theorem ret2b {k : IntKind} {a b : Int} {c d : Bool} (h : a = b) (g : c = d) : Ending.returned (.tuple #[.int k a, .bool c]) = .returned (.tuple #[.int k b, .bool d]) := by rw [h, g]

section
variable {a b : Int} (ha : I64 a) (hb : I64 b)
include ha hb
end
def strI (op : Int) : Int :=
  if op = 3 ∨ op = 4 ∨ op = 5 then 5 else if op = 1 ∨ op = 2 then 4 else if 6 ≤ op ∧ op ≤ 9 then 3 else if op = 10 then 2 else if op = 11 then 1 else 0
def knownB (op : Int) : Bool := decide (1 ≤ op ∧ op ≤ 11)
theorem ret1b {a b : Bool} (h : a = b) : Ending.returned (.bool a) = .returned (.bool b) := by rw [h]
end Go.Proofs.YtkpjhjoopdbkaaaGreatDoor
namespace Go.Proofs.YtkpjhjoopdbkaaaGreatDoor
def isLetter (c : UInt8) : Bool := decide (97 ≤ c.toNat ∧ c.toNat ≤ 122) || decide (65 ≤ c.toNat ∧ c.toNat ≤ 90)
def isDigit (c : UInt8) : Bool := decide (48 ≤ c.toNat ∧ c.toNat ≤ 57)
def isNamed (c : UInt8) : Bool := isLetter c || isDigit c || decide (c.toNat = 95)
def isBlank (c : UInt8) : Bool := decide (c.toNat = 32 ∨ c.toNat = 9 ∨ c.toNat = 10 ∨ c.toNat = 13)
def isInline (c : UInt8) : Bool := decide (c.toNat ≠ 10)
/-- Where a run of bytes ends that are so. -/
def runL (p : UInt8 → Bool) (l : List UInt8) (k : Nat) : Nat := k + ((l.drop k).takeWhile p).length
theorem runL_step {p : UInt8 → Bool} {l : List UInt8} {k : Nat} (h : k < l.length) (hp : p l[k] = true) : runL p l (k + 1) = runL p l k := by
  unfold runL
  rw [List.drop_eq_getElem_cons h, List.takeWhile_cons_of_pos hp]
  simp; omega
theorem runL_stop {p : UInt8 → Bool} {l : List UInt8} {k : Nat} (h : k < l.length) (hp : p l[k] = false) : runL p l k = k := by
  unfold runL
  rw [List.drop_eq_getElem_cons h, List.takeWhile_cons_of_neg (by simp [hp])]
  simp
theorem runL_end {p : UInt8 → Bool} {l : List UInt8} {k : Nat} (h : l.length ≤ k) : runL p l k = k := by
  unfold runL
  rw [List.drop_eq_nil_of_le h]
  simp
theorem runL_ge (p : UInt8 → Bool) (l : List UInt8) (k : Nat) : k ≤ runL p l k := by unfold runL; omega
theorem runL_le (p : UInt8 → Bool) (l : List UInt8) (k : Nat) (h : k ≤ l.length) : runL p l k ≤ l.length := by
  unfold runL
  have := List.Sublist.length_le (List.takeWhile_sublist p (l := l.drop k))
  rw [List.length_drop] at this
  omega
theorem drop_runL (p : UInt8 → Bool) (l : List UInt8) (k : Nat) : l.drop (runL p l k) = (l.drop k).dropWhile p := by
  unfold runL
  rw [← List.drop_drop]
  generalize l.drop k = r
  induction r with
  | nil => simp
  | cons c r ih =>
    by_cases h : p c = true
    · rw [List.takeWhile_cons_of_pos h, List.dropWhile_cons_of_pos h]; simpa using ih
    · rw [List.takeWhile_cons_of_neg h, List.dropWhile_cons_of_neg h]; simp
/-- What is left of a text behind what is no token; the Bool: inside a remark. -/
def skipC : Bool → List UInt8 → List UInt8
  | _, [] => []
  | false, c :: r => if isBlank c then skipC false r else if c = 35 then skipC true r else c :: r
  | true, c :: r => if isInline c then skipC true r else skipC false r
theorem skipC_blank (r : List UInt8) : skipC false r = skipC false (r.dropWhile isBlank) := by
  induction r with
  | nil => rfl
  | cons c r ih =>
    by_cases h : isBlank c = true
    · rw [List.dropWhile_cons_of_pos h, ← ih]; simp [skipC, h]
    · rw [List.dropWhile_cons_of_neg h]
theorem skipC_inline (r : List UInt8) : skipC true r = skipC false (r.dropWhile isInline) := by
  induction r with
  | nil => rfl
  | cons c r ih =>
    by_cases h : isInline c = true
    · rw [List.dropWhile_cons_of_pos h, ← ih]; simp [skipC, h]
    · rw [List.dropWhile_cons_of_neg h]
      have h2 : c = 10 := by
        have : c.toNat = 10 := by simpa [isInline] using h
        exact UInt8.toNat_inj.1 this
      subst h2
      simp [skipC, isInline, isBlank]
theorem skipC_len (b : Bool) (r : List UInt8) : (skipC b r).length ≤ r.length := by
  induction r generalizing b with
  | nil => cases b <;> simp [skipC]
  | cons c r ih =>
    have h1 := ih true
    have h2 := ih false
    cases b
    · simp only [skipC]; split
      · simp; omega
      · split
        · simp; omega
        · simp
    · simp only [skipC]; split <;> simp <;> omega
/-- Where the next token begins. -/
def skipTo (l : List UInt8) (k : Nat) : Nat := l.length - (skipC false (l.drop k)).length
theorem skipTo_stop {l : List UInt8} {k : Nat} (h : k < l.length) (hb : isBlank l[k] = false) (hh : (l[k].toNat == 35) = false) : skipTo l k = k := by
  have h35 : ¬ l[k] = 35 := by intro e; rw [e] at hh; exact absurd hh (by decide)
  unfold skipTo
  rw [List.drop_eq_getElem_cons h]
  simp [skipC, hb, h35]; omega
theorem skipTo_end (l : List UInt8) : skipTo l l.length = l.length := by simp [skipTo, skipC]
theorem skipTo_blank (l : List UInt8) (k : Nat) : skipTo l k = skipTo l (runL isBlank l k) := by
  unfold skipTo; rw [drop_runL, ← skipC_blank]
theorem skipTo_hash {l : List UInt8} {k : Nat} (h : k < l.length) (hh : (l[k].toNat == 35) = true) : skipTo l k = skipTo l (runL isInline l k) ∧ k < runL isInline l k := by
  have h35 : l[k] = 35 := UInt8.toNat_inj.1 (by simpa using hh)
  have hi : isInline l[k] = true := by rw [h35]; decide
  constructor
  · unfold skipTo
    rw [drop_runL, List.drop_eq_getElem_cons h, List.dropWhile_cons_of_pos hi, ← skipC_inline]
    rw [h35]
    rfl
  · have := runL_ge isInline l (k + 1)
    rw [runL_step h hi] at this
    omega
theorem runL_blank_not {l : List UInt8} {k : Nat} (h : runL isBlank l k < l.length) : isBlank (l[runL isBlank l k]'h) = false := by
  have h1 := drop_runL isBlank l k
  rw [List.drop_eq_getElem_cons h] at h1
  have h2 := List.head?_dropWhile_not isBlank (l.drop k)
  rw [← h1] at h2
  simpa [List.getElem?_eq_getElem h] using h2
end Go.Proofs.YtkpjhjoopdbkaaaGreatDoor
namespace Go.Proofs.YtkpjhjoopdbkaaaGreatDoor
/-- The number of digits read so far. -/
def numF : Int → List UInt8 → Int
  | n, [] => n
  | n, c :: r => numF (n * 10 + ((c.toNat : Int) - 48)) r
def allDigits (l : List UInt8) : Bool := l.all isDigit
theorem numF_ge (l : List UInt8) (h : allDigits l = true) : ∀ n : Int, 0 ≤ n → n ≤ numF n l := by
  induction l with
  | nil => intro n _; exact Int.le_refl _
  | cons c r ih =>
    intro n hn
    have hc : isDigit c = true ∧ allDigits r = true := by simpa [allDigits] using h
    have h1 : 48 ≤ c.toNat := by have := hc.1; simp [isDigit] at this; exact this.1
    have := ih hc.2 (n * 10 + ((c.toNat : Int) - 48)) (by omega)
    simp only [numF]
    omega
/-- Number's answer. -/
def numOk (l : List UInt8) : Bool := decide (l ≠ []) && !(decide (1 < l.length) && decide (l.head? = some 48)) && allDigits l && decide (numF 0 l ≤ 9223372036854775807)
def numV (l : List UInt8) : Int := if numOk l then numF 0 l else 0
theorem runL_all {l : List UInt8} : runL isDigit l 0 = l.length ↔ allDigits l = true := by
  unfold runL allDigits
  simp only [List.drop_zero, Nat.zero_add]
  induction l with
  | nil => simp
  | cons c r ih =>
    by_cases h : isDigit c = true
    · rw [List.takeWhile_cons_of_pos h]; simp [h, ih]
    · rw [List.takeWhile_cons_of_neg h]; simp [h]
theorem toList_data (s : ByteArray) : s.toList = s.data.toList := ByteArray.toList_eq s
theorem head_get (s : ByteArray) (h : 0 < s.size) : s.data.toList.head? = some s[0] := by
  have : 0 < s.data.toList.length := by simpa using h
  rw [List.head?_eq_getElem?, List.getElem?_eq_getElem this]; rfl
theorem num_bad_absurd {s : ByteArray} (h : s.data.toList = [] ∨ (1 < s.size ∧ s.data.toList.head? = some 48) ∨ allDigits s.data.toList = false)
    (h1 : ¬ s.toList = []) (h2 : ¬ runL isDigit s.data.toList 0 < s.size) (h3 : s.size ≤ 1 ∨ ∃ h0 : 0 < s.size, ¬ (s[0].toNat : Int) = 48) : False := by
  have hsz : s.data.toList.length = s.size := by simp
  rcases h with h | ⟨h4, h5⟩ | h
  · exact h1 ((toList_data s).trans h)
  · rcases h3 with h3 | ⟨h0, h3⟩
    · omega
    · rw [head_get s h0] at h5
      injection h5 with h5
      rw [h5] at h3
      exact h3 rfl
  · have := runL_le isDigit s.data.toList 0 (by omega)
    have h6 := (runL_all (l := s.data.toList)).1 (by omega)
    rw [h6] at h
    cases h
/-- The form of a number, but for its size. -/
def numForm (l : List UInt8) : Prop := l ≠ [] ∧ ¬ (1 < l.length ∧ l.head? = some 48) ∧ allDigits l = true
theorem num_yes {l : List UInt8} (h : numForm l) (h2 : numF 0 l ≤ 9223372036854775807) : numV l = numF 0 l ∧ numOk l = true := by
  obtain ⟨h3, h4, h5⟩ := h
  have hk : numOk l = true := by
    simp only [numOk, h3, h5, h2, ne_eq, not_false_eq_true, decide_true, Bool.true_and, Bool.and_true, Bool.not_eq_true', Bool.and_eq_false_imp, decide_eq_true_eq, decide_eq_false_iff_not]
    exact fun h6 h7 => h4 ⟨h6, h7⟩
  exact ⟨by simp [numV, hk], hk⟩
theorem num_no {l : List UInt8} (h2 : ¬ (numForm l ∧ numF 0 l ≤ 9223372036854775807)) : numV l = 0 ∧ numOk l = false := by
  have hk : numOk l = false := by
    rw [Bool.eq_false_iff]
    intro hk
    simp only [numOk, Bool.and_eq_true, decide_eq_true_eq, Bool.not_eq_true', Bool.and_eq_false_imp, decide_eq_false_iff_not] at hk
    exact h2 ⟨⟨hk.1.1.1, fun h => hk.1.1.2 h.1 h.2, hk.1.2⟩, hk.2⟩
  exact ⟨by simp [numV, hk], hk⟩
theorem digits_at {l : List UInt8} (h : allDigits l = true) {k : Nat} (hk : k < l.length) : 48 ≤ l[k].toNat ∧ l[k].toNat ≤ 57 := by
  have := List.all_eq_true.1 h l[k] (List.getElem_mem hk)
  simpa [isDigit] using this
theorem digits_drop {l : List UInt8} (h : allDigits l = true) (k : Nat) : allDigits (l.drop k) = true :=
  List.all_eq_true.2 fun c hc => List.all_eq_true.1 h c (List.mem_of_mem_drop hc)
end Go.Proofs.YtkpjhjoopdbkaaaGreatDoor
namespace Go.Proofs.YtkpjhjoopdbkaaaGreatDoor
open Go.RowKit
/-- Is a text a name? -/
def nameOk (l : List UInt8) : Bool := decide (l ≠ []) && decide (l.length ≤ 32) && isLetter (l.getD 0 0) && l.all isNamed
end Go.Proofs.YtkpjhjoopdbkaaaGreatDoor
namespace Go.Proofs.YtkpjhjoopdbkaaaGreatDoor
open Go.RowKit
theorem keyS : Maps.Keyed Tryz.prog 9 := Maps.string_keyed Tryz.underlying9
abbrev OwnS (w : World) (b n : Nat) (D : DataW Unit) : Prop := w.ownsMap Tryz.prog 9 (plainElem Tryz.prog 4) b n D
theorem zeroB (w : World) : (zeroValue 4).run Tryz.prog w = .ok (.bool false) w := by kernel_rfl
theorem key_s {s : ByteArray} (h : s.size ≤ 32) : keyOf Tryz.prog 9 (.string s) = some (.string s.data.toList) := by
  have hm : s.size ≤ maxLen := by unfold maxLen; omega
  simp [keyOf, Tryz.underlying9, mapKey, hm]
theorem pe_bool {P : Program} {e : TypeId} (he : P.underlying e = some .bool) {v : Value} {x : Bool} {ps : List MemPlace} (h : plainElem (H := Unit) P e v = some (.lit (.bool x), ps)) : v = .bool x := by
  unfold plainElem at h
  rw [he] at h
  cases v <;> simp at h
  rw [h.1]
/-- The texts that a map holds. -/
def HadOf (D : DataW Unit) (l : List (List UInt8)) : Prop := Maps.IsMap D ∧ ∀ s, D.atKey (.string s) (.lit (.bool false)) = .lit (.bool (l.contains s))
theorem HadOf.nil : HadOf (.map []) [] := ⟨⟨_, rfl⟩, fun _ => rfl⟩
theorem HadOf.put {D : DataW Unit} {l : List (List UInt8)} (h : HadOf D l) (s : List UInt8) : HadOf (D.put (.string s) (.lit (.bool true))) (s :: l) := by
  refine ⟨?_, fun x => ?_⟩
  · obtain ⟨es, rfl⟩ := h.1
    exact ⟨_, rfl⟩
  · by_cases e : x = s
    · rw [e, Maps.atKey_put_same h.1 (show WideAt.IsKeyLit (.string s) from trivial)]
      simp
    · rw [Maps.atKey_put_other (fun h1 => e (by injection h1)), h.2 x]
      have : (s :: l).contains x = l.contains x := by
        rw [List.contains_cons]
        have : (x == s) = false := by simpa using e
        rw [this]; rfl
      rw [this]
theorem look_had {w : World} {b n : Nat} {D : DataW Unit} {l : List (List UInt8)} (h : OwnS w b n D) (hd : HadOf D l) {s : ByteArray} (hs : s.size ≤ 32) :
    (Instr.lookup 166 (.map (some b)) (.string s) false).run Tryz.prog w = .ok (.bool (l.contains s.data.toList)) w := by
  obtain ⟨v, ps, hrun, hv⟩ := h.lookup keyS Tryz.underlying166 (zeroB w) (plainElem_bool Tryz.underlying4 false) (key_s hs)
  rw [hd.2] at hv
  have hv2 := pe_bool Tryz.underlying4 hv
  subst hv2
  exact hrun
/-- Names, none twice. -/
def namesG : List (List UInt8) → List ByteArray → Bool
  | _, [] => true
  | had, s :: r => if nameOk s.data.toList && !had.contains s.data.toList then namesG (s.data.toList :: had) r else false
abbrev namesF (l : List ByteArray) : Bool := namesG [] l
def strCells (l : List ByteArray) : List Value := l.map Value.string
theorem strCells_len (l : List ByteArray) : (strCells l).length = l.length := by simp [strCells]
theorem Sl.str_at {w : World} {A : Option Addr} {n c : Nat} {l : List ByteArray} (h : Sl w (.slice A n c) n 1 (strCells l)) {k : Nat} (hk : k < n) :
    ∃ b off, A = some ⟨b, off, none⟩ ∧ w.cell? ⟨b, off + k, none⟩ = some (.string (l.getD k ByteArray.empty)) := by
  have hl := h.len
  rw [strCells_len] at hl
  obtain ⟨b, off, e, hc⟩ := h.at_ (by omega)
  refine ⟨b, off, e, hc k _ ?_⟩
  simp [strCells, List.getD, List.getElem?_eq_getElem (show k < l.length by omega)]
/-- How many numbers there are from one to another. -/
def spanF (lo hi : Int) : Int := if hi < lo then 0 else min (hi - lo) 1024 + 1
end Go.Proofs.YtkpjhjoopdbkaaaGreatDoor
namespace Go.Proofs.YtkpjhjoopdbkaaaGreatDoor
open Go.RowKit

set_option maxHeartbeats 400000 in
theorem calc_Known (op : Int) (w : World) :
    Calls Tryz.prog 81 #[.int .i64 op] w fun e w' => e = .returned (.bool (knownB op)) ∧ w = w' := by
  go_enter Tryz.func81, Tryz.ntmps81
  go_wp2
  all_goals
    go_ret
    exact ⟨ret1b (by simp [knownB]; omega), rfl⟩
set_option maxHeartbeats 400000 in
theorem calc_Strength (op : Int) (w : World) :
    Calls Tryz.prog 67 #[.int .i64 op] w fun e w' => e = .returned (.int .i64 (strI op)) ∧ w = w' := by
  go_enter Tryz.func67, Tryz.ntmps67
  go_wp2
  all_goals
    go_ret
    refine ⟨ret1 ?_, rfl⟩
    simp_all [strI]
  all_goals omega
end Go.Proofs.YtkpjhjoopdbkaaaGreatDoor
namespace Go.Proofs.YtkpjhjoopdbkaaaGreatDoor
open Go.RowKit
end Go.Proofs.YtkpjhjoopdbkaaaGreatDoor
