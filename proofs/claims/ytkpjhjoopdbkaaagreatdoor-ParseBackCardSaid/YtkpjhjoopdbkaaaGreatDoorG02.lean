/- Joined: Contracts: Do of the reference; signs. Package expr: trees in memory. Plain words on trees: depth, size, parts. Depth and Size, the program's and the document's. Package colour: colours in memory; size. Package colour: sizes. Package colour: of, has, colour, parts. Package colour: Right, Size, Parts, Number. -/
import Derived.Test.YtkpjhjoopdbkaaaGreatDoorG01
import Derived.Lib.Hide
import Derived.WalkLawsBesides
import Derived.Deep.QuietTactic
import Derived.BigQuiet
import Derived.Handy
import Derived.Deep.RegionHeld3
import Derived.Deep.DeepCutAuto
namespace Go.Proofs.YtkpjhjoopdbkaaaGreatDoor
open Go.RowKit
/-- The texts of the operations' signs. -/
def signBytes : List (List UInt8) := [[43], [45], [42], [47], [37], [61, 61], [33, 61], [60], [60, 61], [38, 38], [124, 124]]
def signStrs : List ByteArray := signBytes.map fun l => ⟨l.toArray⟩
def signCells : Array Value := (signStrs.map Value.string).toArray
set_option maxHeartbeats 400000 in
theorem calc_signs (w : World) :
    Calls Tryz.prog 123 #[] w fun e w' => e = .returned (.slice (some ⟨w.heap.size, 0, none⟩) 11 11) ∧ w.alloc (.cells signCells 9) = w' := by
  go_enter Tryz.func123, Tryz.ntmps123
  go_wp2
  go_ret
  exact ⟨rfl, rfl⟩
def signOf (op : Int) : ByteArray := if 1 ≤ op ∧ op ≤ 11 then signStrs.getD (op - 1).toNat ⟨#[]⟩ else ⟨#[63]⟩
theorem sign_cell (w : World) (t : TypeId) (op : Int) (h1 : 1 ≤ op) (h2 : op ≤ 11) : (w.alloc (.cells signCells t)).cell? ⟨w.heap.size, op.toNat - 1, none⟩ = some (.string (signOf op)) := by
  have h : signCells[op.toNat - 1]? = some (.string (signOf op)) := by
    have : op = 1 ∨ op = 2 ∨ op = 3 ∨ op = 4 ∨ op = 5 ∨ op = 6 ∨ op = 7 ∨ op = 8 ∨ op = 9 ∨ op = 10 ∨ op = 11 := by omega
    rcases this with h | h | h | h | h | h | h | h | h | h | h <;> subst h <;> rfl
  have hb : (w.alloc (.cells signCells t)).heap[w.heap.size]? = some (.cells signCells t (0, 0)) := heap_alloc_new w _
  rw [cell_of_row _ _ _ _ _ _ hb, h]
set_option maxHeartbeats 400000 in
theorem calc_Sign (op : Int) (w : World) :
    Calls Tryz.prog 86 #[.int .i64 op] w fun e w' => e = .returned (.string (signOf op)) ∧ Below w.heap.size w w' := by
  by_cases h : 1 ≤ op ∧ op ≤ 11
  · obtain ⟨h1, h2⟩ := h
    have hk : knownB op = true := by simp [knownB]; omega
    have hcell := sign_cell w 9 op h1 h2
    go_enter Tryz.func86, Tryz.ntmps86
    go_wp2_with (first
      | (go_at_call 81; refine (calc_Known _ _).mono ?_; rintro e w' ⟨rfl, rfl⟩)
      | (go_at_call 123; refine (calc_signs _).mono ?_; rintro e w' ⟨rfl, rfl⟩))
    go_ret
    exact ⟨rfl, (Below.refl _ _).alloc (Nat.le_refl _) _⟩
  · have hk : knownB op = false := by simp [knownB]; omega
    have hs : signOf op = ⟨#[63]⟩ := by simp [signOf, h]
    have HS := Lib.hid hs
    clear h hs
    go_enter Tryz.func86, Tryz.ntmps86
    go_wp2_with (first
      | (go_at_call 81; refine (calc_Known _ _).mono ?_; rintro e w' ⟨rfl, rfl⟩))
    go_ret
    exact ⟨by rw [HS.out]; rfl, Below.refl _ _⟩
theorem str_cell (op : Int) (h1 : 1 ≤ op) (h2 : op ≤ 11) : ([Value.int .i64 4, Value.int .i64 4, Value.int .i64 5, Value.int .i64 5, Value.int .i64 5, Value.int .i64 3, Value.int .i64 3, Value.int .i64 3, Value.int .i64 3, Value.int .i64 2, Value.int .i64 1] : List Value)[op.toNat - 1]? = some (.int .i64 (strI op)) := by
  have : op = 1 ∨ op = 2 ∨ op = 3 ∨ op = 4 ∨ op = 5 ∨ op = 6 ∨ op = 7 ∨ op = 8 ∨ op = 9 ∨ op = 10 ∨ op = 11 := by omega
  rcases this with h | h | h | h | h | h | h | h | h | h | h <;> subst h <;> rfl
end Go.Proofs.YtkpjhjoopdbkaaaGreatDoor
namespace Go.Proofs.YtkpjhjoopdbkaaaGreatDoor
open Go.RowKit
inductive Tr where
  | mk (kind num : Int) (kids : List Tr)
instance : Inhabited Tr := ⟨.mk 0 0 []⟩
def Tr.kind : Tr → Int | .mk k _ _ => k
def Tr.num : Tr → Int | .mk _ n _ => n
def Tr.kids : Tr → List Tr | .mk _ _ l => l
noncomputable def Tr.sz (t : Tr) : Nat := SizeOf.sizeOf t
theorem Tr.sz_pos (t : Tr) : 0 < t.sz := by
  obtain ⟨k, n, l⟩ := t
  unfold Tr.sz
  simp only [Tr.mk.sizeOf_spec]
  omega
theorem Tr.kid_lt {t : Tr} {j : Nat} (h : j < t.kids.length) : (t.kids.getD j default).sz < t.sz := by
  obtain ⟨k, n, l⟩ := t
  have h' : j < l.length := h
  have e : (Tr.mk k n l).kids.getD j default = l[j] := by
    show l.getD j default = _
    rw [List.getD, List.getElem?_eq_getElem h']; rfl
  rw [e]
  have := List.sizeOf_lt_of_mem (List.getElem_mem h')
  unfold Tr.sz
  simp only [Tr.mk.sizeOf_spec]
  omega
/-- An expression's value. -/
abbrev Tr.val (t : Tr) (A : Option Addr) (m c : Nat) : Value := .agg #[.int .i64 t.kind, .int .i64 t.num, .slice A m c]
mutual
/-- The slice of a tree's kids. -/
def TrAt (w : World) (A : Option Addr) (m c : Nat) : Tr → Prop
  | .mk k n kids => I64 k ∧ I64 n ∧ kids.length = m ∧ m ≤ c ∧ c ≤ 9223372036854775807 ∧ (m = 0 ∨ ∃ b off, A = some ⟨b, off, none⟩ ∧ KidsAt w b off 0 kids)
def KidsAt (w : World) (b off : Nat) : Nat → List Tr → Prop
  | _, [] => True
  | i, t :: r => (∃ A m c, w.cell? ⟨b, off + i * 3, none⟩ = some (.int .i64 t.kind) ∧ w.cell? ⟨b, off + i * 3 + 1, none⟩ = some (.int .i64 t.num) ∧ w.cell? ⟨b, off + i * 3 + 2, none⟩ = some (.slice A m c) ∧ TrAt w A m c t) ∧ KidsAt w b off (i + 1) r
end
/-- A kid's cells. -/
structure KidAt (w : World) (b o : Nat) (A : Option Addr) (m c : Nat) (t : Tr) : Prop where
  c0 : w.cell? ⟨b, o, none⟩ = some (.int .i64 t.kind)
  c1 : w.cell? ⟨b, o + 1, none⟩ = some (.int .i64 t.num)
  c2 : w.cell? ⟨b, o + 2, none⟩ = some (.slice A m c)
  tr : TrAt w A m c t
theorem KidsAt.get {w : World} {b off : Nat} : ∀ {l : List Tr} {i j : Nat}, KidsAt w b off i l → j < l.length → ∃ A m c, KidAt w b (off + (i + j) * 3) A m c (l.getD j default)
  | [], i, j, _, hj => by simp at hj
  | t :: r, i, 0, h, _ => by
    rw [KidsAt] at h
    obtain ⟨⟨A, m, c, h0, h1, h2, h3⟩, _⟩ := h
    exact ⟨A, m, c, h0, h1, h2, h3⟩
  | t :: r, i, j + 1, h, hj => by
    rw [KidsAt] at h
    have := KidsAt.get h.2 (show j < r.length by simpa using hj)
    rw [show i + (j + 1) = i + 1 + j by omega]
    exact this
theorem KidsAt.mk_ {w : World} {b off : Nat} : ∀ {l : List Tr} {i : Nat}, (∀ j, j < l.length → ∃ A m c, KidAt w b (off + (i + j) * 3) A m c (l.getD j default)) → KidsAt w b off i l
  | [], i, _ => by rw [KidsAt]; trivial
  | t :: r, i, h => by
    rw [KidsAt]
    obtain ⟨A, m, c, h0, h1, h2, h3⟩ := h 0 (by simp)
    refine ⟨⟨A, m, c, h0, h1, h2, h3⟩, KidsAt.mk_ fun j hj => ?_⟩
    have := h (j + 1) (by simpa using hj)
    rw [show i + (j + 1) = i + 1 + j by omega] at this
    exact this
theorem TrAt.len {w : World} {A : Option Addr} {m c : Nat} {t : Tr} (h : TrAt w A m c t) : t.kids.length = m ∧ m ≤ c ∧ c ≤ 9223372036854775807 := by
  obtain ⟨k, n, l⟩ := t
  rw [TrAt] at h
  exact ⟨h.2.2.1, h.2.2.2.1, h.2.2.2.2.1⟩
theorem TrAt.nums {w : World} {A : Option Addr} {m c : Nat} {t : Tr} (h : TrAt w A m c t) : I64 t.kind ∧ I64 t.num := by
  obtain ⟨k, n, l⟩ := t
  rw [TrAt] at h
  exact ⟨h.1, h.2.1⟩
theorem TrAt.kid {w : World} {A : Option Addr} {m c : Nat} {t : Tr} (h : TrAt w A m c t) {j : Nat} (hj : j < m) : ∃ b off, A = some ⟨b, off, none⟩ ∧ ∃ A' m' c', KidAt w b (off + j * 3) A' m' c' (t.kids.getD j default) := by
  obtain ⟨k, n, l⟩ := t
  rw [TrAt] at h
  obtain ⟨_, _, hl, _, _, h | ⟨b, off, e, hk⟩⟩ := h
  · omega
  · refine ⟨b, off, e, ?_⟩
    have := hk.get (j := j) (by omega)
    rw [Nat.zero_add] at this
    exact this
theorem TrAt.mk_ {w : World} {A : Option Addr} {m c : Nat} {t : Tr} (h1 : I64 t.kind) (h2 : I64 t.num) (hl : t.kids.length = m) (hc : m ≤ c) (hc9 : c ≤ 9223372036854775807) (h : m = 0 ∨ ∃ b off, A = some ⟨b, off, none⟩ ∧ ∀ j, j < m → ∃ A' m' c', KidAt w b (off + j * 3) A' m' c' (t.kids.getD j default)) : TrAt w A m c t := by
  obtain ⟨k, n, l⟩ := t
  rw [TrAt]
  refine ⟨h1, h2, hl, hc, hc9, ?_⟩
  rcases h with h | ⟨b, off, e, h⟩
  · exact .inl h
  · refine .inr ⟨b, off, e, KidsAt.mk_ fun j hj => ?_⟩
    rw [Nat.zero_add]
    exact h j (by have : l.length = m := hl; omega)
theorem TrAt.below {w w' : World} (hb : Below w.heap.size w w') : ∀ (N : Nat) (t : Tr), t.sz ≤ N → ∀ {A : Option Addr} {m c : Nat}, TrAt w A m c t → TrAt w' A m c t
  | 0, t, hN, _, _, _, _ => by
    have := t.sz_pos
    omega
  | N + 1, t, hN, A, m, c, h => by
    obtain ⟨hl, hc, hc9⟩ := h.len
    obtain ⟨i1, i2⟩ := h.nums
    refine TrAt.mk_ i1 i2 hl hc hc9 ?_
    by_cases h0 : m = 0
    · exact .inl h0
    · obtain ⟨b, off, e, _⟩ := h.kid (j := 0) (by omega)
      refine .inr ⟨b, off, e, fun j hj => ?_⟩
      obtain ⟨b', off', e', A', m', c', hk⟩ := h.kid hj
      rw [e] at e'
      injection e' with e'
      injection e' with e1 e2
      subst e1; subst e2
      have hlt := Tr.kid_lt (t := t) (j := j) (by omega)
      exact ⟨A', m', c', cell_kept hb hk.c0, cell_kept hb hk.c1, cell_kept hb hk.c2, TrAt.below hb N _ (by omega) hk.tr⟩
theorem TrAt.kept {w w' : World} {A : Option Addr} {m c : Nat} {t : Tr} (h : TrAt w A m c t) (hb : Below w.heap.size w w') : TrAt w' A m c t := TrAt.below hb _ t (Nat.le_refl _) h
end Go.Proofs.YtkpjhjoopdbkaaaGreatDoor
namespace Go.Proofs.YtkpjhjoopdbkaaaGreatDoor
mutual
def depthT : Tr → Nat
  | .mk _ _ l => depthL l + 1
def depthL : List Tr → Nat
  | [] => 0
  | t :: r => max (depthT t) (depthL r)
end
mutual
def sizeT : Tr → Nat
  | .mk _ _ l => sizeL l + 1
def sizeL : List Tr → Nat
  | [] => 0
  | t :: r => sizeT t + sizeL r
end
theorem depthT_eq (t : Tr) : depthT t = depthL t.kids + 1 := by
  obtain ⟨k, n, l⟩ := t
  rw [depthT]; rfl
theorem sizeT_eq (t : Tr) : sizeT t = sizeL t.kids + 1 := by
  obtain ⟨k, n, l⟩ := t
  rw [sizeT]; rfl
theorem depthL_app : ∀ (l r : List Tr), depthL (l ++ r) = max (depthL l) (depthL r)
  | [], r => by simp [depthL]
  | t :: l, r => by
    rw [List.cons_append, depthL, depthL, depthL_app l r]
    omega
theorem sizeL_app : ∀ (l r : List Tr), sizeL (l ++ r) = sizeL l + sizeL r
  | [], r => by simp [sizeL]
  | t :: l, r => by
    rw [List.cons_append, sizeL, sizeL, sizeL_app l r]
    omega
theorem take_snocT {l : List Tr} {k : Nat} (h : k < l.length) : l.take (k + 1) = l.take k ++ [l.getD k default] := by
  rw [List.take_add_one, List.getD, List.getElem?_eq_getElem h]; rfl
theorem depthL_snoc {l : List Tr} {k : Nat} (h : k < l.length) : depthL (l.take (k + 1)) = max (depthL (l.take k)) (depthT (l.getD k default)) := by
  rw [take_snocT h, depthL_app, depthL, depthL]
  omega
theorem sizeL_snoc {l : List Tr} {k : Nat} (h : k < l.length) : sizeL (l.take (k + 1)) = sizeL (l.take k) + sizeT (l.getD k default) := by
  rw [take_snocT h, sizeL_app, sizeL, sizeL]
  omega
theorem sizeL_take (l : List Tr) (k : Nat) : sizeL (l.take k) ≤ sizeL l := by
  have := sizeL_app (l.take k) (l.drop k)
  rw [List.take_append_drop] at this
  omega
theorem depthL_take (l : List Tr) (k : Nat) : depthL (l.take k) ≤ depthL l := by
  have := depthL_app (l.take k) (l.drop k)
  rw [List.take_append_drop] at this
  omega
theorem size_kid {t : Tr} {j : Nat} (h : j < t.kids.length) : sizeT (t.kids.getD j default) < sizeT t := by
  have h1 := sizeL_snoc h
  have h2 := sizeL_take t.kids (j + 1)
  rw [sizeT_eq t]
  omega
theorem depth_kid {t : Tr} {j : Nat} (h : j < t.kids.length) : depthT (t.kids.getD j default) < depthT t := by
  have h1 := depthL_snoc h
  have h2 := depthL_take t.kids (j + 1)
  rw [depthT_eq t]
  omega
mutual
theorem depth_size : ∀ t, depthT t ≤ sizeT t
  | .mk _ _ l => by
    rw [depthT, sizeT]
    have := depth_sizeL l
    omega
theorem depth_sizeL : ∀ l, depthL l ≤ sizeL l
  | [] => by rw [depthL, sizeL]; omega
  | t :: r => by
    rw [depthL, sizeL]
    have h1 := depth_size t
    have h2 := depth_sizeL r
    omega
end
end Go.Proofs.YtkpjhjoopdbkaaaGreatDoor
namespace Go.Proofs.YtkpjhjoopdbkaaaGreatDoor
open Go.RowKit
theorem retI {a b : Int} (h : a = b) : Value.int .i64 a = .int .i64 b := by rw [h]
/-- What is told of a tree by a number. -/
def NumP (w : World) (x : Int) (e : Ending) (w' : World) : Prop := e = .returned (.int .i64 x) ∧ Below w.heap.size w w'
theorem cell_new (w : World) (cs : Array Value) (t : TypeId) (j : Nat) (u : Value) (h : cs[j]? = some u) : (w.alloc (.cells cs t)).cell? ⟨w.heap.size, j, none⟩ = some u := by
  rw [cell_of_row _ w.heap.size j cs t (0, 0) (heap_alloc_new w _)]; exact h
set_option maxRecDepth 100000 in
set_option maxHeartbeats 2000000 in
theorem ex_Depth : ∀ (N : Nat) (t : Tr), t.sz ≤ N → ∀ (A : Option Addr) (m c : Nat) (w : World), Hid (TrAt w A m c t) → sizeT t ≤ 1000000 → Calls Tryz.prog 16 #[t.val A m c] w (NumP w (depthT t))
  | 0, t, hN, _, _, _, _, _, _ => by have := t.sz_pos; omega
  | N + 1, t, hN, A, m, c, w, h, hsz => by
    have IH := Lib.hid (fun t' h' A' m' c' w' H' s' => ex_Depth N t' h' A' m' c' w' H' s')
    have hd := Lib.hid (depth_size t)
    obtain ⟨hl, hc, hc9⟩ := h.out.len
    have HB1 := Lib.hid ((Below.refl w.heap.size w).alloc (Nat.le_refl _) (.cells #[.int .i64 t.kind, .int .i64 t.num, .slice A m c] 30))
    go_enter Tryz.func16, Tryz.ntmps16
    go_wp2
    go_loopw [3, 9] (fun v3 v9 wr => ∃ k : Nat, k ≤ m ∧ v9 = .int .i64 (k : Int) ∧ v3 = .int .i64 (depthL (t.kids.take k) : Int) ∧ Hid (Below w.heap.size w wr)) (fun _ v9 _ => m - (intOf v9).toNat)
    case atStart => exact ⟨0, by omega, rfl, rfl, HB1.out⟩
    case round =>
      obtain ⟨k, hk, rfl, rfl, hB⟩ := hrel
      by_cases hlt : k < m
      · obtain ⟨b, off, rfl, A', m', c', hK⟩ := (h.out.kept hB.out).kid hlt
        have hdl := depthL_snoc (l := t.kids) (k := k) (by omega)
        have hsk := size_kid (t := t) (j := k) (by omega)
        have hkd := Tr.kid_lt (t := t) (j := k) (by omega)
        have hdt := depthL_take t.kids k
        have hde := depthT_eq t
        have hds := hd.out
        obtain ⟨q, hq⟩ : ∃ q, q = t.kids.getD k default := ⟨_, rfl⟩
        rw [← hq] at hK hdl hsk hkd
        have c0 := hK.c0
        have c1 := hK.c1
        have c2 := hK.c2
        have hdq := depth_size q
        have hb2 := (Below.refl wr.heap.size wr).alloc (Nat.le_refl _) (.cells #[.int .i64 q.kind, .int .i64 q.num, .slice A' m' c'] 30)
        have cQ := Lib.hid (IH.out q (by omega) A' m' c' _ (Lib.hid (hK.tr.kept hb2)) (by omega))
        have HB2 := Lib.hid (hB.out.trans (hb2.mono hB.out.size))
        obtain ⟨x, hx⟩ : ∃ x, x = depthL (t.kids.take k) := ⟨_, rfl⟩
        obtain ⟨y, hy⟩ : ∃ y, y = depthT q := ⟨_, rfl⟩
        rw [← hx] at hdl hdt
        rw [← hx]
        rw [← hy] at hdl hdq cQ
        have HDL := Lib.hid hdl
        have hlt2 : (k : Int) < (m : Int) := by omega
        have hk0 : (0 : Int) ≤ (k : Int) := by omega
        clear hK hq hb2 hdl hx hy
        go_wp2_with (go_at_call 16; refine cQ.out.mono ?_; rintro e w5 ⟨rfl, hb5⟩; have HB5 := Lib.hid (below_then HB2.out hb5); clear hb5)
        all_goals
          go_roundw
          case rel => exact ⟨k + 1, by omega, by go_num, by rw [HDL.out]; exact retI (by omega), HB5⟩
          case measure => simp [intOf]; omega
      · have e1 : t.kids.take k = t.kids := List.take_of_length_le (by omega)
        rw [e1]
        have hde := depthT_eq t
        have hds := hd.out
        obtain ⟨x, hx⟩ : ∃ x, x = depthL t.kids := ⟨_, rfl⟩
        rw [← hx] at hde ⊢
        have HDE := Lib.hid hde
        clear hx e1
        go_wp2
        go_ret
        exact ⟨ret1 (by rw [HDE.out]; omega), hB.out⟩
set_option maxRecDepth 100000 in
set_option maxHeartbeats 2000000 in
theorem ex_Size : ∀ (N : Nat) (t : Tr), t.sz ≤ N → ∀ (A : Option Addr) (m c : Nat) (w : World), Hid (TrAt w A m c t) → sizeT t ≤ 1000000 → Calls Tryz.prog 36 #[t.val A m c] w (NumP w (sizeT t))
  | 0, t, hN, _, _, _, _, _, _ => by have := t.sz_pos; omega
  | N + 1, t, hN, A, m, c, w, h, hsz => by
    have IH := Lib.hid (fun t' h' A' m' c' w' H' s' => ex_Size N t' h' A' m' c' w' H' s')
    obtain ⟨hl, hc, hc9⟩ := h.out.len
    have HB1 := Lib.hid ((Below.refl w.heap.size w).alloc (Nat.le_refl _) (.cells #[.int .i64 t.kind, .int .i64 t.num, .slice A m c] 30))
    go_enter Tryz.func36, Tryz.ntmps36
    go_wp2
    go_loopw [3, 9] (fun v3 v9 wr => ∃ k : Nat, k ≤ m ∧ v9 = .int .i64 (k : Int) ∧ v3 = .int .i64 ((sizeL (t.kids.take k) : Int) + 1) ∧ Hid (Below w.heap.size w wr)) (fun _ v9 _ => m - (intOf v9).toNat)
    case atStart => exact ⟨0, by omega, rfl, rfl, HB1.out⟩
    case round =>
      obtain ⟨k, hk, rfl, rfl, hB⟩ := hrel
      by_cases hlt : k < m
      · obtain ⟨b, off, rfl, A', m', c', hK⟩ := (h.out.kept hB.out).kid hlt
        have hdl := sizeL_snoc (l := t.kids) (k := k) (by omega)
        have hsk := size_kid (t := t) (j := k) (by omega)
        have hkd := Tr.kid_lt (t := t) (j := k) (by omega)
        have hdt := sizeL_take t.kids k
        have hde := sizeT_eq t
        obtain ⟨q, hq⟩ : ∃ q, q = t.kids.getD k default := ⟨_, rfl⟩
        rw [← hq] at hK hdl hsk hkd
        have c0 := hK.c0
        have c1 := hK.c1
        have c2 := hK.c2
        have hb2 := (Below.refl wr.heap.size wr).alloc (Nat.le_refl _) (.cells #[.int .i64 q.kind, .int .i64 q.num, .slice A' m' c'] 30)
        have cQ := Lib.hid (IH.out q (by omega) A' m' c' _ (Lib.hid (hK.tr.kept hb2)) (by omega))
        have HB2 := Lib.hid (hB.out.trans (hb2.mono hB.out.size))
        obtain ⟨x, hx⟩ : ∃ x, x = sizeL (t.kids.take k) := ⟨_, rfl⟩
        obtain ⟨y, hy⟩ : ∃ y, y = sizeT q := ⟨_, rfl⟩
        rw [← hx] at hdl hdt
        rw [← hx]
        rw [← hy] at hdl hsk cQ
        have HDL := Lib.hid hdl
        have hlt2 : (k : Int) < (m : Int) := by omega
        have hk0 : (0 : Int) ≤ (k : Int) := by omega
        clear hK hq hb2 hdl hx hy
        go_wp2_with (go_at_call 36; refine cQ.out.mono ?_; rintro e w5 ⟨rfl, hb5⟩; have HB5 := Lib.hid (below_then HB2.out hb5); clear hb5)
        all_goals
          go_roundw
          case rel => exact ⟨k + 1, by omega, by go_num, by rw [HDL.out]; exact retI (by omega), HB5⟩
          case measure => simp [intOf]; omega
      · have e1 : t.kids.take k = t.kids := List.take_of_length_le (by omega)
        rw [e1]
        have hde := sizeT_eq t
        obtain ⟨x, hx⟩ : ∃ x, x = sizeL t.kids := ⟨_, rfl⟩
        rw [← hx] at hde ⊢
        have HDE := Lib.hid hde
        clear hx e1
        go_wp2
        go_ret
        exact ⟨ret1 (by rw [HDE.out]; omega), hB.out⟩
end Go.Proofs.YtkpjhjoopdbkaaaGreatDoor
namespace Go.Proofs.YtkpjhjoopdbkaaaGreatDoor
open Go.RowKit
structure Col where
  name : ByteArray
  kind : Int
  lo : Int
  hi : Int
  names : List ByteArray
  first : Int
  then_ : Int
instance : Inhabited Col := ⟨⟨ByteArray.empty, 0, 0, 0, [], 0, 0⟩⟩
def Col.ok (c : Col) : Prop := I64 c.kind ∧ I64 c.lo ∧ I64 c.hi ∧ I64 c.first ∧ I64 c.then_
/-- A colour's value, with its slice of names. -/
abbrev Col.val (c : Col) (A : Option Addr) (n d : Nat) : Value := .agg #[.string c.name, .int .i64 c.kind, .int .i64 c.lo, .int .i64 c.hi, .slice A n d, .int .i64 c.first, .int .i64 c.then_]
/-- A colour's cells. -/
structure ColAt (w : World) (b o : Nat) (A : Option Addr) (n d : Nat) (c : Col) : Prop where
  c0 : w.cell? ⟨b, o, none⟩ = some (.string c.name)
  c1 : w.cell? ⟨b, o + 1, none⟩ = some (.int .i64 c.kind)
  c2 : w.cell? ⟨b, o + 2, none⟩ = some (.int .i64 c.lo)
  c3 : w.cell? ⟨b, o + 3, none⟩ = some (.int .i64 c.hi)
  c4 : w.cell? ⟨b, o + 4, none⟩ = some (.slice A n d)
  c5 : w.cell? ⟨b, o + 5, none⟩ = some (.int .i64 c.first)
  c6 : w.cell? ⟨b, o + 6, none⟩ = some (.int .i64 c.then_)
  names : Sl w (.slice A n d) n 1 (strCells c.names)
  ok : c.ok
theorem ColAt.below {w w' : World} {b o n d : Nat} {A : Option Addr} {c : Col} (h : ColAt w b o A n d c) (hb : Below w.heap.size w w') : ColAt w' b o A n d c :=
  ⟨cell_kept hb h.c0, cell_kept hb h.c1, cell_kept hb h.c2, cell_kept hb h.c3, cell_kept hb h.c4, cell_kept hb h.c5, cell_kept hb h.c6, h.names.below hb, h.ok⟩
theorem ColAt.len {w : World} {b o n d : Nat} {A : Option Addr} {c : Col} (h : ColAt w b o A n d c) : c.names.length = n ∧ n ≤ 9223372036854775807 := by
  have h1 := h.names.len
  rw [strCells_len] at h1
  obtain ⟨_, _, e, h2, h3, _⟩ := h.names
  exact ⟨by omega, by omega⟩
/-- Colours in a row. -/
def Cols (w : World) (A : Option Addr) (n c : Nat) (L : List Col) : Prop :=
  n ≤ c ∧ c ≤ 9223372036854775807 ∧ L.length = n ∧ (0 < n → ∃ b off, A = some ⟨b, off, none⟩ ∧ ∀ k, k < n → ∃ B m d, ColAt w b (off + k * 7) B m d (L.getD k default))
theorem Cols.below {w w' : World} {A : Option Addr} {n c : Nat} {L : List Col} (h : Cols w A n c L) (hb : Below w.heap.size w w') : Cols w' A n c L := by
  refine ⟨h.1, h.2.1, h.2.2.1, fun hn => ?_⟩
  obtain ⟨b, off, e, hc⟩ := h.2.2.2 hn
  refine ⟨b, off, e, fun k hk => ?_⟩
  obtain ⟨B, m, d, h1⟩ := hc k hk
  exact ⟨B, m, d, h1.below hb⟩
theorem Cols.at_ {w : World} {A : Option Addr} {n c : Nat} {L : List Col} (h : Cols w A n c L) {k : Nat} (hk : k < n) : ∃ b off, A = some ⟨b, off, none⟩ ∧ ∃ B m d, ColAt w b (off + k * 7) B m d (L.getD k default) := by
  obtain ⟨b, off, e, hc⟩ := h.2.2.2 (by omega)
  exact ⟨b, off, e, hc k hk⟩
/-- A colour's size, where those ahead are known. -/
def sizeF (c : Col) (out : List Int) : Int :=
  if c.kind = 1 then spanF c.lo c.hi
  else if c.kind = 2 then (if namesF c.names then (c.names.length : Int) else 0)
  else if c.kind = 3 then (if 0 ≤ min c.first c.then_ ∧ max c.first c.then_ < out.length then out.getD c.first.toNat 0 * out.getD c.then_.toNat 0 else 0)
  else 0
def Few1024 (out : List Int) : Prop := ∀ x ∈ out, 1 ≤ x ∧ x ≤ 1024
theorem Few1024.at_ {out : List Int} (h : Few1024 out) {k : Nat} (hk : k < out.length) : 1 ≤ out.getD k 0 ∧ out.getD k 0 ≤ 1024 := by
  refine h _ ?_
  rw [List.getD, List.getElem?_eq_getElem hk]
  exact List.getElem_mem hk
theorem mul_1024 {a b : Int} (ha : 1 ≤ a ∧ a ≤ 1024) (hb : 1 ≤ b ∧ b ≤ 1024) : 1 ≤ a * b ∧ a * b ≤ 1048576 := by
  have h1 : 1 * b ≤ a * b := Int.mul_le_mul_of_nonneg_right ha.1 (by omega)
  have h2 : a * b ≤ 1024 * b := Int.mul_le_mul_of_nonneg_right ha.2 (by omega)
  omega
theorem Sl.int_at' {w : World} {A : Option Addr} {n c : Nat} {l : List Int} (h : Sl w (.slice A n c) n 1 (intCells l)) {k : Nat} (hk : k < n) : ∃ b off, A = some ⟨b, off, none⟩ ∧ w.cell? ⟨b, off + k, none⟩ = some (.int .i64 (l.getD k 0)) := by
  have hl := h.len
  rw [intCells_len] at hl
  obtain ⟨b, off, e, hc⟩ := h.at_ (by omega)
  exact ⟨b, off, e, hc k _ (intCells_at (by omega))⟩
end Go.Proofs.YtkpjhjoopdbkaaaGreatDoor
namespace Go.Proofs.YtkpjhjoopdbkaaaGreatDoor
open Go.RowKit
def sizesG : List (List UInt8) → List Int → List Col → Option (List Int)
  | _, out, [] => some out
  | had, out, c :: r => if nameOk c.name.data.toList && !had.contains c.name.data.toList && decide (1 ≤ sizeF c out) && decide (sizeF c out ≤ 1024) then sizesG (c.name.data.toList :: had) (out ++ [sizeF c out]) r else none
def sizesF (L : List Col) : Option (List Int) := if 32 < L.length then none else sizesG [] [] L
theorem sizesG_no {had : List (List UInt8)} {out : List Int} {c : Col} {r : List Col} (h : nameOk c.name.data.toList = false ∨ had.contains c.name.data.toList = true ∨ sizeF c out < 1 ∨ 1024 < sizeF c out) : sizesG had out (c :: r) = none := by
  rw [sizesG]
  rcases h with h | h | h | h
  · rw [h]; rfl
  · rw [h]; simp
  · have : decide (1 ≤ sizeF c out) = false := by simp; omega
    rw [this]; simp
  · have : decide (sizeF c out ≤ 1024) = false := by simp; omega
    rw [this]; simp
theorem sizesG_ok {had : List (List UInt8)} {out : List Int} {c : Col} {r : List Col} (h : nameOk c.name.data.toList = true) (h2 : had.contains c.name.data.toList = false) (h3 : 1 ≤ sizeF c out) (h4 : sizeF c out ≤ 1024) :
    sizesG had out (c :: r) = sizesG (c.name.data.toList :: had) (out ++ [sizeF c out]) r := by
  rw [sizesG, h, h2, decide_eq_true h3, decide_eq_true h4]; rfl
/-- What sizes tells. -/
def SizesP (w : World) (L : List Col) (e : Ending) (w' : World) : Prop :=
  Below w.heap.size w w' ∧ ((sizesF L = none ∧ e = .returned (.tuple #[.slice none 0 0, .bool false])) ∨
    ∃ ss A c, sizesF L = some ss ∧ ss.length = L.length ∧ Few1024 ss ∧ e = .returned (.tuple #[.slice A L.length c, .bool true]) ∧ w'.ownsRow w.heap.size 3 1 (.slice A L.length c) L.length (intCells ss))
theorem drop_col {L : List Col} {k : Nat} (h : k < L.length) : L.drop k = L.getD k default :: L.drop (k + 1) := by
  rw [List.drop_eq_getElem_cons h, List.getD, List.getElem?_eq_getElem h]; rfl
theorem ints_ty1 : SlTy Tryz.prog 56 3 1 8 := SlTy.mk (z := .int .i64 0) (by kernel_rfl) (by kernel_rfl) rfl (by decide)
theorem intCells_snoc (l : List Int) (x : Int) : intCells (l ++ [x]) = intCells l ++ [.int .i64 x] := by simp [intCells]
theorem one_int (x : Int) : ∀ u ∈ [Value.int .i64 x], u.oneCell' = true := by
  intro u hu
  simp only [List.mem_cons, List.not_mem_nil, or_false] at hu
  rw [hu]; rfl
theorem Few1024.snoc {out : List Int} {x : Int} (h : Few1024 out) (h1 : 1 ≤ x) (h2 : x ≤ 1024) : Few1024 (out ++ [x]) := by
  intro y hy
  rcases List.mem_append.1 hy with hy | hy
  · exact h y hy
  · rw [List.mem_singleton] at hy
    rw [hy]; exact ⟨h1, h2⟩
theorem own_base {w : World} {base base' : Nat} {e : TypeId} {size n : Nat} {v : Value} {xs : List Value} (h : w.ownsRow base e size v n xs) (hb : base' ≤ base) : w.ownsRow base' e size v n xs := by
  refine ⟨h.1, ?_⟩
  rcases h.2 with h1 | ⟨b, cap, cur, rfl, hb2, rest⟩
  · exact .inl h1
  · exact .inr ⟨b, cap, cur, rfl, by omega, rest⟩
theorem ownS_same {w w' : World} {b n : Nat} {D : DataW Unit} (h : OwnS w b n D) (hk : w'.heap[b]? = w.heap[b]?) : OwnS w' b n D := by
  obtain ⟨es, c, h1, r⟩ := h
  exact ⟨es, c, hk.trans h1, r⟩
/-- The relation of the loop of sizes. -/
structure SizesL (w wr : World) (k : Nat) (v : Value) (out : List Int) : Prop where
  own : wr.ownsRow (w.heap.size + 1) 3 1 v k (intCells out)
  few : Few1024 out
  bel : Below w.heap.size w wr
  mlt : w.heap.size < wr.heap.size
end Go.Proofs.YtkpjhjoopdbkaaaGreatDoor
namespace Go.Proofs.YtkpjhjoopdbkaaaGreatDoor
open Go.RowKit
theorem sizesG_at : ∀ (L : List Col) (had : List (List UInt8)) (out ss : List Int), sizesG had out L = some ss → ss.length = out.length + L.length ∧ ss.take out.length = out ∧ ∀ j, j < L.length → ss.getD (out.length + j) 0 = sizeF (L.getD j default) (ss.take (out.length + j)) ∧ 1 ≤ ss.getD (out.length + j) 0
  | [], had, out, ss, h => by
    rw [sizesG] at h
    injection h with h
    subst h
    exact ⟨by simp, by simp, fun j hj => by simp at hj⟩
  | c :: r, had, out, ss, h => by
    rw [sizesG] at h
    split at h
    · rename_i hg
      simp only [Bool.and_eq_true, decide_eq_true_eq] at hg
      obtain ⟨h1, h2, h3⟩ := sizesG_at r _ _ ss h
      rw [List.length_append, List.length_singleton] at h1 h2 h3
      have h4 : ss.take out.length = out := by
        have := congrArg (List.take out.length) h2
        rw [List.take_take, Nat.min_eq_left (by omega), List.take_left'] at this
        · exact this
        · rfl
      have h5 : ss.getD out.length 0 = sizeF c out := by
        have h6 : (ss.take (out.length + 1)).getD out.length 0 = sizeF c out := by rw [h2]; simp
        have h7 : out.length < ss.length := by rw [h1]; omega
        rw [List.getD, List.getElem?_take, if_pos (by omega)] at h6
        exact h6
      refine ⟨by rw [h1]; simp; omega, h4, fun j hj => ?_⟩
      cases j with
      | zero =>
        rw [Nat.add_zero, h4, h5]
        exact ⟨rfl, hg.1.2⟩
      | succ j =>
        have := h3 j (by simpa using hj)
        rw [show out.length + (j + 1) = out.length + 1 + j by omega]
        simpa using this
    · cases h
theorem sizesF_at {L : List Col} {ss : List Int} (h : sizesF L = some ss) : ss.length = L.length ∧ ∀ j, j < L.length → ss.getD j 0 = sizeF (L.getD j default) (ss.take j) ∧ 1 ≤ ss.getD j 0 := by
  unfold sizesF at h
  split at h
  · cases h
  · obtain ⟨h1, _, h3⟩ := sizesG_at L [] [] ss h
    refine ⟨by simpa using h1, fun j hj => ?_⟩
    have := h3 j hj
    simpa using this
/-- A pair's parts stand ahead of it, and its size is the product of theirs. -/
theorem pair_at_ {L : List Col} {ss : List Int} (h : sizesF L = some ss) {k : Nat} (hk : k < L.length) (h3 : (L.getD k default).kind = 3) :
    ∃ p q : Nat, (L.getD k default).first = p ∧ (L.getD k default).then_ = q ∧ p < k ∧ q < k ∧ ss.getD k 0 = ss.getD p 0 * ss.getD q 0 := by
  obtain ⟨hl, hj⟩ := sizesF_at h
  obtain ⟨h4, h5⟩ := hj k hk
  have hlk : (ss.take k).length = k := by rw [List.length_take]; omega
  unfold sizeF at h4
  rw [h3, if_neg (by decide), if_neg (by decide), if_pos rfl, hlk] at h4
  split at h4
  · rename_i hg
    refine ⟨(L.getD k default).first.toNat, (L.getD k default).then_.toNat, by omega, by omega, by omega, by omega, ?_⟩
    rw [h4]
    have e : ∀ p : Nat, p < k → (ss.take k).getD p 0 = ss.getD p 0 := fun p hp => by rw [List.getD, List.getElem?_take, if_pos hp]; rfl
    rw [e _ (by omega), e _ (by omega)]
  · omega
/-- A set. -/
abbrev setV (A : Option Addr) (n c : Nat) (B : Option Addr) (d : Nat) (k : Int) : Value := .agg #[.slice A n c, .slice B n d, .int .i64 k]
structure SetOk (w : World) (A : Option Addr) (n c : Nat) (L : List Col) (B : Option Addr) (d : Nat) (ss : List Int) : Prop where
  cols : Cols w A n c L
  sl : Sl w (.slice B n d) n 1 (intCells ss)
  few : Few1024 ss
  sz : sizesF L = some ss
theorem SetOk.below {w w' : World} {A : Option Addr} {n c : Nat} {L : List Col} {B : Option Addr} {d : Nat} {ss : List Int} (h : SetOk w A n c L B d ss) (hb : Below w.heap.size w w') : SetOk w' A n c L B d ss := ⟨h.cols.below hb, h.sl.below hb, h.few, h.sz⟩
theorem SetOk.len {w : World} {A : Option Addr} {n c : Nat} {L : List Col} {B : Option Addr} {d : Nat} {ss : List Int} (h : SetOk w A n c L B d ss) : ss.length = n := by have := h.sl.len; rw [intCells_len] at this; omega
theorem ret2c {a b : Value} {c d : Bool} (h : a = b) (g : c = d) : Ending.returned (.tuple #[a, .bool c]) = .returned (.tuple #[b, .bool d]) := by rw [h, g]
/-- What of tells. -/
def OfP (w : World) (A : Option Addr) (n c : Nat) (L : List Col) (k : Int) (e : Ending) (w' : World) : Prop :=
  Below w.heap.size w w' ∧ (((sizesF L = none ∨ k < 0 ∨ (n : Int) ≤ k) ∧ e = .returned (.tuple #[setV none 0 0 none 0 0, .bool false])) ∨
    ∃ ss B d, SetOk w' A n c L B d ss ∧ 0 ≤ k ∧ k < (n : Int) ∧ e = .returned (.tuple #[setV A n c B d k, .bool true]))
theorem field_kind (nm : ByteArray) (kd lo hi : Int) (N : Option Addr) (m e : Nat) (fi th : Int) (w : World) : (Instr.field 82 (.agg #[.string nm, .int .i64 kd, .int .i64 lo, .int .i64 hi, .slice N m e, .int .i64 fi, .int .i64 th]) 1).run Tryz.prog w = .ok (.int .i64 kd) w := by kernel_rfl
theorem field_lo (nm : ByteArray) (kd lo hi : Int) (N : Option Addr) (m e : Nat) (fi th : Int) (w : World) : (Instr.field 82 (.agg #[.string nm, .int .i64 kd, .int .i64 lo, .int .i64 hi, .slice N m e, .int .i64 fi, .int .i64 th]) 2).run Tryz.prog w = .ok (.int .i64 lo) w := by kernel_rfl
theorem field_then (nm : ByteArray) (kd lo hi : Int) (N : Option Addr) (m e : Nat) (fi th : Int) (w : World) : (Instr.field 82 (.agg #[.string nm, .int .i64 kd, .int .i64 lo, .int .i64 hi, .slice N m e, .int .i64 fi, .int .i64 th]) 6).run Tryz.prog w = .ok (.int .i64 th) w := by kernel_rfl
section
variable {A : Option Addr} {n c : Nat} {L : List Col} {B : Option Addr} {d : Nat} {ss : List Int}
end
end Go.Proofs.YtkpjhjoopdbkaaaGreatDoor
namespace Go.Proofs.YtkpjhjoopdbkaaaGreatDoor
open Go.RowKit
def sizeAt (L : List Col) (k : Int) : Int := match sizesF L with
  | none => 0
  | some ss => if 0 ≤ k ∧ k < (L.length : Int) then ss.getD k.toNat 0 else 0
theorem sizeAt_bad {L : List Col} {k : Int} {n : Nat} (hl : L.length = n) (h : sizesF L = none ∨ k < 0 ∨ (n : Int) ≤ k) : sizeAt L k = 0 := by
  unfold sizeAt
  rcases hs : sizesF L with _ | ss
  · rfl
  · rcases h with h | h
    · rw [hs] at h; cases h
    · simp only
      rw [if_neg (by omega)]
theorem sizeAt_ok {L : List Col} {p : Nat} {ss : List Int} (h : sizesF L = some ss) (hp : p < L.length) : sizeAt L (p : Int) = ss.getD p 0 := by
  unfold sizeAt
  rw [h]
  simp only
  rw [if_pos (by omega), Int.toNat_natCast]
def partsP (L : List Col) (k m : Int) : Option (Int × Int) := match sizesF L with
  | none => none
  | some ss => if 0 ≤ k ∧ k < (L.length : Int) ∧ 0 ≤ m ∧ m < ss.getD k.toNat 0 ∧ (L.getD k.toNat default).kind = 3 then some (m / ss.getD (L.getD k.toNat default).then_.toNat 0, m % ss.getD (L.getD k.toNat default).then_.toNat 0) else none
def partsV (L : List Col) (k m : Int) : Value := match partsP L k m with
  | none => .tuple #[.int .i64 0, .int .i64 0, .bool false]
  | some (a, b) => .tuple #[.int .i64 a, .int .i64 b, .bool true]
theorem partsP_bad {L : List Col} {k m : Int} {n : Nat} (hl : L.length = n) (h : sizesF L = none ∨ k < 0 ∨ (n : Int) ≤ k) : partsP L k m = none := by
  unfold partsP
  rcases hs : sizesF L with _ | ss
  · rfl
  · rcases h with h | h
    · rw [hs] at h; cases h
    · simp only
      rw [if_neg (by omega)]
theorem partsP_no {L : List Col} {p : Nat} {m : Int} {ss : List Int} (h : sizesF L = some ss) (hm : ¬ (0 ≤ m ∧ m < ss.getD p 0) ∨ (L.getD p default).kind ≠ 3) : partsP L (p : Int) m = none := by
  unfold partsP
  rw [h]
  simp only [Int.toNat_natCast]
  rw [if_neg]
  rintro ⟨_, _, h1, h2, h3⟩
  rcases hm with hm | hm
  · exact hm ⟨h1, h2⟩
  · exact hm h3
theorem partsP_ok {L : List Col} {p q : Nat} {m : Int} {ss : List Int} (h : sizesF L = some ss) (hp : p < L.length) (h0 : 0 ≤ m) (h1 : m < ss.getD p 0) (h3 : (L.getD p default).kind = 3) (hq : (L.getD p default).then_ = (q : Int)) : partsP L (p : Int) m = some (m / ss.getD q 0, m % ss.getD q 0) := by
  unfold partsP
  rw [h]
  simp only [Int.toNat_natCast]
  rw [if_pos ⟨by omega, by omega, h0, h1, h3⟩, hq, Int.toNat_natCast]
end Go.Proofs.YtkpjhjoopdbkaaaGreatDoor
