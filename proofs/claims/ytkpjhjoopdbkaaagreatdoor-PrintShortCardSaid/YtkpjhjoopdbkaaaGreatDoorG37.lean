/- Joined: What package print writes; no program in sight. Package print: each; Itoa and Join in the document's words. Printed by gen_prA.py. -/
import Derived.Test.YtkpjhjoopdbkaaaGreatDoorG04
import Derived.Test.YtkpjhjoopdbkaaaGreatDoorG25
import Derived.Test.YtkpjhjoopdbkaaaGreatDoorG06
import Derived.Test.YtkpjhjoopdbkaaaGreatDoorG28
import Derived.Test.YtkpjhjoopdbkaaaGreatDoorG09
import Derived.Test.YtkpjhjoopdbkaaaGreatDoorG27
import Derived.Test.YtkpjhjoopdbkaaaGreatDoorG16
import Derived.Laws.EntriesVeiled
import Derived.Shelf.Abstract
namespace Go.Proofs.YtkpjhjoopdbkaaaGreatDoor
def atB {α : Type} [Inhabited α] (l : List α) (nm : α → ByteArray) (k : Int) : ByteArray := if 0 ≤ k ∧ k < (l.length : Int) then nm (l.getD k.toNat default) else ⟨#[63]⟩
def colB (L : List Col) (k : Int) : ByteArray := atB L (·.name) k
def plB (L : List Pl) (k : Int) : ByteArray := atB L (·.name) k
def itoaB (k : Int) : ByteArray := ⟨(Lib.itoa k).toArray⟩
def joinB (l : List ByteArray) : ByteArray := ⟨(Lib.join (l.map (·.data.toList)) [44, 32]).toArray⟩
def membersB (L : List Col) (c : Col) : ByteArray :=
  if c.kind = 1 then (((⟨#[105, 110, 116, 32]⟩ : ByteArray) ++ itoaB c.lo) ++ ⟨#[32, 46, 46, 32]⟩) ++ itoaB c.hi
  else if c.kind = 2 then (⟨#[101, 110, 117, 109, 32]⟩ : ByteArray) ++ joinB c.names
  else if c.kind = 3 then (((⟨#[112, 97, 105, 114, 32]⟩ : ByteArray) ++ colB L c.first) ++ ⟨#[44, 32]⟩) ++ colB L c.then_
  else ⟨#[63]⟩
def pairB (q : Int × Int) : ByteArray := (itoaB q.1 ++ ⟨#[42]⟩) ++ itoaB q.2
def firstB (p : Pl) : ByteArray := if p.first = [] then ⟨#[]⟩ else (⟨#[32, 61, 32]⟩ : ByteArray) ++ joinB (p.first.map pairB)
def colLine (L : List Col) (c : Col) : ByteArray := ((((⟨#[99, 111, 108, 111, 117, 114, 32]⟩ : ByteArray) ++ c.name) ++ ⟨#[32, 61, 32]⟩) ++ membersB L c) ++ ⟨#[59, 10]⟩
def plLine (L : List Col) (p : Pl) : ByteArray := (((((⟨#[112, 108, 97, 99, 101, 32]⟩ : ByteArray) ++ p.name) ++ ⟨#[58, 32]⟩) ++ colB L p.colour) ++ firstB p) ++ ⟨#[59, 10]⟩
def kindB (word : ByteArray) (k : Int) : List ByteArray := if k = 1 then [] else if k = 2 then [word ++ ⟨#[32, 120, 111, 114]⟩] else if k = 3 then [word ++ ⟨#[32, 111, 114]⟩] else [word ++ ⟨#[32, 63]⟩]
def exprB (names : List ByteArray) (t : Tr) : ByteArray := ⟨(textT names t).toArray⟩
def varB (L : List Col) (v : Vr) : ByteArray := (((⟨#[118, 97, 114, 32]⟩ : ByteArray) ++ v.name) ++ ⟨#[58, 32]⟩) ++ colB L v.colour
def arcB (P : List Pl) (names : List ByteArray) (word : ByteArray) (a : Ar) : ByteArray := (((word ++ plB P a.place) ++ ⟨#[40]⟩) ++ exprB names a.expr) ++ ⟨#[41]⟩
def cancelB (P : List Pl) (k : Int) : ByteArray := (⟨#[99, 97, 110, 99, 101, 108, 32]⟩ : ByteArray) ++ plB P k
def Tk.names (t : Tk) : List ByteArray := t.vars.map (·.name)
def whenB (t : Tk) : List ByteArray := if sameT t.guard (.mk 1 1 []) = true then [] else [(⟨#[119, 104, 101, 110, 32]⟩ : ByteArray) ++ exprB t.names t.guard]
def afterB (t : Tk) : List ByteArray := if t.after = 0 then [] else [(⟨#[97, 102, 116, 101, 114, 32]⟩ : ByteArray) ++ itoaB t.after]
def manyB (t : Tk) : List ByteArray := if t.m0 = 0 ∧ t.m1 = 0 ∧ t.m2 = 0 then [] else [(⟨#[109, 97, 110, 121, 32]⟩ : ByteArray) ++ joinB [itoaB t.m0, itoaB t.m1, itoaB t.m2]]
def clausesB (L : List Col) (P : List Pl) (t : Tk) : List ByteArray :=
  t.vars.map (varB L) ++ whenB t ++ kindB ⟨#[106, 111, 105, 110]⟩ t.join ++ kindB ⟨#[115, 112, 108, 105, 116]⟩ t.split ++ t.ins.map (arcB P t.names ⟨#[105, 110, 32]⟩) ++ t.outs.map (arcB P t.names ⟨#[111, 117, 116, 32]⟩) ++ t.cancel.map (cancelB P) ++ afterB t ++ manyB t
def clauseB (c : ByteArray) : ByteArray := ((⟨#[10, 9]⟩ : ByteArray) ++ c) ++ ⟨#[59]⟩
def taskB (L : List Col) (P : List Pl) (t : Tk) : ByteArray := ((clausesB L P t).foldl (fun s c => s ++ clauseB c) ((⟨#[116, 97, 115, 107, 32]⟩ : ByteArray) ++ t.name ++ ⟨#[32, 123]⟩)) ++ ⟨#[10, 125]⟩
def tkLine (L : List Col) (P : List Pl) (t : Tk) : ByteArray := taskB L P t ++ ⟨#[10]⟩
def endLine (N : Nt) : ByteArray := (((((⟨#[102, 114, 111, 109, 32]⟩ : ByteArray) ++ plB N.pls N.from_) ++ ⟨#[59, 10, 116, 111, 32]⟩)) ++ plB N.pls N.to_) ++ ⟨#[59, 10]⟩
/-- A net's text. -/
def textN' (N : Nt) : List UInt8 :=
  (N.cols.map fun c => (colLine N.cols c).data.toList).flatten ++ (N.pls.map fun p => (plLine N.cols p).data.toList).flatten ++ (N.tks.map fun t => (tkLine N.cols N.pls t).data.toList).flatten ++ (endLine N).data.toList
def netB (N : Nt) : ByteArray := ⟨(textN' N).toArray⟩
end Go.Proofs.YtkpjhjoopdbkaaaGreatDoor
namespace Go.Proofs.YtkpjhjoopdbkaaaGreatDoor
open Go.RowKit
theorem pr_itoa (n : Int) (hn : I64 n) (w : World) (ht : Hid (TabT w)) : Calls Tryz.prog 84 #[.int .i64 n] w fun e w' => e = .returned (.string (itoaB n)) ∧ Below w.heap.size w w' :=
  (Tryz.strconv_Itoa n hn.1 hn.2 w ht.out).mono fun _ _ ⟨h1, k, os, h2⟩ => ⟨h1, by rw [h2]; exact Lib.below_grow _ _ (Nat.le_refl _) k os⟩
theorem pr_join (A : Option Addr) (n c : Nat) (l : List ByteArray) (w : World) (hS : Hid (Sl w (.slice A n c) n 1 (strCells l))) (hn : n ≤ 1000000) (hl : (joinB l).size ≤ 140737488355328) :
    Calls Tryz.prog 32 #[.slice A n c, .string ⟨#[44, 32]⟩] w fun e w' => e = .returned (.string (joinB l)) ∧ Below w.heap.size w w' := by
  have hl1 := hS.out.len
  rw [strCells_len, Nat.mul_one] at hl1
  obtain ⟨_, _, e, hnc, _, hr⟩ := hS.out
  injection e with e1 e2 e3
  subst e1; subst e3
  rcases n with _ | n
  · have h0 : l = [] := List.length_eq_zero_iff.1 hl1
    subst h0
    exact (Tryz.strings_Join_none A c ⟨#[44, 32]⟩ w).mono fun _ _ ⟨h1, h2⟩ => ⟨h1, by rw [h2]; exact Below.refl _ _⟩
  · obtain ⟨b, off, rfl, hc⟩ := hS.out.at_ (by omega)
    have hb : b < w.heap.size := World.block_lt_of_cell? w _ (hc 0 (.string (l.getD 0 ByteArray.empty)) (by
      unfold strCells
      rw [List.getElem?_map, List.getD, List.getElem?_eq_getElem (by omega)]; rfl))
    have q := Tryz.strings_Join b off c l ⟨#[44, 32]⟩ w (fun j x hx => hc j _ (by unfold strCells; rw [List.getElem?_map, hx]; rfl)) hb (by omega) (by omega) (by have h := hl; rw [show (joinB l).size = (joinB l).data.size from rfl] at h; simpa [joinB] using h)
    rw [hl1] at q
    exact q
set_option maxRecDepth 100000 in
set_option maxHeartbeats 4000000 in
theorem pr_each_var (tx : Vr → ByteArray) (F : FuncId) (C : Array Value) (A : Option Addr) (n c : Nat) (l : List Vr) (w : World) (hS : Hid (SlOf 2 VrAt w A n c l)) (hn : n ≤ 1000000) (hent : Enters Tryz.prog F)
    (hC : Hid (∀ k, k < n → ∀ W, Below w.heap.size w W → Calls Tryz.prog F (#[(l.getD k default).val] ++ C) W fun e w' => e = .returned (.string (tx (l.getD k default))) ∧ Below W.heap.size W w')) :
    Calls Tryz.prog 142 #[.slice A n c, .func (.func F) #[] C] w fun e w' => ∃ v, e = .returned v ∧ w'.ownsRow w.heap.size 9 1 v n (strCells (l.map tx)) ∧ Below w.heap.size w w' := by
  have HL := Lib.hid (show l.length = n by exact hS.out.len.1)
  have eF : ∀ args w, (callFunc F args).run Tryz.prog w = .ok (.enter F args) w := hent
  obtain ⟨B, hB⟩ : ∃ B, B = w.heap.size := ⟨_, rfl⟩
  have HBB := Lib.hid hB
  clear hB hent
  go_enter Tryz.func142, Tryz.ntmps142
  go_wp2_with fail
  go_loopg [5, 10] (n + 1) (fun f v5 v10 wr => ∃ k : Nat, k ≤ n ∧ v10 = .int .i64 k ∧ n < k + f ∧ Hid (wr.ownsRow B 9 1 v5 k (strCells ((l.take k).map tx))) ∧ Hid (Below w.heap.size w wr))
  case atStart => exact ⟨0, by omega, rfl, by omega, Lib.hid (World.ownsRow_nil _ _ _ _), Lib.hid (Below.refl _ _)⟩
  case round =>
    obtain ⟨k, hk, rfl, hf, HO, HB⟩ := hrel
    obtain ⟨f, rfl⟩ : ∃ f, gk = f + 1 := ⟨gk - 1, by omega⟩
    by_cases hlt : k < n
    · have HBS := Lib.hid (show B ≤ wr.heap.size by rw [HBB.out]; exact HB.out.size)
      obtain ⟨b1, o1, rfl, P⟩ := (hS.out.below VrAt.stays HB.out).at_ hlt
      have cx := hC.out k hlt (wr.alloc (.cells #[.string (l.getD k default).name, .int .i64 (l.getD k default).colour] 132)) (below_then HB.out (alrB _ _))
      obtain ⟨x, hx⟩ : ∃ x, x = l.getD k default := ⟨_, rfl⟩
      rw [← hx] at P cx
      have CX := Lib.hid cx
      have c0 := P.c0
      have c1 := P.c1
      clear P cx
      have HX := Lib.hid hx
      have hlt2 : (k : Int) < (n : Int) := by omega
      have hk0 : (0 : Int) ≤ (k : Int) := by omega
      clear hx
      go_wp2_with (first
        | (go_at_fn F; refine CX.out.mono ?_; rintro e w3 ⟨rfl, hb⟩; have HB3 := Lib.hid hb; clear hb)
        | (at_builtin; go_loud (refine wpList_append_sl strs_ty rfl (.tmp 14) (.tmp 18) rfl B rfl (by first | exact (own_below HO.out (below_then (alrB wr (.cells #[.string x.name, .int .i64 x.colour] 132)) (HB3.out))).alloc _ | exact own_below HO.out (below_then (below_then (alrB wr (.cells #[.string x.name, .int .i64 x.colour] 132)) (HB3.out)) (alrB _ _))) rfl (by exact Sl.new _ _ [.string (tx x)] 1 1 rfl (by omega)) (by intro u hu; rw [List.mem_singleton.1 hu]; rfl) (by omega) (by omega) (by have h1 := (below_then (alrB wr (.cells #[.string x.name, .int .i64 x.colour] 132)) (HB3.out)).size; have := HBS.out; simp; omega) ?_); intro v4 w4 hown4 hg4 hat4))
      have hb4 : Below w.heap.size w w4 := by
        have h1 := below_then (below_then HB.out (below_then (alrB wr (.cells #[.string x.name, .int .i64 x.colour] 132)) (HB3.out))) (alrB w3 (.cells #[.string (tx x)] 9))
        rw [← HBB.out] at h1 ⊢
        exact h1.grown hg4 (by have h1 := (below_then (alrB wr (.cells #[.string x.name, .int .i64 x.colour] 132)) (HB3.out)).size; have := HBS.out; simp; omega) (fun q hq => (HO.out.lt q hq).1)
      have HB4 := Lib.hid hb4
      have hown5 : w4.ownsRow B 9 1 v4 (k + 1) (strCells ((l.take (k + 1)).map tx)) := by
        rw [List.take_add_one, List.getElem?_eq_getElem (show k < l.length by have := HL.out; omega), Option.toList_some, List.map_append]
        unfold strCells
        rw [List.map_append]
        have ex : l[k]'(by have := HL.out; omega) = x := by rw [HX.out, List.getD, List.getElem?_eq_getElem (show k < l.length by have := HL.out; omega)]; rfl
        rw [ex]
        exact hown4
      have HO5 := Lib.hid hown5
      clear hown4 hown5 hg4 hat4 hb4
      go_wp2
      go_roundg f
      case measure => omega
      case rel => exact ⟨k + 1, by omega, by go_num, by omega, HO5, HB4⟩
    · have hkn : k = n := by omega
      subst hkn
      go_wp2
      go_ret
      have e0 : l.take k = l := by rw [← HL.out, List.take_length]
      have h1 := HO.out
      rw [e0, HBB.out] at h1
      exact ⟨_, rfl, h1, HB.out⟩
set_option maxRecDepth 100000 in
set_option maxHeartbeats 4000000 in
theorem pr_each_arc (tx : Ar → ByteArray) (F : FuncId) (C : Array Value) (A : Option Addr) (n c : Nat) (l : List Ar) (w : World) (hS : Hid (SlOf 4 ArAt w A n c l)) (hn : n ≤ 1000000) (hent : Enters Tryz.prog F)
    (hC : Hid (∀ k, k < n → ∀ W Ae me ce, Below w.heap.size w W → TrAt W Ae me ce (l.getD k default).expr → Calls Tryz.prog F (#[(l.getD k default).val Ae me ce] ++ C) W fun e w' => e = .returned (.string (tx (l.getD k default))) ∧ Below W.heap.size W w')) :
    Calls Tryz.prog 148 #[.slice A n c, .func (.func F) #[] C] w fun e w' => ∃ v, e = .returned v ∧ w'.ownsRow w.heap.size 9 1 v n (strCells (l.map tx)) ∧ Below w.heap.size w w' := by
  have HL := Lib.hid (show l.length = n by exact hS.out.len.1)
  have eF : ∀ args w, (callFunc F args).run Tryz.prog w = .ok (.enter F args) w := hent
  obtain ⟨B, hB⟩ : ∃ B, B = w.heap.size := ⟨_, rfl⟩
  have HBB := Lib.hid hB
  clear hB hent
  go_enter Tryz.func148, Tryz.ntmps148
  go_wp2_with fail
  go_loopg [5, 10] (n + 1) (fun f v5 v10 wr => ∃ k : Nat, k ≤ n ∧ v10 = .int .i64 k ∧ n < k + f ∧ Hid (wr.ownsRow B 9 1 v5 k (strCells ((l.take k).map tx))) ∧ Hid (Below w.heap.size w wr))
  case atStart => exact ⟨0, by omega, rfl, by omega, Lib.hid (World.ownsRow_nil _ _ _ _), Lib.hid (Below.refl _ _)⟩
  case round =>
    obtain ⟨k, hk, rfl, hf, HO, HB⟩ := hrel
    obtain ⟨f, rfl⟩ : ∃ f, gk = f + 1 := ⟨gk - 1, by omega⟩
    by_cases hlt : k < n
    · have HBS := Lib.hid (show B ≤ wr.heap.size by rw [HBB.out]; exact HB.out.size)
      obtain ⟨b1, o1, rfl, Ae, me, ce, P⟩ := (hS.out.below ArAt.stays HB.out).at_ hlt
      have cx := hC.out k hlt (wr.alloc (.cells #[.int .i64 (l.getD k default).place, .int .i64 (l.getD k default).expr.kind, .int .i64 (l.getD k default).expr.num, .slice Ae me ce] 61)) Ae me ce (below_then HB.out (alrB _ _)) (P.tr.kept (alrB _ _))
      obtain ⟨x, hx⟩ : ∃ x, x = l.getD k default := ⟨_, rfl⟩
      rw [← hx] at P cx
      have CX := Lib.hid cx
      have c0 := P.c0
      have c1 := P.c1
      have c2 := P.c2
      have c3 := P.c3
      clear P cx
      have HX := Lib.hid hx
      have hlt2 : (k : Int) < (n : Int) := by omega
      have hk0 : (0 : Int) ≤ (k : Int) := by omega
      clear hx
      go_wp2_with (first
        | (go_at_fn F; refine CX.out.mono ?_; rintro e w3 ⟨rfl, hb⟩; have HB3 := Lib.hid hb; clear hb)
        | (at_builtin; go_loud (refine wpList_append_sl strs_ty rfl (.tmp 14) (.tmp 18) rfl B rfl (by first | exact (own_below HO.out (below_then (alrB wr (.cells #[.int .i64 x.place, .int .i64 x.expr.kind, .int .i64 x.expr.num, .slice Ae me ce] 61)) (HB3.out))).alloc _ | exact own_below HO.out (below_then (below_then (alrB wr (.cells #[.int .i64 x.place, .int .i64 x.expr.kind, .int .i64 x.expr.num, .slice Ae me ce] 61)) (HB3.out)) (alrB _ _))) rfl (by exact Sl.new _ _ [.string (tx x)] 1 1 rfl (by omega)) (by intro u hu; rw [List.mem_singleton.1 hu]; rfl) (by omega) (by omega) (by have h1 := (below_then (alrB wr (.cells #[.int .i64 x.place, .int .i64 x.expr.kind, .int .i64 x.expr.num, .slice Ae me ce] 61)) (HB3.out)).size; have := HBS.out; simp; omega) ?_); intro v4 w4 hown4 hg4 hat4))
      have hb4 : Below w.heap.size w w4 := by
        have h1 := below_then (below_then HB.out (below_then (alrB wr (.cells #[.int .i64 x.place, .int .i64 x.expr.kind, .int .i64 x.expr.num, .slice Ae me ce] 61)) (HB3.out))) (alrB w3 (.cells #[.string (tx x)] 9))
        rw [← HBB.out] at h1 ⊢
        exact h1.grown hg4 (by have h1 := (below_then (alrB wr (.cells #[.int .i64 x.place, .int .i64 x.expr.kind, .int .i64 x.expr.num, .slice Ae me ce] 61)) (HB3.out)).size; have := HBS.out; simp; omega) (fun q hq => (HO.out.lt q hq).1)
      have HB4 := Lib.hid hb4
      have hown5 : w4.ownsRow B 9 1 v4 (k + 1) (strCells ((l.take (k + 1)).map tx)) := by
        rw [List.take_add_one, List.getElem?_eq_getElem (show k < l.length by have := HL.out; omega), Option.toList_some, List.map_append]
        unfold strCells
        rw [List.map_append]
        have ex : l[k]'(by have := HL.out; omega) = x := by rw [HX.out, List.getD, List.getElem?_eq_getElem (show k < l.length by have := HL.out; omega)]; rfl
        rw [ex]
        exact hown4
      have HO5 := Lib.hid hown5
      clear hown4 hown5 hg4 hat4 hb4
      go_wp2
      go_roundg f
      case measure => omega
      case rel => exact ⟨k + 1, by omega, by go_num, by omega, HO5, HB4⟩
    · have hkn : k = n := by omega
      subst hkn
      go_wp2
      go_ret
      have e0 : l.take k = l := by rw [← HL.out, List.take_length]
      have h1 := HO.out
      rw [e0, HBB.out] at h1
      exact ⟨_, rfl, h1, HB.out⟩
set_option maxRecDepth 100000 in
set_option maxHeartbeats 4000000 in
theorem pr_each_int (tx : Int → ByteArray) (F : FuncId) (C : Array Value) (A : Option Addr) (n c : Nat) (l : List Int) (w : World) (hS : Hid (Sl w (.slice A n c) n 1 (intCells l))) (hn : n ≤ 1000000) (hent : Enters Tryz.prog F)
    (hC : Hid (∀ k, k < n → ∀ W, Below w.heap.size w W → Calls Tryz.prog F (#[.int .i64 (l.getD k 0)] ++ C) W fun e w' => e = .returned (.string (tx (l.getD k 0))) ∧ Below W.heap.size W w')) :
    Calls Tryz.prog 149 #[.slice A n c, .func (.func F) #[] C] w fun e w' => ∃ v, e = .returned v ∧ w'.ownsRow w.heap.size 9 1 v n (strCells (l.map tx)) ∧ Below w.heap.size w w' := by
  have HL := Lib.hid (show l.length = n by have := hS.out.len; rw [intCells_len] at this; omega)
  have eF : ∀ args w, (callFunc F args).run Tryz.prog w = .ok (.enter F args) w := hent
  obtain ⟨B, hB⟩ : ∃ B, B = w.heap.size := ⟨_, rfl⟩
  have HBB := Lib.hid hB
  clear hB hent
  go_enter Tryz.func149, Tryz.ntmps149
  go_wp2_with fail
  go_loopg [5, 10] (n + 1) (fun f v5 v10 wr => ∃ k : Nat, k ≤ n ∧ v10 = .int .i64 k ∧ n < k + f ∧ Hid (wr.ownsRow B 9 1 v5 k (strCells ((l.take k).map tx))) ∧ Hid (Below w.heap.size w wr))
  case atStart => exact ⟨0, by omega, rfl, by omega, Lib.hid (World.ownsRow_nil _ _ _ _), Lib.hid (Below.refl _ _)⟩
  case round =>
    obtain ⟨k, hk, rfl, hf, HO, HB⟩ := hrel
    obtain ⟨f, rfl⟩ : ∃ f, gk = f + 1 := ⟨gk - 1, by omega⟩
    by_cases hlt : k < n
    · have HBS := Lib.hid (show B ≤ wr.heap.size by rw [HBB.out]; exact HB.out.size)
      obtain ⟨b1, o1, rfl, c0⟩ := (hS.out.below HB.out).int_at hlt
      have cx := hC.out k hlt wr HB.out
      obtain ⟨x, hx⟩ : ∃ x, x = l.getD k 0 := ⟨_, rfl⟩
      rw [← hx] at c0 cx
      have CX := Lib.hid cx
      clear cx
      have HX := Lib.hid hx
      have hlt2 : (k : Int) < (n : Int) := by omega
      have hk0 : (0 : Int) ≤ (k : Int) := by omega
      clear hx
      go_wp2_with (first
        | (go_at_fn F; refine CX.out.mono ?_; rintro e w3 ⟨rfl, hb⟩; have HB3 := Lib.hid hb; clear hb)
        | (at_builtin; go_loud (refine wpList_append_sl strs_ty rfl (.tmp 14) (.tmp 18) rfl B rfl (by first | exact (own_below HO.out (HB3.out)).alloc _ | exact own_below HO.out (below_then (HB3.out) (alrB _ _))) rfl (by exact Sl.new _ _ [.string (tx x)] 1 1 rfl (by omega)) (by intro u hu; rw [List.mem_singleton.1 hu]; rfl) (by omega) (by omega) (by have h1 := (HB3.out).size; have := HBS.out; simp; omega) ?_); intro v4 w4 hown4 hg4 hat4))
      have hb4 : Below w.heap.size w w4 := by
        have h1 := below_then (below_then HB.out (HB3.out)) (alrB w3 (.cells #[.string (tx x)] 9))
        rw [← HBB.out] at h1 ⊢
        exact h1.grown hg4 (by have h1 := (HB3.out).size; have := HBS.out; simp; omega) (fun q hq => (HO.out.lt q hq).1)
      have HB4 := Lib.hid hb4
      have hown5 : w4.ownsRow B 9 1 v4 (k + 1) (strCells ((l.take (k + 1)).map tx)) := by
        rw [List.take_add_one, List.getElem?_eq_getElem (show k < l.length by have := HL.out; omega), Option.toList_some, List.map_append]
        unfold strCells
        rw [List.map_append]
        have ex : l[k]'(by have := HL.out; omega) = x := by rw [HX.out, List.getD, List.getElem?_eq_getElem (show k < l.length by have := HL.out; omega)]; rfl
        rw [ex]
        exact hown4
      have HO5 := Lib.hid hown5
      clear hown4 hown5 hg4 hat4 hb4
      go_wp2
      go_roundg f
      case measure => omega
      case rel => exact ⟨k + 1, by omega, by go_num, by omega, HO5, HB4⟩
    · have hkn : k = n := by omega
      subst hkn
      go_wp2
      go_ret
      have e0 : l.take k = l := by rw [← HL.out, List.take_length]
      have h1 := HO.out
      rw [e0, HBB.out] at h1
      exact ⟨_, rfl, h1, HB.out⟩
set_option maxRecDepth 100000 in
set_option maxHeartbeats 4000000 in
theorem pr_each_pair (tx : (Int × Int) → ByteArray) (F : FuncId) (C : Array Value) (A : Option Addr) (n c : Nat) (l : List (Int × Int)) (w : World) (hS : Hid (Sl w (.slice A n c) n 2 (pairCells l))) (hn : n ≤ 1000000) (hent : Enters Tryz.prog F)
    (hC : Hid (∀ k, k < n → ∀ W, Below w.heap.size w W → Calls Tryz.prog F (#[.agg #[.int .i64 (l.getD k (0, 0)).1, .int .i64 (l.getD k (0, 0)).2]] ++ C) W fun e w' => e = .returned (.string (tx (l.getD k (0, 0)))) ∧ Below W.heap.size W w')) :
    Calls Tryz.prog 154 #[.slice A n c, .func (.func F) #[] C] w fun e w' => ∃ v, e = .returned v ∧ w'.ownsRow w.heap.size 9 1 v n (strCells (l.map tx)) ∧ Below w.heap.size w w' := by
  have HL := Lib.hid (show l.length = n by have := hS.out.len; rw [pairCells_len] at this; omega)
  have eF : ∀ args w, (callFunc F args).run Tryz.prog w = .ok (.enter F args) w := hent
  obtain ⟨B, hB⟩ : ∃ B, B = w.heap.size := ⟨_, rfl⟩
  have HBB := Lib.hid hB
  clear hB hent
  go_enter Tryz.func154, Tryz.ntmps154
  go_wp2_with fail
  go_loopg [5, 10] (n + 1) (fun f v5 v10 wr => ∃ k : Nat, k ≤ n ∧ v10 = .int .i64 k ∧ n < k + f ∧ Hid (wr.ownsRow B 9 1 v5 k (strCells ((l.take k).map tx))) ∧ Hid (Below w.heap.size w wr))
  case atStart => exact ⟨0, by omega, rfl, by omega, Lib.hid (World.ownsRow_nil _ _ _ _), Lib.hid (Below.refl _ _)⟩
  case round =>
    obtain ⟨k, hk, rfl, hf, HO, HB⟩ := hrel
    obtain ⟨f, rfl⟩ : ∃ f, gk = f + 1 := ⟨gk - 1, by omega⟩
    by_cases hlt : k < n
    · have HBS := Lib.hid (show B ≤ wr.heap.size by rw [HBB.out]; exact HB.out.size)
      obtain ⟨b1, o1, rfl, c0, c1⟩ := (hS.out.below HB.out).pair_at hlt
      have cx := hC.out k hlt (wr.alloc (.cells #[.int .i64 (l.getD k (0, 0)).1, .int .i64 (l.getD k (0, 0)).2] 67)) (below_then HB.out (alrB _ _))
      obtain ⟨x, hx⟩ : ∃ x, x = l.getD k (0, 0) := ⟨_, rfl⟩
      rw [← hx] at c0 c1 cx
      have CX := Lib.hid cx
      clear cx
      have HX := Lib.hid hx
      have hlt2 : (k : Int) < (n : Int) := by omega
      have hk0 : (0 : Int) ≤ (k : Int) := by omega
      clear hx
      go_wp2_with (first
        | (go_at_fn F; refine CX.out.mono ?_; rintro e w3 ⟨rfl, hb⟩; have HB3 := Lib.hid hb; clear hb)
        | (at_builtin; go_loud (refine wpList_append_sl strs_ty rfl (.tmp 14) (.tmp 18) rfl B rfl (by first | exact (own_below HO.out (below_then (alrB wr (.cells #[.int .i64 x.1, .int .i64 x.2] 67)) (HB3.out))).alloc _ | exact own_below HO.out (below_then (below_then (alrB wr (.cells #[.int .i64 x.1, .int .i64 x.2] 67)) (HB3.out)) (alrB _ _))) rfl (by exact Sl.new _ _ [.string (tx x)] 1 1 rfl (by omega)) (by intro u hu; rw [List.mem_singleton.1 hu]; rfl) (by omega) (by omega) (by have h1 := (below_then (alrB wr (.cells #[.int .i64 x.1, .int .i64 x.2] 67)) (HB3.out)).size; have := HBS.out; simp; omega) ?_); intro v4 w4 hown4 hg4 hat4))
      have hb4 : Below w.heap.size w w4 := by
        have h1 := below_then (below_then HB.out (below_then (alrB wr (.cells #[.int .i64 x.1, .int .i64 x.2] 67)) (HB3.out))) (alrB w3 (.cells #[.string (tx x)] 9))
        rw [← HBB.out] at h1 ⊢
        exact h1.grown hg4 (by have h1 := (below_then (alrB wr (.cells #[.int .i64 x.1, .int .i64 x.2] 67)) (HB3.out)).size; have := HBS.out; simp; omega) (fun q hq => (HO.out.lt q hq).1)
      have HB4 := Lib.hid hb4
      have hown5 : w4.ownsRow B 9 1 v4 (k + 1) (strCells ((l.take (k + 1)).map tx)) := by
        rw [List.take_add_one, List.getElem?_eq_getElem (show k < l.length by have := HL.out; omega), Option.toList_some, List.map_append]
        unfold strCells
        rw [List.map_append]
        have ex : l[k]'(by have := HL.out; omega) = x := by rw [HX.out, List.getD, List.getElem?_eq_getElem (show k < l.length by have := HL.out; omega)]; rfl
        rw [ex]
        exact hown4
      have HO5 := Lib.hid hown5
      clear hown4 hown5 hg4 hat4 hb4
      go_wp2
      go_roundg f
      case measure => omega
      case rel => exact ⟨k + 1, by omega, by go_num, by omega, HO5, HB4⟩
    · have hkn : k = n := by omega
      subst hkn
      go_wp2
      go_ret
      have e0 : l.take k = l := by rw [← HL.out, List.take_length]
      have h1 := HO.out
      rw [e0, HBB.out] at h1
      exact ⟨_, rfl, h1, HB.out⟩
end Go.Proofs.YtkpjhjoopdbkaaaGreatDoor
