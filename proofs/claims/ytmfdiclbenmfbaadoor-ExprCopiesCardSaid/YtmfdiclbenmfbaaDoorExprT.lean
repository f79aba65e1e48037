/- Plain: Text. -/
import Derived.Test.YtmfdiclbenmfbaaDoorExprC
import Derived.Lib.ItoaNum
namespace Go.Proofs.YtmfdiclbenmfbaaDoor
open Go.RowKit
/-- A kid's text. -/
def kidS (l : List (Int × Int × List UInt8)) (j : Nat) (s : Int) : List UInt8 :=
  match l[j]? with
  | none => [63]
  | some (k, n, x) => if k = 5 ∧ strI n < s then [40] ++ x ++ [41] else x
def decP (n : Int) : List UInt8 := if n < 0 then [40] ++ Lib.itoa n ++ [41] else Lib.itoa n
def nameS (names : List ByteArray) (n : Int) : List UInt8 := if 0 ≤ n ∧ n < names.length then (names.getD n.toNat ⟨#[]⟩).data.toList else [63]
def textN (names : List ByteArray) (k n : Int) (l : List (Int × Int × List UInt8)) : List UInt8 :=
  if k = 1 then decP n
  else if k = 2 then nameS names n
  else if k = 3 then [45] ++ kidS l 0 9
  else if k = 4 then [33] ++ kidS l 0 9
  else if k = 5 then kidS l 0 (strI n) ++ ([32] ++ (signOf n).data.toList ++ [32]) ++ kidS l 1 (strI n + 1)
  else if k = 6 then [105, 102, 40] ++ kidS l 0 0 ++ [44, 32] ++ kidS l 1 0 ++ [44, 32] ++ kidS l 2 0 ++ [41]
  else [63]
mutual
def textT (names : List ByteArray) : Tr → List UInt8
  | .mk k n l => textN names k n (textL names l)
def textL (names : List ByteArray) : List Tr → List (Int × Int × List UInt8)
  | [] => []
  | t :: r => (t.kind, t.num, textT names t) :: textL names r
end
theorem textT_eq (names : List ByteArray) (t : Tr) : textT names t = textN names t.kind t.num (textL names t.kids) := by
  obtain ⟨k, n, l⟩ := t
  rw [textT]; rfl
theorem textL_get (names : List ByteArray) : ∀ (l : List Tr) (j : Nat), j < l.length → (textL names l)[j]? = some ((l.getD j default).kind, (l.getD j default).num, textT names (l.getD j default))
  | [], j, h => by simp at h
  | t :: r, 0, _ => by rw [textL]; rfl
  | t :: r, j + 1, h => by
    rw [textL]
    exact textL_get names r j (by simpa using h)
theorem textL_len (names : List ByteArray) : ∀ l : List Tr, (textL names l).length = l.length
  | [] => by rw [textL]; rfl
  | t :: r => by rw [textL, List.length_cons, List.length_cons, textL_len names r]
theorem kidS_at {names : List ByteArray} {l : List Tr} {j : Nat} (h : j < l.length) (s : Int) : kidS (textL names l) j s = if (l.getD j default).kind = 5 ∧ strI (l.getD j default).num < s then [40] ++ textT names (l.getD j default) ++ [41] else textT names (l.getD j default) := by
  unfold kidS
  rw [textL_get names l j h]
theorem kidS_no {names : List ByteArray} {l : List Tr} {j : Nat} (h : l.length ≤ j) (s : Int) : kidS (textL names l) j s = [63] := by
  unfold kidS
  rw [List.getElem?_eq_none (by rw [textL_len]; omega)]
theorem strI_bd (n : Int) : 0 ≤ strI n ∧ strI n ≤ 5 := by
  unfold strI
  repeat' split
  all_goals omega
/-- How long the kids' texts are. -/
def totL : List (Int × Int × List UInt8) → Nat
  | [] => 0
  | x :: r => x.2.2.length + 2 + totL r
theorem kidS_len (l : List (Int × Int × List UInt8)) (j : Nat) (s : Int) : (kidS l j s).length ≤ ((l[j]?.map fun x => x.2.2.length + 2).getD 1) := by
  unfold kidS
  cases l[j]? with
  | none => simp
  | some x =>
    obtain ⟨k, n, x⟩ := x
    simp only
    split <;> simp <;> omega
theorem kids_len (l : List (Int × Int × List UInt8)) (s0 s1 s2 : Int) : (kidS l 0 s0).length + (kidS l 1 s1).length + (kidS l 2 s2).length ≤ 3 + totL l := by
  have h0 := kidS_len l 0 s0
  have h1 := kidS_len l 1 s1
  have h2 := kidS_len l 2 s2
  rcases l with _ | ⟨a, _ | ⟨b, _ | ⟨c, r⟩⟩⟩ <;> simp [totL] at h0 h1 h2 ⊢ <;> omega
theorem sign_len (n : Int) : (signOf n).data.toList.length ≤ 2 := by
  unfold signOf
  split
  · rename_i h
    have : n = 1 ∨ n = 2 ∨ n = 3 ∨ n = 4 ∨ n = 5 ∨ n = 6 ∨ n = 7 ∨ n = 8 ∨ n = 9 ∨ n = 10 ∨ n = 11 := by omega
    rcases this with h | h | h | h | h | h | h | h | h | h | h <;> subst h <;> decide
  · decide
theorem dec_len {n : Int} (h : I64 n) : (Lib.itoa n).length ≤ 22 := by
  have hd : ∀ u : Nat, u ≤ 9223372036854775808 → (Lib.decDigits u).length ≤ 20 := fun u hu => by
    rw [Lib.decDigits_length]
    have key : ∀ (k u : Nat), 1 ≤ k → u < 10 ^ k → Lib.nDigits u ≤ k := by
      intro k
      induction k with
      | zero => intro u h; omega
      | succ k ih =>
        intro u _ hu
        rw [Lib.nDigits]
        split
        · omega
        · rcases Nat.eq_zero_or_pos k with h0 | h0
          · subst h0; simp at hu; omega
          · have := ih (u / 10) h0 (by rw [Nat.pow_succ] at hu; omega)
            omega
    exact key 20 u (by decide) (by omega)
  unfold I64 at h
  unfold Lib.itoa
  split
  · have := hd n.natAbs (by omega); simp; omega
  · have := hd n.toNat (by omega); omega
theorem name_len {names : List ByteArray} {L : Nat} (hL : ∀ s ∈ names, s.size ≤ L) (n : Int) : (nameS names n).length ≤ L + 1 := by
  unfold nameS
  split
  · rename_i h
    rw [List.getD, List.getElem?_eq_getElem (by omega)]
    have := hL _ (List.getElem_mem (l := names) (n := n.toNat) (by omega))
    simp only [Option.getD_some, Array.length_toList]
    have e : (names[n.toNat]'(by omega)).data.size = (names[n.toNat]'(by omega)).size := rfl
    omega
  · simp
theorem textN_len {names : List ByteArray} {L : Nat} (hL : ∀ s ∈ names, s.size ≤ L) (k n : Int) (hn : I64 n) (l : List (Int × Int × List UInt8)) : (textN names k n l).length ≤ L + 40 + totL l := by
  have hd := dec_len hn
  have hnm := name_len hL n
  have hs := sign_len n
  unfold textN decP
  have k1 := kids_len l 9 0 0
  have k2 := kids_len l (strI n) (strI n + 1) 0
  have k3 := kids_len l 0 0 0
  repeat' split
  all_goals (try simp only [List.length_append, List.length_cons, List.length_nil])
  all_goals omega
mutual
theorem textT_len {names : List ByteArray} {L : Nat} (hL : ∀ s ∈ names, s.size ≤ L) {w : World} : ∀ (t : Tr) {A : Option Addr} {m c : Nat}, TrAt w A m c t → (textT names t).length + 2 ≤ (L + 42) * sizeT t
  | .mk k n l, A, m, c, h => by
    rw [textT]
    have h1 := textN_len hL k n h.nums.2 (textL names l)
    have h2 : totL (textL names l) ≤ (L + 42) * sizeL l := by
      rw [TrAt] at h
      rcases h.2.2.2.2.2 with h0 | ⟨b, off, _, hk⟩
      · have : l = [] := List.eq_nil_of_length_eq_zero (by omega)
        subst this
        rw [textL]; simp [totL]
      · exact textL_len2 hL l hk
    rw [sizeT_eq]
    show _ ≤ (L + 42) * (sizeL l + 1)
    rw [Nat.mul_add]
    omega
theorem textL_len2 {names : List ByteArray} {L : Nat} (hL : ∀ s ∈ names, s.size ≤ L) {w : World} : ∀ (l : List Tr) {b off i : Nat}, KidsAt w b off i l → totL (textL names l) ≤ (L + 42) * sizeL l
  | [], b, off, i, _ => by rw [textL]; simp [totL]
  | t :: r, b, off, i, h => by
    rw [KidsAt] at h
    obtain ⟨⟨A, m, c, _, _, _, ht⟩, hr⟩ := h
    have h1 := textT_len hL t ht
    have h2 := textL_len2 hL r hr
    rw [textL, sizeL]
    simp only [totL]
    rw [Nat.mul_add]
    omega
end
end Go.Proofs.YtmfdiclbenmfbaaDoor
