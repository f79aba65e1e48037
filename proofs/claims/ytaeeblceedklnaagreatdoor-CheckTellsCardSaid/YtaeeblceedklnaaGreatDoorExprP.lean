/- Plain words on trees: depth, size, parts. -/
import Derived.Test.YtaeeblceedklnaaGreatDoorExprA
namespace Go.Proofs.YtaeeblceedklnaaGreatDoor
mutual
def depthT : Tr → Nat
  | .mk _ _ l => depthL l + 1
def depthL : List Tr → Nat
  | [] => 0
  | t :: r => max (depthT t) (depthL r)
end
mutual
def sizeT : Tr → Nat
  | .mk _ _ l => sizeL l + 1
def sizeL : List Tr → Nat
  | [] => 0
  | t :: r => sizeT t + sizeL r
end
theorem depthT_eq (t : Tr) : depthT t = depthL t.kids + 1 := by
  obtain ⟨k, n, l⟩ := t
  rw [depthT]; rfl
theorem sizeT_eq (t : Tr) : sizeT t = sizeL t.kids + 1 := by
  obtain ⟨k, n, l⟩ := t
  rw [sizeT]; rfl
theorem depthL_app : ∀ (l r : List Tr), depthL (l ++ r) = max (depthL l) (depthL r)
  | [], r => by simp [depthL]
  | t :: l, r => by
    rw [List.cons_append, depthL, depthL, depthL_app l r]
    omega
theorem sizeL_app : ∀ (l r : List Tr), sizeL (l ++ r) = sizeL l + sizeL r
  | [], r => by simp [sizeL]
  | t :: l, r => by
    rw [List.cons_append, sizeL, sizeL, sizeL_app l r]
    omega
theorem take_snocT {l : List Tr} {k : Nat} (h : k < l.length) : l.take (k + 1) = l.take k ++ [l.getD k default] := by
  rw [List.take_add_one, List.getD, List.getElem?_eq_getElem h]; rfl
theorem depthL_snoc {l : List Tr} {k : Nat} (h : k < l.length) : depthL (l.take (k + 1)) = max (depthL (l.take k)) (depthT (l.getD k default)) := by
  rw [take_snocT h, depthL_app, depthL, depthL]
  omega
theorem sizeL_snoc {l : List Tr} {k : Nat} (h : k < l.length) : sizeL (l.take (k + 1)) = sizeL (l.take k) + sizeT (l.getD k default) := by
  rw [take_snocT h, sizeL_app, sizeL, sizeL]
  omega
theorem sizeL_take (l : List Tr) (k : Nat) : sizeL (l.take k) ≤ sizeL l := by
  have := sizeL_app (l.take k) (l.drop k)
  rw [List.take_append_drop] at this
  omega
theorem depthL_take (l : List Tr) (k : Nat) : depthL (l.take k) ≤ depthL l := by
  have := depthL_app (l.take k) (l.drop k)
  rw [List.take_append_drop] at this
  omega
theorem size_kid {t : Tr} {j : Nat} (h : j < t.kids.length) : sizeT (t.kids.getD j default) < sizeT t := by
  have h1 := sizeL_snoc h
  have h2 := sizeL_take t.kids (j + 1)
  rw [sizeT_eq t]
  omega
theorem depth_kid {t : Tr} {j : Nat} (h : j < t.kids.length) : depthT (t.kids.getD j default) < depthT t := by
  have h1 := depthL_snoc h
  have h2 := depthL_take t.kids (j + 1)
  rw [depthT_eq t]
  omega
mutual
theorem depth_size : ∀ t, depthT t ≤ sizeT t
  | .mk _ _ l => by
    rw [depthT, sizeT]
    have := depth_sizeL l
    omega
theorem depth_sizeL : ∀ l, depthL l ≤ sizeL l
  | [] => by rw [depthL, sizeL]; omega
  | t :: r => by
    rw [depthL, sizeL]
    have h1 := depth_size t
    have h2 := depth_sizeL r
    omega
end
end Go.Proofs.YtaeeblceedklnaaGreatDoor
