/- What package check tells. -/
import Derived.Test.YtaeeblceedklnaaGreatDoorCkN
import Derived.Test.YtaeeblceedklnaaGreatDoorCkW
import Derived.Test.YtaeeblceedklnaaGreatDoorExprE
namespace Go.Proofs.YtaeeblceedklnaaGreatDoor
open Go.RowKit
/-- May a name be given? -/
def freeB (s : ByteArray) : Bool := nameOk s.data.toList && !isWord s
/-- The first of n that is bad, from k on. -/
def seekE (f : Nat → Int) : Nat → Nat → Int × Int
  | _, 0 => (0, 0)
  | k, r + 1 => if f k = 0 then seekE f (k + 1) r else ((k : Int), f k)
def eachE (f : Nat → Int) (n : Nat) : Int × Int := seekE f 0 n
theorem seekE_ok {f : Nat → Int} {k r : Nat} (h : f k = 0) : seekE f k (r + 1) = seekE f (k + 1) r := by rw [seekE, if_pos h]
theorem seekE_no {f : Nat → Int} {k r : Nat} (h : f k ≠ 0) : seekE f k (r + 1) = ((k : Int), f k) := by rw [seekE, if_neg h]
theorem seekE_zero : ∀ {f : Nat → Int} {r k : Nat}, (∀ j, k ≤ j → j < k + r → f j = 0) → seekE f k r = (0, 0)
  | _, 0, _, _ => rfl
  | f, r + 1, k, h => by rw [seekE_ok (h k (Nat.le_refl _) (by omega)), seekE_zero fun j h1 h2 => h j (by omega) (by omega)]
theorem seekE_all : ∀ {f : Nat → Int} {r k : Nat}, (seekE f k r).2 = 0 → ∀ j, k ≤ j → j < k + r → f j = 0
  | _, 0, _, _, j, h1, h2 => by omega
  | f, r + 1, k, h, j, h1, h2 => by
    by_cases h0 : f k = 0
    · rw [seekE_ok h0] at h
      by_cases hj : j = k
      · rw [hj]; exact h0
      · exact seekE_all h j (by omega) (by omega)
    · rw [seekE_no h0] at h
      exact absurd h h0
theorem eachE_zero {f : Nat → Int} {n : Nat} : (eachE f n).2 = 0 ↔ ∀ j, j < n → f j = 0 :=
  ⟨fun h j hj => seekE_all h j (Nat.zero_le _) (by omega), fun h => by unfold eachE; rw [seekE_zero fun j _ hj => h j (by omega)]⟩
theorem seekE_at : ∀ {f : Nat → Int} {r k : Nat}, (seekE f k r).2 ≠ 0 → ∃ j, k ≤ j ∧ j < k + r ∧ seekE f k r = ((j : Int), f j)
  | _, 0, _, h => absurd rfl h
  | f, r + 1, k, h => by
    by_cases h0 : f k = 0
    · rw [seekE_ok h0] at h ⊢
      obtain ⟨j, h1, h2, h3⟩ := seekE_at h
      exact ⟨j, by omega, by omega, h3⟩
    · rw [seekE_no h0]
      exact ⟨k, Nat.le_refl _, by omega, rfl⟩
/-- The first error of some questions. -/
def firstE : List (Bool × Int) → Int
  | [] => 0
  | q :: r => if q.1 then firstE r else q.2
def colourB (L : List Col) (k : Nat) : Bool := (sizesF (L.take (k + 1))).isSome && (freeB (L.getD k default).name && (!decide ((L.getD k default).kind = 2) || (L.getD k default).names.all freeB))
def colourE (L : List Col) (k : Nat) : Int := if colourB L k then 0 else 8
def colsE (L : List Col) : Int × Int := eachE (colourE L) L.length
def amongB (n : Nat) (k : Int) : Bool := decide (0 ≤ k) && decide (k < (n : Int))
def placeE (N : Nt) (k : Int) : Int :=
  if amongB N.pls.length k then
    firstE [(freeB (N.pls.getD k.toNat default).name, 1), (!(N.pls.take k.toNat).any fun x => decide (x.name = (N.pls.getD k.toNat default).name), 5), (amongB N.cols.length (N.pls.getD k.toNat default).colour, 3), (rightB (N.pls.getD k.toNat default).first, 1),
      (!(N.pls.getD k.toNat default).first.any fun r => decide (sizeAt N.cols (N.pls.getD k.toNat default).colour ≤ r.1), 8)]
  else 3
def bindsG (L : List Col) : Int → List Vr → Int
  | b, [] => b
  | b, v :: r => if sizeAt L v.colour = 0 then 0 else bindsG L (min (b * sizeAt L v.colour) 1025) r
def bindsE (N : Nt) (k : Int) : Int := if amongB N.tks.length k then bindsG N.cols 1 (N.tks.getD k.toNat default).vars else 0
def varE (m : Nat) (l : List Vr) (k : Nat) : Int := firstE [(freeB (l.getD k default).name, 1), (!(l.take k).any fun x => decide (x.name = (l.getD k default).name), 5), (amongB m (l.getD k default).colour, 3)]
def varsE (m : Nat) (l : List Vr) : Int := (eachE (varE m l) l.length).2
def arcE (m : Nat) (vars : Int) (l : List Ar) (k : Nat) : Int := firstE [(amongB m (l.getD k default).place, 3), (rightT vars (l.getD k default).expr, 1)]
def arcsE (m : Nat) (vars : Int) (l : List Ar) : Int := (eachE (arcE m vars l) l.length).2
def cancelE (m : Nat) (l : List Int) (k : Nat) : Int := firstE [(amongB m (l.getD k 0), 3), (!(l.take k).contains (l.getD k 0), 5)]
def cancelsE (m : Nat) (l : List Int) : Int := (eachE (cancelE m l) l.length).2
def manyB (t : Tk) : Bool := decide (t.m0 = 0 ∧ t.m1 = 0 ∧ t.m2 = 0) || decide (1 ≤ t.m0 ∧ t.m0 ≤ t.m1 ∧ t.m1 ≤ 16 ∧ 1 ≤ t.m2 ∧ t.m2 ≤ t.m1)
def knownK (k : Int) (n : Nat) : Bool := decide (1 ≤ k) && (decide (k ≤ 3) && (!decide (k = 3) || decide (n ≤ 4)))
def kindsB (t : Tk) : Bool := knownK t.join t.ins.length && (knownK t.split t.outs.length && (decide (0 ≤ t.after) && (decide (t.after ≤ 65536) && manyB t)))
def sizesB (t : Tk) : Bool := decide (t.vars.length ≤ 16) && decide (max (max t.ins.length t.outs.length) t.cancel.length ≤ 16)
def taskB (N : Nt) (k : Nat) (t : Tk) : Int :=
  if (colsE N.cols).2 = 0 then
    firstE [(freeB t.name, 1), (!(N.tks.take k).any fun x => decide (x.name = t.name), 5), (sizesB t, 2), (decide (varsE N.cols.length t.vars = 0), varsE N.cols.length t.vars), (decide (bindsE N k ≤ 1024), 2),
      (rightT t.vars.length t.guard && (decide (0 < t.ins.length) && decide (0 < t.outs.length)), 1), (decide (arcsE N.pls.length t.vars.length t.ins = 0), arcsE N.pls.length t.vars.length t.ins),
      (decide (arcsE N.pls.length t.vars.length t.outs = 0), arcsE N.pls.length t.vars.length t.outs), (decide (cancelsE N.pls.length t.cancel = 0), cancelsE N.pls.length t.cancel), (kindsB t, 11)]
  else (colsE N.cols).2
def taskE (N : Nt) (k : Int) : Int := if amongB N.tks.length k then taskB N k.toNat (N.tks.getD k.toNat default) else 3
def headE (N : Nt) : Int := firstE [(decide (N.pls.length ≤ 64) && decide (N.tks.length ≤ 64), 2), (amongB N.pls.length N.from_ && amongB N.pls.length N.to_, 3), (!decide (N.from_ = N.to_), 1)]
/-- Kind, place, error. -/
def netE (N : Nt) : Int × Int × Int :=
  if headE N = 0 then
    if (colsE N.cols).2 = 0 then
      if (eachE (fun k => placeE N k) N.pls.length).2 = 0 then
        if (eachE (fun k => taskE N k) N.tks.length).2 = 0 then (0, 0, 0) else (4, eachE (fun k => taskE N k) N.tks.length)
      else (3, eachE (fun k => placeE N k) N.pls.length)
    else (2, colsE N.cols)
  else (1, 0, headE N)
end Go.Proofs.YtaeeblceedklnaaGreatDoor
