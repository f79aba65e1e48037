/- Joined: Plain law of parse: brackets around an expression change nothing, as long as it is not too deep. Plain law of parse: a bracketed text, cut and read. -/
import Derived.Test.YtkpjhjoopdbkaaaGreatDoorG30
namespace Go.Proofs.YtkpjhjoopdbkaaaGreatDoor
section
variable {K : List Kt} {s : Ps}
/-- Behind an error nothing goes on. -/
theorem want_stuck {x : ByteArray} (hx : x ≠ ByteArray.empty) (h : s.err ≠ 0) : wantP K x s = s := by
  unfold wantP; rw [take_stuck hx h]; exact wrong_stuck h
theorem known_stuck (find : ByteArray → Int) (h : s.err ≠ 0) : knownS K find s = s := by unfold knownS; rw [name_stuck h]; exact wrong_stuck h
theorem loop_stuck (ex : Int → Ps → Tr × Ps) (st : Int) (e : Tr) (h : s.err ≠ 0) : ∀ n, loopP K ex st n e s = (e, s)
  | 0 => rfl
  | n + 1 => by unfold loopP; rw [sign_stuck h]; rfl
theorem unary_stuck (ex : Int → Ps → Tr × Ps) (un : Ps → Tr × Ps) (h : s.err ≠ 0) : (unaryP K ex un s).2 = s := by
  unfold unaryP
  rw [take_stuck minus_ne h, take_stuck (x := ⟨#[33]⟩) (by decide) h, take_stuck (x := ⟨#[40]⟩) (by decide) h, take_stuck (x := ⟨#[105, 102]⟩) (by decide) h, next_stuck h]
  simp only [Bool.false_eq_true, if_false]
  rw [if_neg (by decide)]
  exact known_stuck _ h
theorem exprs_stuck : ∀ (f : Nat) (s : Ps), s.err ≠ 0 → ((exprsP K f).1 s).2 = s ∧ ∀ st, ((exprsP K f).2 st s).2 = s
  | 0, s, h => ⟨wrong_stuck h, fun _ => wrong_stuck h⟩
  | f + 1, s, h => by
    have hu := unary_stuck (K := K) (exprsP K f).2 (exprsP K f).1 h
    refine ⟨hu, fun st => ?_⟩
    show (loopP K (exprsP K f).2 st (K.length + 1) (unaryP K (exprsP K f).2 (exprsP K f).1 s).1 (unaryP K (exprsP K f).2 (exprsP K f).1 s).2).2 = s
    rw [hu, loop_stuck _ _ _ h]
end
section
variable {K : List Kt} {p : Kt}
theorem want_back {s : Ps} {x : ByteArray} (hx : x ≠ ByteArray.empty) (he : (wantP K x s).err = 0) : s.err = 0 := by
  by_cases h : s.err = 0
  · exact h
  · rw [want_stuck hx h] at he; exact absurd he h
structure Good (K : List Kt) (ex : Ps → Tr × Ps) : Prop where
  stuck : ∀ s, s.err ≠ 0 → (ex s).2 = s
  mv : ∀ s, Mv K s (ex s).2
theorem Good.back {ex : Ps → Tr × Ps} (g : Good K ex) {s : Ps} (h : (ex s).2.err = 0) : s.err = 0 := by
  by_cases h0 : s.err = 0
  · exact h0
  · rw [g.stuck s h0] at h; exact absurd h h0
end
end Go.Proofs.YtkpjhjoopdbkaaaGreatDoor
namespace Go.Proofs.YtkpjhjoopdbkaaaGreatDoor
end Go.Proofs.YtkpjhjoopdbkaaaGreatDoor
