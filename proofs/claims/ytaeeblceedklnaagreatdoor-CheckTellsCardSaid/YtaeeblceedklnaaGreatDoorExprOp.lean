/- Expressions handed in. -/
import Derived.Test.YtaeeblceedklnaaGreatDoorExprA
import Derived.Test.YtaeeblceedklnaaGreatDoorOpenR
import Derived.ProofKit
import Derived.OpenShut
import Derived.SliceStrings
import Derived.Deep.Slices
namespace Go.Proofs.YtaeeblceedklnaaGreatDoor
open _root_.Go.ChangeShapes _root_.Go.WideShapes _root_.Go.ChangeAt _root_.Go.RowKit _root_.Go.Deep
section
variable {H : Type} {enc : TypeId × Value → H} {W : World} {base b0 : Nat} {spare : Nat → Bool} {held : Bool} {r : Reach}
set_option maxRecDepth 100000 in
set_option maxHeartbeats 1000000 in
/-- An expression's cells, read from what came in. -/
theorem open_tr : ∀ (fuel : Nat) (cs : List Value) (y : DataW H × List MemPlace), DataW.trod enc Tryz.prog W base spare held fuel 49 cs = some y →
    ∃ (t : Tr) (A : Option Addr) (m c : Nat), cs = [.int .i64 t.kind, .int .i64 t.num, .slice A m c] ∧ TrAt W A m c t := by
  intro fuel
  induction fuel using Nat.strongRecOn with
  | ind fuel IH =>
    intro cs y h
    obtain ⟨xs, k, hk, _, hl, hxl, hf⟩ := DataW.trod_struct Tryz.underlying49 h
    have h3 : cs.length = 3 := hl.trans (by kernel_rfl)
    match cs, h3 with
    | [v0, v1, v2], _ =>
      have hx3 : xs.length = 3 := hxl
      match xs, hx3 with
      | [y0, y1, y2], _ =>
        have ci : Tryz.prog.cellsOf 3 = 1 := by kernel_rfl
        have cs1 : Tryz.prog.cellsOf 47 = 1 := by kernel_rfl
        have ce : Tryz.prog.cellsOf 49 = 3 := by kernel_rfl
        have g0 : DataW.trod enc Tryz.prog W base spare held k 3 [v0] = some y0 := by have := hf 0 _ rfl; simpa [ci] using this
        have g1 : DataW.trod enc Tryz.prog W base spare held k 3 [v1] = some y1 := by have := hf 1 _ rfl; simpa [ci] using this
        have g2 : DataW.trod enc Tryz.prog W base spare held k 47 [v2] = some y2 := by have := hf 2 _ rfl; simpa [cs1] using this
        obtain ⟨kd, e0, _, w0⟩ := DataW.trod_int Tryz.underlying3 g0
        obtain ⟨nm, e1, _, w1⟩ := DataW.trod_int Tryz.underlying3 g1
        injection e0 with e0; injection e1 with e1
        subst e0; subst e1
        rcases DataW.trod_slice Tryz.underlying47 g2 with ⟨e2, _⟩ | ⟨a, len, cap, elems, rest, n, hn, e2, _, _, hlc, hm, hel, hx, _, _⟩
        · injection e2 with e2
          subst e2
          exact ⟨.mk kd nm [], none, 0, 0, rfl, TrAt.mk_ (t := .mk kd nm []) (wf_i64 w0) (wf_i64 w1) rfl (Nat.le_refl _) (by omega) (.inl rfl)⟩
        · injection e2 with e2
          subst e2
          have each : ∀ i, i < len → ∃ q : Tr × Option Addr × Nat × Nat, (∀ j u, [Value.int .i64 q.1.kind, .int .i64 q.1.num, .slice q.2.1 q.2.2.1 q.2.2.2][j]? = some u → W.cell? ((a.add (i * 3)).add j) = some u) ∧ TrAt W q.2.1 q.2.2.1 q.2.2.2 q.1 := by
            intro i hi
            have hb := hx i hi
            rw [List.getElem?_eq_getElem (by omega), Option.bind_eq_some_iff] at hb
            obtain ⟨cs', h1, h2⟩ := hb
            rw [ce] at h1
            obtain ⟨_, hlen, hcell⟩ := World.cells?_some h1
            obtain ⟨t, A, m, c, rfl, hT⟩ := IH n (by omega) cs' _ h2
            refine ⟨(t, A, m, c), fun j u hu => ?_, hT⟩
            have hj : j < 3 := (List.getElem?_eq_some_iff.1 hu).1
            rw [hcell j hj]
            exact hu
          obtain ⟨F, hF⟩ := choose_lt each
          have hlen : ((List.range len).map fun i => (F i).1).length = len := by simp
          refine ⟨.mk kd nm ((List.range len).map fun i => (F i).1), some a, len, cap, rfl, TrAt.mk_ (t := .mk kd nm ((List.range len).map fun i => (F i).1)) (wf_i64 w0) (wf_i64 w1) hlen hlc (by unfold maxLen at hm; exact hm) ?_⟩
          by_cases h0 : len = 0
          · exact .inl h0
          · obtain ⟨b, off, spot⟩ := a
            have hspot : spot = none := by simpa [Addr.add] using World.cell?_spot ((hF 0 (by omega)).1 0 _ rfl)
            subst hspot
            refine .inr ⟨b, off, rfl, fun j hj => ?_⟩
            obtain ⟨h1, h2⟩ := hF j hj
            have e : (Tr.mk kd nm ((List.range len).map fun i => (F i).1)).kids.getD j default = (F j).1 := by
              show ((List.range len).map fun i => (F i).1).getD j default = _
              simp [List.getD, hj]
            rw [e]
            have hc := fun i u hu => (show W.cell? ⟨b, off + j * 3 + i, none⟩ = some u by
              have := h1 i u hu
              rwa [Go.WideShapes.add_plain, Go.WideShapes.add_plain] at this)
            exact ⟨(F j).2.1, (F j).2.2.1, (F j).2.2.2, hc 0 _ rfl, hc 1 _ rfl, hc 2 _ rfl, h2⟩
set_option maxRecDepth 100000 in
theorem open_expr {v : Value} {d : DataW H} {p : List MemPlace} (hv : Value.okWide Tryz.prog W r b0 49 v) (h : DataW.Trod enc Tryz.prog W base spare held 49 v d p) :
    ∃ (t : Tr) (A : Option Addr) (m c : Nat), v = t.val A m c ∧ TrAt W A m c t := by
  obtain ⟨fuel, hf⟩ := h
  obtain ⟨t, A, m, c, hcs, hT⟩ := open_tr fuel _ _ hf
  obtain ⟨vs, rfl, _⟩ := okWide_struct Tryz.underlying49 hv
  refine ⟨t, A, m, c, ?_, hT⟩
  have e : vs.toList = [Value.int .i64 t.kind, .int .i64 t.num, .slice A m c] := hcs
  rw [← Array.toArray_toList (xs := vs), e]
end
end Go.Proofs.YtaeeblceedklnaaGreatDoor
