/- Law 02: colours handed in; the plain law. -/
import Derived.Test.YtaeeblceedklnaaGreatDoorColF
import Derived.Test.YtaeeblceedklnaaGreatDoorOpenR
import Derived.ProofKit
import Derived.OpenShut
import Derived.SliceStrings
import Derived.Deep.Slices
namespace Go.Proofs.YtaeeblceedklnaaGreatDoor
open _root_.Go.ChangeShapes _root_.Go.WideShapes _root_.Go.ChangeAt _root_.Go.RowKit _root_.Go.Deep
theorem wf_I64 {x : Int} (h : (Lit.int .i64 x).wf = true) : I64 x := by
  have hmin : IntKind.i64.min = -9223372036854775808 := rfl
  have hmax : IntKind.i64.max = 9223372036854775807 := rfl
  simp only [Lit.wf, Bool.and_eq_true, decide_eq_true_eq, hmin, hmax] at h
  exact h
section
variable {H : Type} {enc : TypeId × Value → H} {W : World} {base b0 : Nat} {spare : Nat → Bool} {held : Bool} {r : Reach}
set_option maxRecDepth 100000 in
/-- A colour's cells, read from what came in. -/
theorem open_col {n : Nat} {cs : List Value} {y : DataW H × List MemPlace} (h : DataW.trod enc Tryz.prog W base spare held n 62 cs = some y) :
    ∃ (c : Col) (N : Option Addr) (m d : Nat), c.ok ∧ cs = [.string c.name, .int .i64 c.kind, .int .i64 c.lo, .int .i64 c.hi, .slice N m d, .int .i64 c.first, .int .i64 c.then_] ∧ Sl W (.slice N m d) m 1 (strCells c.names) := by
  obtain ⟨xs, k, rfl, _, hl, hxl, hf⟩ := DataW.trod_struct Tryz.underlying62 h
  have h7 : cs.length = 7 := hl.trans (by kernel_rfl)
  match cs, h7 with
  | [v0, v1, v2, v3, v4, v5, v6], _ =>
    have hx7 : xs.length = 7 := hxl
    match xs, hx7 with
    | [y0, y1, y2, y3, y4, y5, y6], _ =>
      have c9 : Tryz.prog.cellsOf 9 = 1 := by kernel_rfl
      have c3 : Tryz.prog.cellsOf 3 = 1 := by kernel_rfl
      have c25 : Tryz.prog.cellsOf 60 = 1 := by kernel_rfl
      have g0 : DataW.trod enc Tryz.prog W base spare held k 9 [v0] = some y0 := by have := hf 0 _ rfl; simpa [c9] using this
      have g1 : DataW.trod enc Tryz.prog W base spare held k 3 [v1] = some y1 := by have := hf 1 _ rfl; simpa [c3] using this
      have g2 : DataW.trod enc Tryz.prog W base spare held k 3 [v2] = some y2 := by have := hf 2 _ rfl; simpa [c3] using this
      have g3 : DataW.trod enc Tryz.prog W base spare held k 3 [v3] = some y3 := by have := hf 3 _ rfl; simpa [c3] using this
      have g4 : DataW.trod enc Tryz.prog W base spare held k 60 [v4] = some y4 := by have := hf 4 _ rfl; simpa [c25] using this
      have g5 : DataW.trod enc Tryz.prog W base spare held k 3 [v5] = some y5 := by have := hf 5 _ rfl; simpa [c3] using this
      have g6 : DataW.trod enc Tryz.prog W base spare held k 3 [v6] = some y6 := by have := hf 6 _ rfl; simpa [c3] using this
      obtain ⟨nm, e0, _, _⟩ := DataW.trod_string Tryz.underlying9 g0
      obtain ⟨kd, e1, _, w1⟩ := DataW.trod_int Tryz.underlying3 g1
      obtain ⟨lo, e2, _, w2⟩ := DataW.trod_int Tryz.underlying3 g2
      obtain ⟨hi, e3, _, w3⟩ := DataW.trod_int Tryz.underlying3 g3
      obtain ⟨fi, e5, _, w5⟩ := DataW.trod_int Tryz.underlying3 g5
      obtain ⟨th, e6, _, w6⟩ := DataW.trod_int Tryz.underlying3 g6
      injection e0 with e0; injection e1 with e1; injection e2 with e2; injection e3 with e3; injection e5 with e5; injection e6 with e6
      subst e0; subst e1; subst e2; subst e3; subst e5; subst e6
      have hok : I64 kd ∧ I64 lo ∧ I64 hi ∧ I64 fi ∧ I64 th := ⟨wf_I64 w1, wf_I64 w2, wf_I64 w3, wf_I64 w5, wf_I64 w6⟩
      rcases open_strings Tryz.underlying60 Tryz.underlying9 c9 g4 with ⟨e4, _⟩ | ⟨a, len, cap, ss, e4, _, hlc, hm, hz, _, hcell, _⟩
      · injection e4 with e4
        subst e4
        exact ⟨⟨nm, kd, lo, hi, [], fi, th⟩, none, 0, 0, hok, rfl, Sl.none_ W 1⟩
      · injection e4 with e4
        subst e4
        have hzl : len ≤ ss.length := by rw [hz]; split <;> omega
        refine ⟨⟨nm, kd, lo, hi, ss.take len, fi, th⟩, some a, len, cap, hok, rfl, ⟨_, _, rfl, hlc, by unfold maxLen at hm; exact hm, by simp [strCells]; omega, fun hn => ?_⟩⟩
        obtain ⟨b, off, spot⟩ := a
        have hspot : spot = none := by simpa [Addr.add] using World.cell?_spot (hcell 0 (by omega))
        subst hspot
        refine ⟨b, off, rfl, fun j u hu => ?_⟩
        simp only [strCells, List.getElem?_map, List.getElem?_take] at hu
        split at hu
        · rename_i hjn
          have := hcell j (by omega)
          rw [Go.WideShapes.add_plain] at this
          rw [this]
          rw [List.getElem?_eq_getElem (by omega)] at hu
          simp only [Option.map_some, Option.some.injEq] at hu
          rw [← hu]
          simp [List.getD, List.getElem?_eq_getElem (show j < ss.length by omega)]
        · simp at hu
set_option maxRecDepth 100000 in
theorem open_cols {v : Value} {dd : DataW H} {p : List MemPlace} (hv : Value.okWide Tryz.prog W r b0 22 v) (h : DataW.Trod enc Tryz.prog W base spare held 22 v dd p) :
    ∃ A n c L, v = .slice A n c ∧ Cols W A n c L := by
  obtain ⟨A, n, c, rfl⟩ := okWide_slice Tryz.underlying22 hv
  obtain ⟨fuel, hf⟩ := h
  have c27 : Tryz.prog.cellsOf 62 = 7 := by kernel_rfl
  rcases open_slice Tryz.underlying22 hf with ⟨hcs, _⟩ | ⟨a, len, cap, k, fu, D, Pl, hcs, _, hl, hmx, hk, _, hx⟩
  · simp [Value.cells] at hcs
    obtain ⟨rfl, rfl, rfl⟩ := hcs
    exact ⟨none, 0, 0, [], rfl, Nat.le_refl _, by omega, rfl, fun h => absurd h (by omega)⟩
  · simp [Value.cells] at hcs
    obtain ⟨rfl, rfl, rfl⟩ := hcs
    have hlk : n ≤ k := by rw [hk]; split <;> omega
    have each : ∀ i, i < n → ∃ q : Col × Option Addr × Nat × Nat, q.1.ok ∧ Sl W (.slice q.2.1 q.2.2.1 q.2.2.2) q.2.2.1 1 (strCells q.1.names) ∧ ∀ j u, [Value.string q.1.name, .int .i64 q.1.kind, .int .i64 q.1.lo, .int .i64 q.1.hi, .slice q.2.1 q.2.2.1 q.2.2.2, .int .i64 q.1.first, .int .i64 q.1.then_][j]? = some u → W.cell? ((a.add (i * 7)).add j) = some u := by
      intro i hin
      obtain ⟨cs', h1, h2⟩ := hx i (by omega)
      rw [c27] at h1
      obtain ⟨_, hlen, hcell⟩ := World.cells?_some h1
      obtain ⟨col, N, m, d, hok, rfl, hnm⟩ := open_col h2
      refine ⟨(col, N, m, d), hok, hnm, fun j u hu => ?_⟩
      have hj : j < 7 := (List.getElem?_eq_some_iff.1 hu).1
      rw [hcell j hj]
      exact hu
    obtain ⟨F, hF⟩ := choose_lt each
    refine ⟨_, _, _, (List.range n).map fun i => (F i).1, rfl, hl, by unfold maxLen at hmx; exact hmx, by simp, fun hn => ?_⟩
    obtain ⟨b, off, spot⟩ := a
    have hspot : spot = none := by simpa [Addr.add] using World.cell?_spot ((hF 0 hn).2.2 0 _ rfl)
    subst hspot
    refine ⟨b, off, rfl, fun i hi => ?_⟩
    obtain ⟨h1, h2, h3⟩ := hF i hi
    have e : ((List.range n).map fun i => (F i).1).getD i default = (F i).1 := by simp [List.getD, hi]
    rw [e]
    have hc := fun j u hu => (show W.cell? ⟨b, off + i * 7 + j, none⟩ = some u by
      have := h3 j u hu
      rwa [Go.WideShapes.add_plain, Go.WideShapes.add_plain] at this)
    exact ⟨(F i).2.1, (F i).2.2.1, (F i).2.2.2, hc 0 _ rfl, hc 1 _ rfl, hc 2 _ rfl, hc 3 _ rfl, hc 4 _ rfl, hc 5 _ rfl, hc 6 _ rfl, h2, h1⟩
end
end Go.Proofs.YtaeeblceedklnaaGreatDoor
