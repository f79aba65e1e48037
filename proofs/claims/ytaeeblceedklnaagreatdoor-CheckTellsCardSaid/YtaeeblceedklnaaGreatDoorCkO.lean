/- Nets handed in. -/
import Derived.Test.YtaeeblceedklnaaGreatDoorCkN
import Derived.Test.YtaeeblceedklnaaGreatDoorExprOp
import Derived.Test.YtaeeblceedklnaaGreatDoorColQ
namespace Go.Proofs.YtaeeblceedklnaaGreatDoor
open _root_.Go.ChangeShapes _root_.Go.WideShapes _root_.Go.ChangeAt _root_.Go.RowKit _root_.Go.Deep
section
variable {H : Type} {enc : TypeId × Value → H} {W : World} {base b0 : Nat} {spare : Nat → Bool} {held : Bool} {r : Reach}
/-- What a datum weighs is within the reach. -/
def Wt (t : TypeId) (d : DataW H) : Prop := ∀ n ∈ d.weights Tryz.prog t, n ≤ reachBytes
theorem weights_all {e : TypeId} {d : DataW H} {n : Nat} : ∀ {l : List (DataW H)}, d ∈ l → n ∈ d.weights Tryz.prog e → n ∈ DataW.weightsAll Tryz.prog e l
  | [], h, _ => by cases h
  | a :: l, h, hn => by
    unfold DataW.weightsAll
    rcases List.mem_cons.1 h with rfl | h
    · exact List.mem_append.2 (.inl hn)
    · exact List.mem_append.2 (.inr (weights_all h hn))
/-- A slice whose elements are read by R; Q: what their weights tell of them. -/
theorem open_slofW {α : Type} [Inhabited α] (Q : α → Prop) {R : World → Nat → Nat → α → Prop} {size : Nat} (hs : 0 < size) {t e : TypeId} (ht : Tryz.prog.underlying t = some (.slice e)) (hce : Tryz.prog.cellsOf e = size)
    (hel : ∀ {n : Nat} {cs : List Value} {y : DataW H × List MemPlace}, DataW.trod enc Tryz.prog W base spare held n e cs = some y → ∃ x : α, (∀ b o, (∀ j u, cs[j]? = some u → W.cell? ⟨b, o + j, none⟩ = some u) → R W b o x) ∧ (Wt e y.1 → Q x))
    {n : Nat} {v : Value} {y : DataW H × List MemPlace} (h : DataW.trod enc Tryz.prog W base spare held n t [v] = some y) : ∃ A m c l, v = .slice A m c ∧ SlOf size R W A m c l ∧ (Wt t y.1 → m * Tryz.prog.bytesOf e ≤ reachBytes ∧ ∀ k, k < m → Q (l.getD k default)) := by
  rcases open_slice ht h with ⟨hcs, _⟩ | ⟨a, len, cap, k, fu, D, Pl, hcs, _, hl, hmx, hk, hx0, hx⟩
  · injection hcs with hcs
    subst hcs
    exact ⟨none, 0, 0, [], rfl, SlOf.none_ _ _ _, fun _ => ⟨by rw [Nat.zero_mul]; exact Nat.zero_le _, fun k hk => absurd hk (Nat.not_lt_zero _)⟩⟩
  · injection hcs with hcs
    subst hcs
    have hlk : len ≤ k := by rw [hk]; split <;> omega
    have hd : y.1 = .slice ((List.range len).map D) ((List.range (k - len)).map fun j => D (len + j)) := congrArg Prod.fst hx0
    have each : ∀ i, i < len → ∃ q : List Value × α, q.1.length = size ∧ (∀ j u, q.1[j]? = some u → W.cell? ((a.add (i * size)).add j) = some u) ∧ (∀ b o, (∀ j u, q.1[j]? = some u → W.cell? ⟨b, o + j, none⟩ = some u) → R W b o q.2) ∧ (Wt e (D i) → Q q.2) := by
      intro i hin
      obtain ⟨cs', h1, h2⟩ := hx i (by omega)
      rw [hce] at h1
      obtain ⟨_, hlen, hcell⟩ := World.cells?_some h1
      obtain ⟨x, hR, hq⟩ := hel h2
      refine ⟨(cs', x), hlen, fun j u hu => ?_, hR, hq⟩
      have hj : j < size := hlen ▸ (List.getElem?_eq_some_iff.1 hu).1
      rw [hcell j hj]
      exact hu
    obtain ⟨F, hF⟩ := choose_lt each
    refine ⟨_, _, _, (List.range len).map fun i => (F i).2, rfl, ⟨hl, by unfold maxLen at hmx; exact hmx, by simp, fun hn => ?_⟩, fun hw => ⟨?_, fun i hi => ?_⟩⟩
    · obtain ⟨b, off, spot⟩ := a
      have hspot : spot = none := by
        obtain ⟨h1, h2, _⟩ := hF 0 hn
        have hu : (F 0).1[0]? = some (F 0).1[0] := List.getElem?_eq_getElem (by omega)
        simpa [Addr.add] using World.cell?_spot (h2 0 _ hu)
      subst hspot
      refine ⟨b, off, rfl, fun i hi => ?_⟩
      obtain ⟨h1, h2, h3, _⟩ := hF i hi
      have e : ((List.range len).map fun i => (F i).2).getD i default = (F i).2 := by simp [List.getD, hi]
      rw [e]
      refine h3 b (off + i * size) fun j u hu => ?_
      have := h2 j u hu
      rwa [Go.WideShapes.add_plain, Go.WideShapes.add_plain] at this
    · have h1 := hw ((((List.range len).map D).length + ((List.range (k - len)).map fun j => D (len + j)).length) * Tryz.prog.bytesOf e) (by
        rw [hd]
        unfold DataW.weights
        rw [ht]
        exact List.mem_cons_self)
      refine Nat.le_trans (Nat.mul_le_mul_right _ ?_) h1
      simp
    · have e1 : ((List.range len).map fun i => (F i).2).getD i default = (F i).2 := by simp [List.getD, hi]
      rw [e1]
      refine (hF i hi).2.2.2 fun n hn => hw n ?_
      rw [hd]
      unfold DataW.weights
      rw [ht]
      exact List.mem_cons_of_mem _ (List.mem_append.2 (.inl (weights_all (List.mem_map.2 ⟨i, List.mem_range.2 hi, rfl⟩) hn)))
/-- A slice whose elements are read by R. -/
theorem open_slof {α : Type} [Inhabited α] {R : World → Nat → Nat → α → Prop} {size : Nat} (hs : 0 < size) {t e : TypeId} (ht : Tryz.prog.underlying t = some (.slice e)) (hce : Tryz.prog.cellsOf e = size)
    (hel : ∀ {n : Nat} {cs : List Value} {y : DataW H × List MemPlace}, DataW.trod enc Tryz.prog W base spare held n e cs = some y → ∃ x : α, ∀ b o, (∀ j u, cs[j]? = some u → W.cell? ⟨b, o + j, none⟩ = some u) → R W b o x)
    {n : Nat} {v : Value} {y : DataW H × List MemPlace} (h : DataW.trod enc Tryz.prog W base spare held n t [v] = some y) : ∃ A m c l, v = .slice A m c ∧ SlOf size R W A m c l := by
  rcases open_slice ht h with ⟨hcs, _⟩ | ⟨a, len, cap, k, fu, D, Pl, hcs, _, hl, hmx, hk, _, hx⟩
  · injection hcs with hcs
    subst hcs
    exact ⟨none, 0, 0, [], rfl, SlOf.none_ _ _ _⟩
  · injection hcs with hcs
    subst hcs
    have hlk : len ≤ k := by rw [hk]; split <;> omega
    have each : ∀ i, i < len → ∃ q : List Value × α, q.1.length = size ∧ (∀ j u, q.1[j]? = some u → W.cell? ((a.add (i * size)).add j) = some u) ∧ ∀ b o, (∀ j u, q.1[j]? = some u → W.cell? ⟨b, o + j, none⟩ = some u) → R W b o q.2 := by
      intro i hin
      obtain ⟨cs', h1, h2⟩ := hx i (by omega)
      rw [hce] at h1
      obtain ⟨_, hlen, hcell⟩ := World.cells?_some h1
      obtain ⟨x, hR⟩ := hel h2
      refine ⟨(cs', x), hlen, fun j u hu => ?_, hR⟩
      have hj : j < size := hlen ▸ (List.getElem?_eq_some_iff.1 hu).1
      rw [hcell j hj]
      exact hu
    obtain ⟨F, hF⟩ := choose_lt each
    refine ⟨_, _, _, (List.range len).map fun i => (F i).2, rfl, hl, by unfold maxLen at hmx; exact hmx, by simp, fun hn => ?_⟩
    obtain ⟨b, off, spot⟩ := a
    have hspot : spot = none := by
      obtain ⟨h1, h2, _⟩ := hF 0 hn
      have hu : (F 0).1[0]? = some (F 0).1[0] := List.getElem?_eq_getElem (by omega)
      simpa [Addr.add] using World.cell?_spot (h2 0 _ hu)
    subst hspot
    refine ⟨b, off, rfl, fun i hi => ?_⟩
    obtain ⟨h1, h2, h3⟩ := hF i hi
    have e : ((List.range len).map fun i => (F i).2).getD i default = (F i).2 := by simp [List.getD, hi]
    rw [e]
    refine h3 b (off + i * size) fun j u hu => ?_
    have := h2 j u hu
    rwa [Go.WideShapes.add_plain, Go.WideShapes.add_plain] at this
/-- A slice of ints, in the midst. -/
theorem open_intsT {n : Nat} {v : Value} {y : DataW H × List MemPlace} (h : DataW.trod enc Tryz.prog W base spare held n 36 [v] = some y) :
    ∃ A m c l, v = .slice A m c ∧ Sl W (.slice A m c) m 1 (intCells l) ∧ ∀ x ∈ l, I64 x := by
  rcases open_ints Tryz.underlying36 Tryz.underlying3 (by kernel_rfl) h with ⟨hcs, _⟩ | ⟨a, len, cap, zs, hcs, _, hl, hm, hz, _, hcell, hwz⟩
  · injection hcs with hcs
    subst hcs
    exact ⟨none, 0, 0, [], rfl, Sl.none_ W 1, by simp⟩
  · injection hcs with hcs
    subst hcs
    have hzl : len ≤ zs.length := by rw [hz]; split <;> omega
    refine ⟨_, _, _, zs.take len, rfl, ⟨_, _, rfl, hl, by unfold maxLen at hm; exact hm, by simp [intCells]; omega, fun hn => ?_⟩, fun x hx => wf_i64 (hwz x (List.mem_of_mem_take hx))⟩
    obtain ⟨b, off, rfl, hc⟩ := ints_at hcell (by omega)
    refine ⟨b, off, rfl, fun j u hu => ?_⟩
    simp only [intCells, List.getElem?_map, List.getElem?_take] at hu
    split at hu
    · rename_i hjn
      rw [hc j (by omega)]
      rw [List.getElem?_eq_getElem (by omega)] at hu
      simp only [Option.map_some, Option.some.injEq] at hu
      rw [← hu]
      simp [List.getD, List.getElem?_eq_getElem (show j < zs.length by omega)]
    · simp at hu
/-- The length of a slice of ints, by its weight. -/
theorem ints_wt {n : Nat} {A : Option Addr} {m c : Nat} {y : DataW H × List MemPlace} (h : DataW.trod enc Tryz.prog W base spare held n 36 [.slice A m c] = some y) (hw : Wt 36 y.1) : m * Tryz.prog.bytesOf 3 ≤ reachBytes := by
  obtain ⟨A', m', c', _, e, _, hq⟩ := open_slofW (fun _ : Int => True) (R := fun _ _ _ _ => True) (size := 1) (by omega) Tryz.underlying36 (by kernel_rfl) (fun {n cs y} g => ⟨0, fun _ _ _ => trivial, fun _ => trivial⟩) h
  injection e with _ e _
  rw [e]
  exact (hq hw).1
/-- An array of ints. -/
theorem open_arr {m n : Nat} {T : TypeId} (ha : Tryz.prog.underlying T = some (.array m 3)) (hcT : Tryz.prog.cellsOf T = m) {cs : List Value} {y : DataW H × List MemPlace} (h : DataW.trod enc Tryz.prog W base spare held n T cs = some y) :
    cs.length = m ∧ ∀ j, j < m → ∃ x : Int, cs[j]? = some (.int .i64 x) ∧ I64 x := by
  have hc : Tryz.prog.cellsOf 3 = 1 := by kernel_rfl
  obtain ⟨xs, m', _, _, hl1, hl2, hel⟩ := DataW.trod_array ha h
  have hlen : cs.length = m := hl1.trans hcT
  refine ⟨hlen, fun j hj => ?_⟩
  have h3 := hel j hj
  rw [hc, Nat.mul_one, List.getElem?_eq_getElem (by omega)] at h3
  obtain ⟨x, hx, _, hw⟩ := DataW.trod_int Tryz.underlying3 h3
  have hj2 : j < cs.length := by omega
  rw [List.drop_eq_getElem_cons hj2, List.take_succ_cons, List.take_zero] at hx
  injection hx with hx _
  exact ⟨x, by rw [List.getElem?_eq_getElem hj2, hx], wf_i64 hw⟩
/-- A bag, in the midst. -/
theorem open_bagT {n : Nat} {v : Value} {y : DataW H × List MemPlace} (h : DataW.trod enc Tryz.prog W base spare held n 43 [v] = some y) :
    ∃ A m c l, v = .slice A m c ∧ Sl W (.slice A m c) m 2 (pairCells l) ∧ ∀ q ∈ l, I64 q.1 ∧ I64 q.2 := by
  obtain ⟨A, m, c, l, e, hS⟩ := open_slof (α := Int × Int) (R := fun w b o q => (w.cell? ⟨b, o, none⟩ = some (.int .i64 q.1) ∧ w.cell? ⟨b, o + 1, none⟩ = some (.int .i64 q.2)) ∧ I64 q.1 ∧ I64 q.2) (size := 2) (by omega) Tryz.underlying43 (by kernel_rfl) (fun {n cs y} g => by
    obtain ⟨hl, hx⟩ := open_arr Tryz.underlying83 (by kernel_rfl) g
    obtain ⟨x0, e0, i0⟩ := hx 0 (by omega)
    obtain ⟨x1, e1, i1⟩ := hx 1 (by omega)
    exact ⟨(x0, x1), fun b o hc => ⟨⟨by have := hc 0 _ e0; rwa [Nat.add_zero] at this, hc 1 _ e1⟩, i0, i1⟩⟩) h
  refine ⟨A, m, c, l, e, ⟨A, c, rfl, hS.1, hS.2.1, by rw [pairCells_len, hS.2.2.1], fun hn => ?_⟩, fun q hq => ?_⟩
  · obtain ⟨b, off, e, hc⟩ := hS.2.2.2 hn
    refine ⟨b, off, e, fun j u hu => ?_⟩
    unfold pairCells at hu
    rw [flat_get (fun p : Int × Int => [Value.int .i64 p.1, .int .i64 p.2]) (by omega : 0 < 2) _ (fun _ _ => rfl)] at hu
    rcases hji : l[j / 2]? with _ | x
    · rw [hji] at hu; cases hu
    · rw [hji] at hu
      have hlt := (List.getElem?_eq_some_iff.1 hji).1
      have hx : l.getD (j / 2) default = x := by simp [List.getD, hji]
      have h1 := hc (j / 2) (by rw [← hS.2.2.1]; exact hlt)
      rw [hx] at h1
      have h5 := Nat.div_add_mod j 2
      have h6 := Nat.mod_lt j (show 0 < 2 by omega)
      have hu2 : [Value.int .i64 x.1, .int .i64 x.2][j % 2]? = some u := hu
      have h7 : j % 2 = 0 ∨ j % 2 = 1 := by omega
      rcases h7 with h7 | h7
      · rw [h7] at hu2
        injection hu2 with hu2
        rw [← hu2, ← h1.1.1]
        rw [show off + j / 2 * 2 = off + j by omega]
      · rw [h7] at hu2
        injection hu2 with hu2
        rw [← hu2, ← h1.1.2]
        rw [show off + j / 2 * 2 + 1 = off + j by omega]
  · obtain ⟨k, hk, rfl⟩ := List.mem_iff_getElem.1 hq
    obtain ⟨b, off, e, hc⟩ := hS.2.2.2 (by rw [← hS.2.2.1]; omega)
    have h1 := (hc k (by rw [← hS.2.2.1]; exact hk)).2
    have hx : l.getD k default = l[k] := by simp [List.getD, hk]
    rw [hx] at h1
    exact h1

set_option maxRecDepth 100000 in
set_option maxHeartbeats 1000000 in
theorem open_vr {n : Nat} {cs : List Value} {y : DataW H × List MemPlace} (h : DataW.trod enc Tryz.prog W base spare held n 56 cs = some y) :
    ∃ x : Vr, ∀ b o, (∀ j u, cs[j]? = some u → W.cell? ⟨b, o + j, none⟩ = some u) → VrAt W b o x := by
  obtain ⟨xs, k, rfl, hy, hl, hxl, hf⟩ := DataW.trod_struct Tryz.underlying56 h
  have hn : cs.length = 2 := hl.trans (by kernel_rfl)
  match cs, hn with
  | [v0, v1], _ =>
    have hxn : xs.length = 2 := hxl
    match xs, hxn with
    | [y0, y1], _ =>
      have ct0 : Tryz.prog.cellsOf 9 = 1 := by kernel_rfl
      have ct1 : Tryz.prog.cellsOf 3 = 1 := by kernel_rfl
      have g0 : DataW.trod enc Tryz.prog W base spare held k 9 [v0] = some y0 := by have := hf 0 _ rfl; simpa [ct0, ct1] using this
      have g1 : DataW.trod enc Tryz.prog W base spare held k 3 [v1] = some y1 := by have := hf 1 _ rfl; simpa [ct0, ct1] using this
      obtain ⟨nm, e0, _, _⟩ := DataW.trod_string Tryz.underlying9 g0
      injection e0 with e0
      subst e0
      obtain ⟨kd, e1, _, w1⟩ := DataW.trod_int Tryz.underlying3 g1
      injection e1 with e1
      subst e1
      replace w1 := wf_i64 w1
      exact ⟨⟨nm, kd⟩, fun b o hc => ⟨(by have := hc 0 _ rfl; rwa [Nat.add_zero] at this), (hc 1 _ rfl), w1⟩⟩

set_option maxRecDepth 100000 in
set_option maxHeartbeats 1000000 in
theorem open_pl {n : Nat} {cs : List Value} {y : DataW H × List MemPlace} (h : DataW.trod enc Tryz.prog W base spare held n 45 cs = some y) :
    ∃ x : Pl, ∀ b o, (∀ j u, cs[j]? = some u → W.cell? ⟨b, o + j, none⟩ = some u) → PlAt W b o x := by
  obtain ⟨xs, k, rfl, hy, hl, hxl, hf⟩ := DataW.trod_struct Tryz.underlying45 h
  have hn : cs.length = 3 := hl.trans (by kernel_rfl)
  match cs, hn with
  | [v0, v1, v2], _ =>
    have hxn : xs.length = 3 := hxl
    match xs, hxn with
    | [y0, y1, y2], _ =>
      have ct0 : Tryz.prog.cellsOf 9 = 1 := by kernel_rfl
      have ct1 : Tryz.prog.cellsOf 3 = 1 := by kernel_rfl
      have ct2 : Tryz.prog.cellsOf 43 = 1 := by kernel_rfl
      have g0 : DataW.trod enc Tryz.prog W base spare held k 9 [v0] = some y0 := by have := hf 0 _ rfl; simpa [ct0, ct1, ct2] using this
      have g1 : DataW.trod enc Tryz.prog W base spare held k 3 [v1] = some y1 := by have := hf 1 _ rfl; simpa [ct0, ct1, ct2] using this
      have g2 : DataW.trod enc Tryz.prog W base spare held k 43 [v2] = some y2 := by have := hf 2 _ rfl; simpa [ct0, ct1, ct2] using this
      obtain ⟨nm, e0, _, _⟩ := DataW.trod_string Tryz.underlying9 g0
      injection e0 with e0
      subst e0
      obtain ⟨kd, e1, _, w1⟩ := DataW.trod_int Tryz.underlying3 g1
      injection e1 with e1
      subst e1
      replace w1 := wf_i64 w1
      obtain ⟨Af, nf, cf, lf, e2, sf, qf⟩ := open_bagT g2
      subst e2
      exact ⟨⟨nm, kd, lf⟩, fun b o hc => ⟨Af, nf, cf, (by have := hc 0 _ rfl; rwa [Nat.add_zero] at this), (hc 1 _ rfl), (hc 2 _ rfl), sf, w1, qf⟩⟩

set_option maxRecDepth 100000 in
set_option maxHeartbeats 1000000 in
theorem open_ar {n : Nat} {cs : List Value} {y : DataW H × List MemPlace} (h : DataW.trod enc Tryz.prog W base spare held n 65 cs = some y) :
    ∃ x : Ar, ∀ b o, (∀ j u, cs[j]? = some u → W.cell? ⟨b, o + j, none⟩ = some u) → ArAt W b o x := by
  obtain ⟨xs, k, rfl, hy, hl, hxl, hf⟩ := DataW.trod_struct Tryz.underlying65 h
  have hn : cs.length = 4 := hl.trans (by kernel_rfl)
  match cs, hn with
  | [v0, v1, v2, v3], _ =>
    have hxn : xs.length = 2 := hxl
    match xs, hxn with
    | [y0, y1], _ =>
      have ct0 : Tryz.prog.cellsOf 3 = 1 := by kernel_rfl
      have ct1 : Tryz.prog.cellsOf 49 = 3 := by kernel_rfl
      have g0 : DataW.trod enc Tryz.prog W base spare held k 3 [v0] = some y0 := by have := hf 0 _ rfl; simpa [ct0, ct1] using this
      have g1 : DataW.trod enc Tryz.prog W base spare held k 49 [v1, v2, v3] = some y1 := by have := hf 1 _ rfl; simpa [ct0, ct1] using this
      obtain ⟨pl, e0, _, w0⟩ := DataW.trod_int Tryz.underlying3 g0
      injection e0 with e0
      subst e0
      replace w0 := wf_i64 w0
      obtain ⟨te, Ae, ne, ce, e1, se⟩ := open_tr _ _ _ g1
      injection e1 with e1a e1b
      injection e1b with e1b e1c
      injection e1c with e1c
      subst e1a e1b e1c
      exact ⟨⟨pl, te⟩, fun b o hc => ⟨Ae, ne, ce, (by have := hc 0 _ rfl; rwa [Nat.add_zero] at this), (hc 1 _ rfl), (hc 2 _ rfl), (hc 3 _ rfl), se, w0⟩⟩

/-- Rows within the reach. -/
def TkLen (t : Tk) : Prop := t.vars.length ≤ 17592186044416 ∧ t.ins.length ≤ 17592186044416 ∧ t.outs.length ≤ 17592186044416 ∧ t.cancel.length ≤ 17592186044416
theorem reach_len {n b : Nat} (h : n * b ≤ reachBytes) (hb : 8 ≤ b) : n ≤ 17592186044416 := by
  have h1 : n * 8 ≤ n * b := Nat.mul_le_mul_left _ hb
  have h2 : reachBytes = 140737488351232 := rfl
  omega

set_option maxRecDepth 100000 in
set_option maxHeartbeats 1000000 in
theorem open_tk {n : Nat} {cs : List Value} {y : DataW H × List MemPlace} (h : DataW.trod enc Tryz.prog W base spare held n 53 cs = some y) :
    ∃ x : Tk, (∀ b o, (∀ j u, cs[j]? = some u → W.cell? ⟨b, o + j, none⟩ = some u) → TkAt W b o x) ∧ (Wt 53 y.1 → TkLen x) := by
  obtain ⟨xs, k, rfl, hy, hl, hxl, hf⟩ := DataW.trod_struct Tryz.underlying53 h
  have hn : cs.length = 14 := hl.trans (by kernel_rfl)
  match cs, hn with
  | [v0, v1, v2, v3, v4, v5, v6, v7, v8, v9, v10, v11, v12, v13], _ =>
    have hxn : xs.length = 10 := hxl
    match xs, hxn with
    | [y0, y1, y2, y3, y4, y5, y6, y7, y8, y9], _ =>
      have ct0 : Tryz.prog.cellsOf 9 = 1 := by kernel_rfl
      have ct1 : Tryz.prog.cellsOf 46 = 1 := by kernel_rfl
      have ct2 : Tryz.prog.cellsOf 49 = 3 := by kernel_rfl
      have ct3 : Tryz.prog.cellsOf 3 = 1 := by kernel_rfl
      have ct4 : Tryz.prog.cellsOf 50 = 1 := by kernel_rfl
      have ct5 : Tryz.prog.cellsOf 36 = 1 := by kernel_rfl
      have ct6 : Tryz.prog.cellsOf 51 = 3 := by kernel_rfl
      have g0 : DataW.trod enc Tryz.prog W base spare held k 9 [v0] = some y0 := by have := hf 0 _ rfl; simpa [ct0, ct1, ct2, ct3, ct4, ct5, ct6] using this
      have g1 : DataW.trod enc Tryz.prog W base spare held k 46 [v1] = some y1 := by have := hf 1 _ rfl; simpa [ct0, ct1, ct2, ct3, ct4, ct5, ct6] using this
      have g2 : DataW.trod enc Tryz.prog W base spare held k 49 [v2, v3, v4] = some y2 := by have := hf 2 _ rfl; simpa [ct0, ct1, ct2, ct3, ct4, ct5, ct6] using this
      have g3 : DataW.trod enc Tryz.prog W base spare held k 3 [v5] = some y3 := by have := hf 3 _ rfl; simpa [ct0, ct1, ct2, ct3, ct4, ct5, ct6] using this
      have g4 : DataW.trod enc Tryz.prog W base spare held k 3 [v6] = some y4 := by have := hf 4 _ rfl; simpa [ct0, ct1, ct2, ct3, ct4, ct5, ct6] using this
      have g5 : DataW.trod enc Tryz.prog W base spare held k 50 [v7] = some y5 := by have := hf 5 _ rfl; simpa [ct0, ct1, ct2, ct3, ct4, ct5, ct6] using this
      have g6 : DataW.trod enc Tryz.prog W base spare held k 50 [v8] = some y6 := by have := hf 6 _ rfl; simpa [ct0, ct1, ct2, ct3, ct4, ct5, ct6] using this
      have g7 : DataW.trod enc Tryz.prog W base spare held k 36 [v9] = some y7 := by have := hf 7 _ rfl; simpa [ct0, ct1, ct2, ct3, ct4, ct5, ct6] using this
      have g8 : DataW.trod enc Tryz.prog W base spare held k 3 [v10] = some y8 := by have := hf 8 _ rfl; simpa [ct0, ct1, ct2, ct3, ct4, ct5, ct6] using this
      have g9 : DataW.trod enc Tryz.prog W base spare held k 51 [v11, v12, v13] = some y9 := by have := hf 9 _ rfl; simpa [ct0, ct1, ct2, ct3, ct4, ct5, ct6] using this
      obtain ⟨nm, e0, _, _⟩ := DataW.trod_string Tryz.underlying9 g0
      injection e0 with e0
      subst e0
      obtain ⟨Av, nv, cv, lv, e1, sv, zv⟩ := open_slofW (fun _ => True) (R := VrAt) (size := 2) (by omega) Tryz.underlying46 (by kernel_rfl) (fun {n cs y} g => by obtain ⟨x, hx⟩ := open_vr g; exact ⟨x, hx, fun _ => trivial⟩) g1
      subst e1
      obtain ⟨tg, Ag, ng, cg, e2, sg⟩ := open_tr _ _ _ g2
      injection e2 with e2a e2b
      injection e2b with e2b e2c
      injection e2c with e2c
      subst e2a e2b e2c
      obtain ⟨jo, e3, _, w3⟩ := DataW.trod_int Tryz.underlying3 g3
      injection e3 with e3
      subst e3
      replace w3 := wf_i64 w3
      obtain ⟨sp, e4, _, w4⟩ := DataW.trod_int Tryz.underlying3 g4
      injection e4 with e4
      subst e4
      replace w4 := wf_i64 w4
      obtain ⟨Ai, ni, ci, li, e5, si, zi⟩ := open_slofW (fun _ => True) (R := ArAt) (size := 4) (by omega) Tryz.underlying50 (by kernel_rfl) (fun {n cs y} g => by obtain ⟨x, hx⟩ := open_ar g; exact ⟨x, hx, fun _ => trivial⟩) g5
      subst e5
      obtain ⟨Ao, no, co, lo, e6, so, zo⟩ := open_slofW (fun _ => True) (R := ArAt) (size := 4) (by omega) Tryz.underlying50 (by kernel_rfl) (fun {n cs y} g => by obtain ⟨x, hx⟩ := open_ar g; exact ⟨x, hx, fun _ => trivial⟩) g6
      subst e6
      obtain ⟨Ak, nk, ck, lk, e7, sk, qk⟩ := open_intsT g7
      subst e7
      obtain ⟨af, e8, _, w8⟩ := DataW.trod_int Tryz.underlying3 g8
      injection e8 with e8
      subst e8
      replace w8 := wf_i64 w8
      obtain ⟨_, a9⟩ := open_arr Tryz.underlying51 (by kernel_rfl) g9
      obtain ⟨m0, e9a, w9a⟩ := a9 0 (by omega)
      injection e9a with e9a
      subst e9a
      obtain ⟨m1, e9b, w9b⟩ := a9 1 (by omega)
      injection e9b with e9b
      subst e9b
      obtain ⟨m2, e9c, w9c⟩ := a9 2 (by omega)
      injection e9c with e9c
      subst e9c
      have hyw : y.1 = .agg [y0.1, y1.1, y2.1, y3.1, y4.1, y5.1, y6.1, y7.1, y8.1, y9.1] := congrArg Prod.fst hy
      have sub : Wt 53 y.1 → ∀ (j : Nat) (t : TypeId) (d : DataW H), [9, 46, 49, 3, 3, 50, 50, 36, 3, 51][j]? = some t → [y0.1, y1.1, y2.1, y3.1, y4.1, y5.1, y6.1, y7.1, y8.1, y9.1][j]? = some d → Wt t d := fun hw j t d h1 h2 n hn => hw n (by
        rw [hyw]
        unfold DataW.weights
        rw [Tryz.underlying53]
        exact DataW.weights_mem_each h1 h2 n hn)
      refine ⟨⟨nm, lv, tg, jo, sp, li, lo, lk, af, m0, m1, m2⟩, fun b o hc => ?_, fun hw => ⟨?_, ?_, ?_, ?_⟩⟩
      rotate_left
      · have h1 := (zv (sub hw 1 _ _ rfl rfl)).1; rw [show Tryz.prog.bytesOf 56 = 24 by kernel_rfl] at h1; have h2 := sv.2.2.1; show lv.length ≤ _; exact h2 ▸ reach_len h1 (by omega)
      · have h1 := (zi (sub hw 5 _ _ rfl rfl)).1; rw [show Tryz.prog.bytesOf 65 = 48 by kernel_rfl] at h1; have h2 := si.2.2.1; show li.length ≤ _; exact h2 ▸ reach_len h1 (by omega)
      · have h1 := (zo (sub hw 6 _ _ rfl rfl)).1; rw [show Tryz.prog.bytesOf 65 = 48 by kernel_rfl] at h1; have h2 := so.2.2.1; show lo.length ≤ _; exact h2 ▸ reach_len h1 (by omega)
      · have h1 := ints_wt g7 (sub hw 7 _ _ rfl rfl); rw [show Tryz.prog.bytesOf 3 = 8 by kernel_rfl] at h1; have h2 := sk.len; rw [intCells_len] at h2; show lk.length ≤ _; have h3 := reach_len h1 (by omega); omega
      exact (show TkAt W b o ⟨nm, lv, tg, jo, sp, li, lo, lk, af, m0, m1, m2⟩ from ⟨Av, nv, cv, Ag, ng, cg, Ai, ni, ci, Ao, no, co, Ak, nk, ck, (by have := hc 0 _ rfl; rwa [Nat.add_zero] at this), (hc 1 _ rfl), (hc 2 _ rfl), (hc 3 _ rfl), (hc 4 _ rfl), (hc 5 _ rfl), (hc 6 _ rfl), (hc 7 _ rfl), (hc 8 _ rfl), (hc 9 _ rfl), (hc 10 _ rfl), (hc 11 _ rfl), (hc 12 _ rfl), (hc 13 _ rfl), sv, sg, si, so, sk, w3, w4, qk, w8, w9a, w9b, w9c⟩)

/-- Colours, in the midst. -/
theorem open_colsT {n : Nat} {v : Value} {y : DataW H × List MemPlace} (h : DataW.trod enc Tryz.prog W base spare held n 22 [v] = some y) : ∃ A m c l, v = .slice A m c ∧ Cols W A m c l :=
  open_slof (R := fun w b o c => ∃ B m d, ColAt w b o B m d c) (size := 7) (by omega) Tryz.underlying22 (by kernel_rfl) (fun {n cs y} g => by
    obtain ⟨col, N, m, d, hok, rfl, hnm⟩ := open_col g
    exact ⟨col, fun b o hc => ⟨N, m, d, by have := hc 0 _ rfl; rwa [Nat.add_zero] at this, hc 1 _ rfl, hc 2 _ rfl, hc 3 _ rfl, hc 4 _ rfl, hc 5 _ rfl, hc 6 _ rfl, hnm, hok⟩⟩) h

/-- Tasks within the reach. -/
def NetLen (N : Nt) : Prop := ∀ k, k < N.tks.length → TkLen (N.tks.getD k default)
set_option maxRecDepth 100000 in
set_option maxHeartbeats 1000000 in
theorem open_netT {n : Nat} {cs : List Value} {y : DataW H × List MemPlace} (h : DataW.trod enc Tryz.prog W base spare held n 26 cs = some y) :
    ∃ (N : Nt) (A1 : Option Addr) (n1 c1 : Nat) (A2 : Option Addr) (n2 c2 : Nat) (A3 : Option Addr) (n3 c3 : Nat), cs = [.slice A1 n1 c1, .slice A2 n2 c2, .slice A3 n3 c3, .int .i64 N.from_, .int .i64 N.to_] ∧ NetAt W A1 n1 c1 A2 n2 c2 A3 n3 c3 N ∧ (Wt 26 y.1 → NetLen N) := by
  obtain ⟨xs, k, rfl, hy, hl, hxl, hf⟩ := DataW.trod_struct Tryz.underlying26 h
  have hn : cs.length = 5 := hl.trans (by kernel_rfl)
  match cs, hn with
  | [v0, v1, v2, v3, v4], _ =>
    have hxn : xs.length = 5 := hxl
    match xs, hxn with
    | [y0, y1, y2, y3, y4], _ =>
      have ct0 : Tryz.prog.cellsOf 22 = 1 := by kernel_rfl
      have ct1 : Tryz.prog.cellsOf 23 = 1 := by kernel_rfl
      have ct2 : Tryz.prog.cellsOf 24 = 1 := by kernel_rfl
      have ct3 : Tryz.prog.cellsOf 3 = 1 := by kernel_rfl
      have g0 : DataW.trod enc Tryz.prog W base spare held k 22 [v0] = some y0 := by have := hf 0 _ rfl; simpa [ct0, ct1, ct2, ct3] using this
      have g1 : DataW.trod enc Tryz.prog W base spare held k 23 [v1] = some y1 := by have := hf 1 _ rfl; simpa [ct0, ct1, ct2, ct3] using this
      have g2 : DataW.trod enc Tryz.prog W base spare held k 24 [v2] = some y2 := by have := hf 2 _ rfl; simpa [ct0, ct1, ct2, ct3] using this
      have g3 : DataW.trod enc Tryz.prog W base spare held k 3 [v3] = some y3 := by have := hf 3 _ rfl; simpa [ct0, ct1, ct2, ct3] using this
      have g4 : DataW.trod enc Tryz.prog W base spare held k 3 [v4] = some y4 := by have := hf 4 _ rfl; simpa [ct0, ct1, ct2, ct3] using this
      obtain ⟨Aa, na, ca, la, e0, sa⟩ := open_colsT g0
      subst e0
      obtain ⟨Ab, nb, cb, lb, e1, sb, zb⟩ := open_slofW (fun _ => True) (R := PlAt) (size := 3) (by omega) Tryz.underlying23 (by kernel_rfl) (fun {n cs y} g => by obtain ⟨x, hx⟩ := open_pl g; exact ⟨x, hx, fun _ => trivial⟩) g1
      subst e1
      obtain ⟨Ac, nc, cc, lc, e2, sc, zc⟩ := open_slofW TkLen (R := TkAt) (size := 14) (by omega) Tryz.underlying24 (by kernel_rfl) (fun {n cs y} g => open_tk g) g2
      subst e2
      obtain ⟨fr, e3, _, w3⟩ := DataW.trod_int Tryz.underlying3 g3
      injection e3 with e3
      subst e3
      replace w3 := wf_i64 w3
      obtain ⟨ti, e4, _, w4⟩ := DataW.trod_int Tryz.underlying3 g4
      injection e4 with e4
      subst e4
      replace w4 := wf_i64 w4
      have hyw : y.1 = .agg [y0.1, y1.1, y2.1, y3.1, y4.1] := congrArg Prod.fst hy
      exact ⟨⟨la, lb, lc, fr, ti⟩, Aa, na, ca, Ab, nb, cb, Ac, nc, cc, rfl, ⟨sa, sb, sc, w3, w4⟩, fun hw k hk => (zc fun n hn => hw n (by
        rw [hyw]
        unfold DataW.weights
        rw [Tryz.underlying26]
        exact DataW.weights_mem_each (j := 2) (t := 24) (d := y2.1) rfl rfl n hn)).2 k (by have h2 := sc.2.2.1; show k < nc; rw [← h2]; exact hk)⟩

set_option maxRecDepth 100000 in
theorem open_net {v : Value} {d : DataW H} {p : List MemPlace} (hv : Value.okWide Tryz.prog W r b0 26 v) (h : DataW.Trod enc Tryz.prog W base spare held 26 v d p) :
    ∃ (N : Nt) (A1 : Option Addr) (n1 c1 : Nat) (A2 : Option Addr) (n2 c2 : Nat) (A3 : Option Addr) (n3 c3 : Nat), v = netV A1 n1 c1 A2 n2 c2 A3 n3 c3 N.from_ N.to_ ∧ NetAt W A1 n1 c1 A2 n2 c2 A3 n3 c3 N ∧ (Wt 26 d → NetLen N) := by
  obtain ⟨fuel, hf⟩ := h
  obtain ⟨N, A1, n1, c1, A2, n2, c2, A3, n3, c3, hcs, hN, hW⟩ := open_netT hf
  obtain ⟨vs, rfl, _⟩ := okWide_struct Tryz.underlying26 hv
  refine ⟨N, A1, n1, c1, A2, n2, c2, A3, n3, c3, ?_, hN, hW⟩
  have e : vs.toList = [Value.slice A1 n1 c1, .slice A2 n2 c2, .slice A3 n3 c3, .int .i64 N.from_, .int .i64 N.to_] := hcs
  rw [← Array.toArray_toList (xs := vs), e]
end
end Go.Proofs.YtaeeblceedklnaaGreatDoor
