/- Joined: The net's ends, the variables; the finders. Printed by gen_paQ.py. -/
import Derived.Test.YtkpjhjoopdbkaaaGreatDoorG12
namespace Go.Proofs.YtkpjhjoopdbkaaaGreatDoor
open Go.RowKit
section
variable {T : List Tok} {en : Int} {g : Nat} {A : Option Addr} {c base : Nat} {h : Hs} {L1 : List ColV} {L2 : List PlV} {L3 : List TkV} {s : Ps} {w w' : World}
theorem colv_at (l : List ColV) : ∀ (j i : Nat) (h : j < l.length), i < 7 → (l.flatMap ColV.cells)[j * 7 + i]? = (l[j].cells)[i]? := by
  induction l with
  | nil => intro j i h; exact absurd h (by simp)
  | cons t l ih =>
    intro j i h hi
    rw [List.flatMap_cons]
    have hc : t.cells.length = 7 := rfl
    rcases j with _ | j
    · rw [List.getElem?_append_left (by omega)]; simp
    · rw [List.getElem?_append_right (by omega), hc]
      have := ih j i (by simpa using h) hi
      rw [show (j + 1) * 7 + i - 7 = j * 7 + i by omega, this]; rfl
theorem plv_at (l : List PlV) : ∀ (j i : Nat) (h : j < l.length), i < 3 → (l.flatMap PlV.cells)[j * 3 + i]? = (l[j].cells)[i]? := by
  induction l with
  | nil => intro j i h; exact absurd h (by simp)
  | cons t l ih =>
    intro j i h hi
    rw [List.flatMap_cons]
    have hc : t.cells.length = 3 := rfl
    rcases j with _ | j
    · rw [List.getElem?_append_left (by omega)]; simp
    · rw [List.getElem?_append_right (by omega), hc]
      have := ih j i (by simpa using h) hi
      rw [show (j + 1) * 3 + i - 3 = j * 3 + i by omega, this]; rfl
theorem tkv_at (l : List TkV) : ∀ (j i : Nat) (h : j < l.length), i < 14 → (l.flatMap TkV.cells)[j * 14 + i]? = (l[j].cells)[i]? := by
  induction l with
  | nil => intro j i h; exact absurd h (by simp)
  | cons t l ih =>
    intro j i h hi
    rw [List.flatMap_cons]
    have hc : t.cells.length = 14 := rfl
    rcases j with _ | j
    · rw [List.getElem?_append_left (by omega)]; simp
    · rw [List.getElem?_append_right (by omega), hc]
      have := ih j i (by simpa using h) hi
      rw [show (j + 1) * 14 + i - 14 = j * 14 + i by omega, this]; rfl
theorem cols_of {H : Nat → Prop} {V : Value} {l : List ColV} {A' : Option Addr} {n' c' : Nat} (r : OwnR 7 ColV.cells ColV.at_ 82 base H V l w) (hV : V = .slice A' n' c') : Cols w A' n' c' (l.map (·.c)) := by
  rcases r.own.2 with ⟨hv, h0⟩ | ⟨b, cap, cur, hv, hbg, hgg, hnc, hm, _⟩
  · have e : l = [] := List.length_eq_zero_iff.1 h0
    subst e
    rw [hV] at hv
    injection hv with e1 e2 e3
    subst e1; subst e2; subst e3
    exact ⟨Nat.le_refl _, by omega, rfl, fun h => absurd h (by omega)⟩
  · have hc := fun j u hu => r.own.cells (g := b) (by rw [hv]; rfl) j u hu
    rw [hV] at hv
    injection hv with e1 e2 e3
    subst e1; subst e2; subst e3
    unfold maxLen at hm
    refine ⟨hnc, hm, by rw [List.length_map], fun _ => ⟨b, 0, rfl, fun j hj => ?_⟩⟩
    have e : (l.map (·.c)).getD j default = l[j].c := by simp [List.getD, hj]
    have hat := (r.held l[j] (List.getElem_mem hj)).now
    rw [e, Nat.zero_add]
    have c0 := hc (j * 7 + 0) _ ((colv_at l j 0 hj (by omega)).trans rfl)
    rw [Go.WideShapes.add_plain, Nat.zero_add] at c0
    have c1 := hc (j * 7 + 1) _ ((colv_at l j 1 hj (by omega)).trans rfl)
    rw [Go.WideShapes.add_plain, Nat.zero_add] at c1
    have c2 := hc (j * 7 + 2) _ ((colv_at l j 2 hj (by omega)).trans rfl)
    rw [Go.WideShapes.add_plain, Nat.zero_add] at c2
    have c3 := hc (j * 7 + 3) _ ((colv_at l j 3 hj (by omega)).trans rfl)
    rw [Go.WideShapes.add_plain, Nat.zero_add] at c3
    have c4 := hc (j * 7 + 4) _ ((colv_at l j 4 hj (by omega)).trans rfl)
    rw [Go.WideShapes.add_plain, Nat.zero_add] at c4
    have c5 := hc (j * 7 + 5) _ ((colv_at l j 5 hj (by omega)).trans rfl)
    rw [Go.WideShapes.add_plain, Nat.zero_add] at c5
    have c6 := hc (j * 7 + 6) _ ((colv_at l j 6 hj (by omega)).trans rfl)
    rw [Go.WideShapes.add_plain, Nat.zero_add] at c6
    exact ⟨l[j].A, l[j].n, l[j].d, c0, c1, c2, c3, c4, c5, c6, hat.1, hat.2⟩
theorem pls_of {H : Nat → Prop} {V : Value} {l : List PlV} {A' : Option Addr} {n' c' : Nat} (r : OwnR 3 PlV.cells PlV.at_ 66 base H V l w) (hV : V = .slice A' n' c') : SlOf 3 PlAt w A' n' c' (l.map (·.p)) := by
  rcases r.own.2 with ⟨hv, h0⟩ | ⟨b, cap, cur, hv, hbg, hgg, hnc, hm, _⟩
  · have e : l = [] := List.length_eq_zero_iff.1 h0
    subst e
    rw [hV] at hv
    injection hv with e1 e2 e3
    subst e1; subst e2; subst e3
    exact SlOf.none_ _ _ _
  · have hc := fun j u hu => r.own.cells (g := b) (by rw [hv]; rfl) j u hu
    rw [hV] at hv
    injection hv with e1 e2 e3
    subst e1; subst e2; subst e3
    unfold maxLen at hm
    refine ⟨hnc, hm, by rw [List.length_map], fun _ => ⟨b, 0, rfl, fun j hj => ?_⟩⟩
    have e : (l.map (·.p)).getD j default = l[j].p := by simp [List.getD, hj]
    have hat := (r.held l[j] (List.getElem_mem hj)).now
    rw [e, Nat.zero_add]
    have c0 := hc (j * 3 + 0) _ ((plv_at l j 0 hj (by omega)).trans rfl)
    rw [Go.WideShapes.add_plain, Nat.zero_add] at c0
    have c1 := hc (j * 3 + 1) _ ((plv_at l j 1 hj (by omega)).trans rfl)
    rw [Go.WideShapes.add_plain, Nat.zero_add] at c1
    have c2 := hc (j * 3 + 2) _ ((plv_at l j 2 hj (by omega)).trans rfl)
    rw [Go.WideShapes.add_plain, Nat.zero_add] at c2
    exact ⟨l[j].A, l[j].n, l[j].d, c0, c1, c2, hat.1, hat.2.1, hat.2.2⟩
set_option maxHeartbeats 1000000 in
theorem tks_of {H : Nat → Prop} {V : Value} {l : List TkV} {A' : Option Addr} {n' c' : Nat} (r : OwnR 14 TkV.cells TkV.at_ 59 base H V l w) (hV : V = .slice A' n' c') : SlOf 14 TkAt w A' n' c' (l.map (·.t)) := by
  rcases r.own.2 with ⟨hv, h0⟩ | ⟨b, cap, cur, hv, hbg, hgg, hnc, hm, _⟩
  · have e : l = [] := List.length_eq_zero_iff.1 h0
    subst e
    rw [hV] at hv
    injection hv with e1 e2 e3
    subst e1; subst e2; subst e3
    exact SlOf.none_ _ _ _
  · have hc := fun j u hu => r.own.cells (g := b) (by rw [hv]; rfl) j u hu
    rw [hV] at hv
    injection hv with e1 e2 e3
    subst e1; subst e2; subst e3
    unfold maxLen at hm
    refine ⟨hnc, hm, by rw [List.length_map], fun _ => ⟨b, 0, rfl, fun j hj => ?_⟩⟩
    have e : (l.map (·.t)).getD j default = l[j].t := by simp [List.getD, hj]
    have hat := (r.held l[j] (List.getElem_mem hj)).now
    rw [e, Nat.zero_add]
    have c0 := hc (j * 14 + 0) _ ((tkv_at l j 0 hj (by omega)).trans rfl)
    rw [Go.WideShapes.add_plain, Nat.zero_add] at c0
    have c1 := hc (j * 14 + 1) _ ((tkv_at l j 1 hj (by omega)).trans rfl)
    rw [Go.WideShapes.add_plain, Nat.zero_add] at c1
    have c2 := hc (j * 14 + 2) _ ((tkv_at l j 2 hj (by omega)).trans rfl)
    rw [Go.WideShapes.add_plain, Nat.zero_add] at c2
    have c3 := hc (j * 14 + 3) _ ((tkv_at l j 3 hj (by omega)).trans rfl)
    rw [Go.WideShapes.add_plain, Nat.zero_add] at c3
    have c4 := hc (j * 14 + 4) _ ((tkv_at l j 4 hj (by omega)).trans rfl)
    rw [Go.WideShapes.add_plain, Nat.zero_add] at c4
    have c5 := hc (j * 14 + 5) _ ((tkv_at l j 5 hj (by omega)).trans rfl)
    rw [Go.WideShapes.add_plain, Nat.zero_add] at c5
    have c6 := hc (j * 14 + 6) _ ((tkv_at l j 6 hj (by omega)).trans rfl)
    rw [Go.WideShapes.add_plain, Nat.zero_add] at c6
    have c7 := hc (j * 14 + 7) _ ((tkv_at l j 7 hj (by omega)).trans rfl)
    rw [Go.WideShapes.add_plain, Nat.zero_add] at c7
    have c8 := hc (j * 14 + 8) _ ((tkv_at l j 8 hj (by omega)).trans rfl)
    rw [Go.WideShapes.add_plain, Nat.zero_add] at c8
    have c9 := hc (j * 14 + 9) _ ((tkv_at l j 9 hj (by omega)).trans rfl)
    rw [Go.WideShapes.add_plain, Nat.zero_add] at c9
    have c10 := hc (j * 14 + 10) _ ((tkv_at l j 10 hj (by omega)).trans rfl)
    rw [Go.WideShapes.add_plain, Nat.zero_add] at c10
    have c11 := hc (j * 14 + 11) _ ((tkv_at l j 11 hj (by omega)).trans rfl)
    rw [Go.WideShapes.add_plain, Nat.zero_add] at c11
    have c12 := hc (j * 14 + 12) _ ((tkv_at l j 12 hj (by omega)).trans rfl)
    rw [Go.WideShapes.add_plain, Nat.zero_add] at c12
    have c13 := hc (j * 14 + 13) _ ((tkv_at l j 13 hj (by omega)).trans rfl)
    rw [Go.WideShapes.add_plain, Nat.zero_add] at c13
    exact ⟨_, _, _, _, _, _, _, _, _, _, _, _, _, _, _, c0, c1, c2, c3, c4, c5, c6, c7, c8, c9, c10, c11, c12, c13, hat.vars, hat.guard, hat.ins, hat.outs, hat.cancel, hat.i5, hat.i6, hat.i9, hat.i10, hat.i11, hat.i12, hat.i13⟩
/-- What the rows read, whatever the parser's block does. -/
theorem NAt.held (N : NAt T en g A c base h L1 L2 L3 s w) : (HeldH (only g) w fun W => Cols W h.A1 h.n1 h.c1 s.cols) ∧ (HeldH (only g) w fun W => SlOf 3 PlAt W h.A2 h.n2 h.c2 s.pls) ∧ HeldH (only g) w fun W => SlOf 14 TkAt W h.A3 h.n3 h.c3 s.tks := by
  refine ⟨fun W a => ?_, fun W a => ?_, fun W a => ?_⟩
  · have r := N.r1.keep a fun i _ e => ⟨.inr (.inl e), by rw [show i = g from e]; exact N.ne1⟩
    have := cols_of r rfl
    rw [N.e1]; exact this
  · have r := N.r2.keep a fun i _ e => ⟨.inr (.inl e), by rw [show i = g from e]; exact N.ne2⟩
    have := pls_of r rfl
    rw [N.e2]; exact this
  · have r := N.r3.keep a fun i _ e => ⟨.inr (.inl e), by rw [show i = g from e]; exact N.ne3⟩
    have := tks_of r rfl
    rw [N.e3]; exact this
theorem NAt.fcol (N : NAt T en g A c base h L1 L2 L3 s w) {W : World} (a : AgH (only g) w W) : Finds T en g A c h s 127 (findCol s) W := finds_col W (N.held.1.go a)
theorem NAt.fpl (N : NAt T en g A c base h L1 L2 L3 s w) {W : World} (a : AgH (only g) w W) : Finds T en g A c h s 73 (findPl s) W := finds_pl W (N.held.2.1.go a)
theorem NAt.ftk (N : NAt T en g A c base h L1 L2 L3 s w) {W : World} (a : AgH (only g) w W) : Finds T en g A c h s 132 (findTk s) W := finds_tk W (N.held.2.2.go a)
theorem NAt.from (N : NAt T en g A c base h L1 L2 L3 s w) (x : Int) (hx : I64 x) : NAt T en g A c base { h with f := x } L1 L2 L3 { s with from_ := x } (w.setCell ⟨g, 8, none⟩ (.int .i64 x)) ∧ AgH (only g) w (w.setCell ⟨g, 8, none⟩ (.int .i64 x)) := by
  have a : AgH (only g) w (w.setCell ⟨g, 8, none⟩ (.int .i64 x)) := (AgH.refl (only g) _).setCell (.inl rfl) _
  refine ⟨⟨N.blk.set8 x, N.at_, N.small, N.gb, Nat.le_trans N.lb a.size, ?_, ?_, N.e1, N.e2, N.e3, rfl, N.e5, ?_, ?_, ?_, ?_, N.a12, N.a13, N.a14, N.a23, N.a24, N.a34, hx, N.i5⟩, a⟩
  · exact N.toks.keep a fun i _ e => .inl e
  · exact N.tab.keep a fun i _ e => .inl e
  · exact N.r1.keep a fun i _ e => ⟨.inr (.inl e), by rw [show i = g from e]; exact N.ne1⟩
  · exact N.r2.keep a fun i _ e => ⟨.inr (.inl e), by rw [show i = g from e]; exact N.ne2⟩
  · exact N.r3.keep a fun i _ e => ⟨.inr (.inl e), by rw [show i = g from e]; exact N.ne3⟩
  · exact own_keep N.r4 a fun i hi e => N.ne4 (by rw [hi]; exact congrArg some e)
theorem NAt.to (N : NAt T en g A c base h L1 L2 L3 s w) (x : Int) (hx : I64 x) : NAt T en g A c base { h with t := x } L1 L2 L3 { s with to_ := x } (w.setCell ⟨g, 9, none⟩ (.int .i64 x)) ∧ AgH (only g) w (w.setCell ⟨g, 9, none⟩ (.int .i64 x)) := by
  have a : AgH (only g) w (w.setCell ⟨g, 9, none⟩ (.int .i64 x)) := (AgH.refl (only g) _).setCell (.inl rfl) _
  refine ⟨⟨N.blk.set9 x, N.at_, N.small, N.gb, Nat.le_trans N.lb a.size, ?_, ?_, N.e1, N.e2, N.e3, N.e4, rfl, ?_, ?_, ?_, ?_, N.a12, N.a13, N.a14, N.a23, N.a24, N.a34, N.i4, hx⟩, a⟩
  · exact N.toks.keep a fun i _ e => .inl e
  · exact N.tab.keep a fun i _ e => .inl e
  · exact N.r1.keep a fun i _ e => ⟨.inr (.inl e), by rw [show i = g from e]; exact N.ne1⟩
  · exact N.r2.keep a fun i _ e => ⟨.inr (.inl e), by rw [show i = g from e]; exact N.ne2⟩
  · exact N.r3.keep a fun i _ e => ⟨.inr (.inl e), by rw [show i = g from e]; exact N.ne3⟩
  · exact own_keep N.r4 a fun i hi e => N.ne4 (by rw [hi]; exact congrArg some e)
end
end Go.Proofs.YtkpjhjoopdbkaaaGreatDoor
