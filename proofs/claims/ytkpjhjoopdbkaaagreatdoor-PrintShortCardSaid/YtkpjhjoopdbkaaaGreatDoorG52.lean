/- Joined: Plain: a net's tokens, parsed again: a task, the net. A builder of its own (XExprW without names). Printed by gen_prW.py. -/
import Derived.Test.YtkpjhjoopdbkaaaGreatDoorG45
import Derived.Test.YtkpjhjoopdbkaaaGreatDoorG23
import Derived.Test.YtkpjhjoopdbkaaaGreatDoorG25
import Derived.Lib.Builder
import Derived.Lib.AppendStr
import Derived.Lib.UnsafeStr
import Derived.Laws.Externs
import Derived.Defers
namespace Go.Proofs.YtkpjhjoopdbkaaaGreatDoor
section
variable {K : List Kt} {s0 : Ps} {u : Ts} {t t' : Tk} {l b : List Kt} {w : ByteArray}
theorem fold_ins (ars : List Ar) : ∀ t : Tk, ars.foldl (fun (t : Tk) a => { t with ins := t.ins ++ [a] }) t = { t with ins := t.ins ++ ars } := by
  induction ars with
  | nil => intro t; simp
  | cons a r ih => intro t; rw [List.foldl_cons, ih]; simp
theorem fold_outs (ars : List Ar) : ∀ t : Tk, ars.foldl (fun (t : Tk) a => { t with outs := t.outs ++ [a] }) t = { t with outs := t.outs ++ ars } := by
  induction ars with
  | nil => intro t; simp
  | cons a r ih => intro t; rw [List.foldl_cons, ih]; simp
set_option maxHeartbeats 2000000 in
/-- All clauses of a task. -/
theorem tz_task {B : Nat} (hcn : (s0.cols.map (·.name)).Nodup) (nm : ∀ k : Int, 0 ≤ k ∧ k < (s0.cols.length : Int) → nmB (colB s0.cols k)) (hpn : (s0.pls.map (·.name)).Nodup) (nmp : ∀ k : Int, 0 ≤ k ∧ k < (s0.pls.length : Int) → nmB (plB s0.pls k)) (g : TkG B s0.cols.length s0.pls.length t)
    (h : Tz K s0 [⟨#[118, 97, 114]⟩] u (Tk.named t.name) (((clausesZ s0.cols s0.pls t).map semiK).flatten ++ l)) :
    ∃ W u', (∀ m, clausesP K ((clausesZ s0.cols s0.pls t).length + m) u = clausesP K m u') ∧ Tz K s0 W u' t l := by
  have hN := tk_nm g
  obtain ⟨x, vs, gd, jn, sp, is, os, cs, af, m0, m1, m2⟩ := t
  have gv := g.vars
  have gvn := g.vnd
  have gg := g.guard
  have gi := g.ins
  have go := g.outs
  have gc := g.cancel
  have gj := g.join
  have gs := g.split
  have ga := g.after
  have g0 := g.m0
  have g1 := g.m1
  have g2 := g.m2
  have gn := g.gneed
  clear g
  simp only at gv gvn gg gi go gc gj gs ga g0 g1 g2 gn
  have hN1 : NmOk (vs.map (fun v : Vr => v.name)) := hN
  unfold clausesZ at h ⊢
  simp only [List.map_append, List.flatten_append, List.append_assoc] at h
  simp only [List.length_append]
  -- variables
  obtain ⟨u1, e1, h1⟩ := tz_vars hcn nm vs u (Tk.named x) gv (by simpa [Tk.named] using gvn) h
  have q1 : ({ Tk.named x with vars := (Tk.named x).vars ++ vs } : Tk) = ⟨x, vs, .mk 1 1 [], 1, 1, [], [], [], 0, 0, 0, 0⟩ := by simp [Tk.named]
  rw [q1] at h1
  -- the guard
  obtain ⟨k2, u2, e2, f2, h2⟩ := tz_when (x := gd) rfl (by exact hN) (by show Good_ (vs.map (·.name)).length gd; rw [List.length_map]; exact gg) gn h1
  -- join and split
  obtain ⟨k3, u3, e3, f3, h3⟩ := tz_kind (word := ⟨#[106, 111, 105, 110]⟩) gj (by decide +kernel) (by decide) (by simp) (fun k => (⟨x, vs, gd, k, 1, [], [], [], 0, 0, 0, 0⟩ : Tk)) rfl (fun _ => rfl) (fun z => by unfold clauseP; rw [if_neg (by decide), if_neg (by decide), if_pos rfl]) h2
  obtain ⟨k4, u4, e4, f4, h4⟩ := tz_kind (word := ⟨#[115, 112, 108, 105, 116]⟩) gs (by decide +kernel) (by decide) (by simp) (fun k => (⟨x, vs, gd, jn, k, [], [], [], 0, 0, 0, 0⟩ : Tk)) rfl (fun _ => rfl) (fun z => by unfold clauseP; rw [if_neg (by decide), if_neg (by decide), if_neg (by decide), if_pos rfl]) h3
  -- arcs
  obtain ⟨u5, e5, h5⟩ := tz_arcs (B := B) (names := vs.map (fun v : Vr => v.name)) (W := [⟨#[118, 97, 114]⟩, ⟨#[119, 104, 101, 110]⟩, ⟨#[106, 111, 105, 110]⟩, ⟨#[115, 112, 108, 105, 116]⟩, ⟨#[105, 110]⟩, ⟨#[111, 117, 116]⟩, ⟨#[99, 97, 110, 99, 101, 108]⟩]) (word := ⟨#[105, 110, 32]⟩) (wk := ⟨#[105, 110]⟩) hN1 hpn nmp (by decide +kernel) (by decide) (by decide +kernel) (by simp) (fun t a => { t with ins := t.ins ++ [a] }) (fun _ _ => rfl) (fun t z => by unfold clauseP; rw [if_neg (by decide), if_neg (by decide), if_neg (by decide), if_neg (by decide), if_pos rfl]) is u4 _ rfl (by rw [List.length_map]; exact gi) (h4.wide (by simp))
  obtain ⟨u6, e6, h6⟩ := tz_arcs (B := B) (names := vs.map (fun v : Vr => v.name)) (word := ⟨#[111, 117, 116, 32]⟩) (wk := ⟨#[111, 117, 116]⟩) hN1 hpn nmp (by decide +kernel) (by decide) (by decide +kernel) (by simp) (fun t a => { t with outs := t.outs ++ [a] }) (fun _ _ => rfl) (fun t z => by unfold clauseP; rw [if_neg (by decide), if_neg (by decide), if_neg (by decide), if_neg (by decide), if_neg (by decide), if_pos rfl]) os u5 _ (by rw [fold_ins]; rfl) (by rw [List.length_map]; exact go) h5
  obtain ⟨u7, e7, h7⟩ := tz_cancel hpn nmp (by simp) cs u6 _ gc h6
  rw [fold_outs, fold_ins] at h7
  simp only [List.nil_append] at h7
  obtain ⟨k8, u8, e8, f8, h8⟩ := tz_after ga rfl (by simp) h7
  obtain ⟨k9, u9, e9, f9, h9⟩ := tz_many g0 g1 g2 rfl rfl rfl (by simp) h8
  refine ⟨_, u9, fun m => ?_, h9⟩
  have n2 : (whenZ ⟨x, vs, gd, jn, sp, is, os, cs, af, m0, m1, m2⟩).length = k2 := f2.symm
  have n8 : (afterZ ⟨x, vs, gd, jn, sp, is, os, cs, af, m0, m1, m2⟩).length = k8 := f8.symm
  have n9 : (manyZ ⟨x, vs, gd, jn, sp, is, os, cs, af, m0, m1, m2⟩).length = k9 := f9.symm
  rw [n2, n8, n9, ← f3, ← f4]
  simp only [List.length_map]
  rw [show vs.length + k2 + k3 + k4 + is.length + os.length + cs.length + k8 + k9 + m = vs.length + (k2 + (k3 + (k4 + (is.length + (os.length + (cs.length + (k8 + (k9 + m)))))))) by omega]
  rw [e1, e2, e3, e4, e5, e6, e7, e8, e9]
theorem flatK_len {α : Type} (k : α → List Kt) (hk : ∀ x, 1 ≤ (k x).length) : ∀ l : List α, l.length ≤ (l.map k).flatten.length
  | [] => Nat.zero_le _
  | a :: r => by
    have ih := flatK_len k hk r
    have := hk a
    simp only [List.map_cons, List.flatten_cons, List.length_append, List.length_cons]
    omega
/-- A task. -/
theorem rd_task {B : Nat} {s : Ps} {pre rest : List Tk} (hs : s.tks = pre) (hcn : (s.cols.map (·.name)).Nodup) (nm : ∀ k : Int, 0 ≤ k ∧ k < (s.cols.length : Int) → nmB (colB s.cols k)) (hpn : (s.pls.map (·.name)).Nodup) (nmp : ∀ k : Int, 0 ≤ k ∧ k < (s.pls.length : Int) → nmB (plB s.pls k)) (nd : ((pre ++ t :: rest).map (·.name)).Nodup) (g : TkG B s.cols.length s.pls.length t)
    (h : At_ K s ((1, t.name) :: ((3, ⟨#[123]⟩) :: (((clausesZ s.cols s.pls t).map semiK).flatten ++ ((3, ⟨#[125]⟩) :: l))))) :
    ∃ s', taskS K s = { s' with tks := pre ++ [t] } ∧ At_ K s' l ∧ s'.cols = s.cols ∧ s'.pls = s.pls := by
  obtain ⟨nd1, _⟩ := nodup_mid (fun z : Tk => z.name) nd
  have hh : hadT (findTk s) t.name = false := by
    show hadT (findN (s.tks.map (·.name))) t.name = false
    rw [hs]; exact had_no nd1
  obtain ⟨v, hv⟩ : ∃ v : Ps, v = { s with vars := [] } := ⟨_, rfl⟩
  have hat : At_ K v ((1, t.name) :: ((3, ⟨#[123]⟩) :: (((clausesZ s.cols s.pls t).map semiK).flatten ++ ((3, ⟨#[125]⟩) :: l)))) := by rw [hv]; exact ⟨h.err, h.drop⟩
  have hvn : nameV K v = nameV K s := by rw [hv]; rfl
  obtain ⟨g1, v1⟩ := rd_fresh (has := hadT (findTk s)) g.name hat hh
  have g2 := g1.trans (rd_want g1.at_)
  obtain ⟨y, hy⟩ : ∃ y, y = wantP K ⟨#[123]⟩ (freshS K (hadT (findTk s)) v) := ⟨_, rfl⟩
  rw [← hy] at g2
  have hyc : y.cols = s.cols := by rw [g2.cols, hv]
  have hyp : y.pls = s.pls := by rw [g2.pls, hv]
  have hyv : y.vars = [] := by rw [g2.vars, hv]
  have hyt : y.tks = pre := by obtain ⟨n, e, _⟩ := g2; rw [e, hv]; exact hs
  obtain ⟨W, u', e, hz⟩ := tz_task (K := K) (s0 := y) (u := ⟨Tk.named t.name, [], y⟩) (l := (3, ⟨#[125]⟩) :: l) (t := t) (B := B) (by rw [hyc]; exact hcn) (by rw [hyc]; exact nm) (by rw [hyp]; exact hpn) (by rw [hyp]; exact nmp) (by rw [hyc, hyp]; exact g)
    ⟨rfl, by simp, by rw [hyc, hyp]; exact g2.at_, by
      show y = _
      have : (Tk.named t.name).names = [] := rfl
      rw [this]
      exact (congrArg (fun z : List ByteArray => ({ y with vars := z } : Ps)) hyv)⟩
  have hlen := g2.at_.len
  have hfl := flatK_len semiK (fun z => by unfold semiK; simp) (clausesZ s.cols s.pls t)
  rw [List.length_append] at hlen
  rw [hyc, hyp] at e
  have hfuel : ∃ m, K.length + 1 = (clausesZ s.cols s.pls t).length + (m + 1) := ⟨K.length - (clausesZ s.cols s.pls t).length, by omega⟩
  obtain ⟨m, hm⟩ := hfuel
  have hend : clausesP K (m + 1) u' = { u' with s := stepP u'.s } := clauses_take m u' hz.at_.err (take_yes hz.at_.sign)
  have gl := at_step hz.at_
  refine ⟨stepP u'.s, ?_, gl.at_, ?_, ?_⟩
  · unfold taskS
    simp only
    rw [← hv, ← hvn, v1, ← hy, hm, e, hend]
    simp only
    rw [hz.tk]
    have : u'.s.tks = pre := by rw [hz.rest]; exact hyt
    show ({ stepP u'.s with tks := u'.s.tks ++ [t] } : Ps) = _
    rw [this]
  · show u'.s.cols = _
    rw [hz.rest]; exact hyc
  · show u'.s.pls = _
    rw [hz.rest]; exact hyp
/-- Colours, one after the other. -/
theorem run_cols {B : Nat} {L : List Col} (hL : ∀ i, i < L.length → ColG B i (L.getD i default)) (nd : (L.map (·.name)).Nodup) (nm : ∀ k : Int, 0 ≤ k ∧ k < (L.length : Int) → nmB (colB L k)) : ∀ (rest pre : List Col) (s : Ps), L = pre ++ rest → s.cols = pre → s.pls = [] → s.tks = [] → At_ K s ((rest.map (colK L)).flatten ++ l) →
    ∃ s', (∀ m, declsP K (rest.length + m) s = declsP K m s') ∧ At_ K s' l ∧ s'.cols = L ∧ s'.pls = [] ∧ s'.tks = []
  | [], pre, s, e, h1, h2, h3, h => ⟨s, fun m => by simp, by simpa using h, by rw [h1, e, List.append_nil], h2, h3⟩
  | c :: rest, pre, s, e, h1, h2, h3, h => by
    have hc : ColG B pre.length c := by
      have := hL pre.length (by rw [e, List.length_append, List.length_cons]; omega)
      rw [e, List.getD, List.getElem?_append_right (Nat.le_refl _), Nat.sub_self] at this
      exact this
    have h' : At_ K s ((1, ⟨#[99, 111, 108, 111, 117, 114]⟩) :: ((1, c.name) :: ((3, ⟨#[61]⟩) :: (memK L c ++ ((3, ⟨#[59]⟩) :: ((rest.map (colK L)).flatten ++ l)))))) := by
      have e1 : ((c :: rest).map (colK L)).flatten ++ l = (1, ⟨#[99, 111, 108, 111, 117, 114]⟩) :: ((1, c.name) :: ((3, ⟨#[61]⟩) :: (memK L c ++ ((3, ⟨#[59]⟩) :: ((rest.map (colK L)).flatten ++ l))))) := by simp [colK]
      rw [e1] at h
      exact h
    have hse := h'.word (by decide +kernel)
    have b1 := at_step h'
    obtain ⟨s', c1, c2⟩ := rd_colour (s := stepP s) (pre := pre) (rest := rest) (c := c) (B := B) h1 (by rw [← e]; exact nd) (fun k hk => by rw [← e]; exact nm k ⟨hk.1, by rw [e, List.length_append, List.length_cons]; omega⟩) hc (by rw [← e]; exact b1.at_)
    have hp : partS K s = { s' with cols := pre ++ [c] } := by unfold partS; rw [if_pos (take_yes hse), c1]
    have hd : ∀ m, declsP K (m + 1) s = declsP K m { s' with cols := pre ++ [c] } := fun m => by rw [decls_one m s h'.err (take_no hse (by decide)), hp]
    obtain ⟨n, en, hat⟩ := c2
    obtain ⟨s2, r1, r2⟩ := run_cols hL nd nm rest (pre ++ [c]) { s' with cols := pre ++ [c] } (by rw [e]; simp) rfl (by show s'.pls = []; rw [en]; exact h2) (by show s'.tks = []; rw [en]; exact h3) ⟨hat.err, hat.drop⟩
    exact ⟨s2, fun m => by rw [List.length_cons, show rest.length + 1 + m = (rest.length + m) + 1 by omega, hd, r1], r2⟩
theorem run_pls {B : Nat} {L : List Col} {P : List Pl} (ndc : (L.map (·.name)).Nodup) (nm : ∀ k : Int, 0 ≤ k ∧ k < (L.length : Int) → nmB (colB L k)) (hP : ∀ p ∈ P, PlG B L.length p) (nd : (P.map (·.name)).Nodup) : ∀ (rest pre : List Pl) (s : Ps), P = pre ++ rest → s.cols = L → s.pls = pre → s.tks = [] → At_ K s ((rest.map (plK L)).flatten ++ l) →
    ∃ s', (∀ m, declsP K (rest.length + m) s = declsP K m s') ∧ At_ K s' l ∧ s'.cols = L ∧ s'.pls = P ∧ s'.tks = []
  | [], pre, s, e, h1, h2, h3, h => ⟨s, fun m => by simp, by simpa using h, h1, by rw [h2, e, List.append_nil], h3⟩
  | p :: rest, pre, s, e, h1, h2, h3, h => by
    have hp := hP p (by rw [e]; simp)
    have h' : At_ K s ((1, ⟨#[112, 108, 97, 99, 101]⟩) :: ((1, p.name) :: ((3, ⟨#[58]⟩) :: ((1, colB L p.colour) :: (firstK p ++ ((3, ⟨#[59]⟩) :: ((rest.map (plK L)).flatten ++ l))))))) := by
      have e1 : ((p :: rest).map (plK L)).flatten ++ l = (1, ⟨#[112, 108, 97, 99, 101]⟩) :: ((1, p.name) :: ((3, ⟨#[58]⟩) :: ((1, colB L p.colour) :: (firstK p ++ ((3, ⟨#[59]⟩) :: ((rest.map (plK L)).flatten ++ l)))))) := by simp [plK]
      rw [e1] at h
      exact h
    have hse := h'.word (by decide +kernel)
    have b1 := at_step h'
    obtain ⟨s', c1, c2⟩ := rd_place (s := stepP s) (pre := pre) (rest := rest) (p := p) (B := B) (L := L) h2 h1 ndc nm (by rw [← e]; exact nd) hp b1.at_
    have hpp : partS K s = { s' with pls := pre ++ [p] } := by unfold partS; rw [if_neg (by rw [take_no hse (by decide)]; decide), if_pos (take_yes hse), c1]
    have hd : ∀ m, declsP K (m + 1) s = declsP K m { s' with pls := pre ++ [p] } := fun m => by rw [decls_one m s h'.err (take_no hse (by decide)), hpp]
    obtain ⟨n, en, hat⟩ := c2
    obtain ⟨s2, r1, r2⟩ := run_pls ndc nm hP nd rest (pre ++ [p]) { s' with pls := pre ++ [p] } (by rw [e]; simp) (by show s'.cols = L; rw [en]; exact h1) rfl (by show s'.tks = []; rw [en]; exact h3) ⟨hat.err, hat.drop⟩
    exact ⟨s2, fun m => by rw [List.length_cons, show rest.length + 1 + m = (rest.length + m) + 1 by omega, hd, r1], r2⟩
theorem run_tks {B : Nat} {L : List Col} {P : List Pl} {T : List Tk} (ndc : (L.map (·.name)).Nodup) (nm : ∀ k : Int, 0 ≤ k ∧ k < (L.length : Int) → nmB (colB L k)) (ndp : (P.map (·.name)).Nodup) (nmp : ∀ k : Int, 0 ≤ k ∧ k < (P.length : Int) → nmB (plB P k)) (hT : ∀ t ∈ T, TkG B L.length P.length t) (nd : (T.map (·.name)).Nodup) : ∀ (rest pre : List Tk) (s : Ps), T = pre ++ rest → s.cols = L → s.pls = P → s.tks = pre → At_ K s ((rest.map (tkK L P)).flatten ++ l) →
    ∃ s', (∀ m, declsP K (rest.length + m) s = declsP K m s') ∧ At_ K s' l ∧ s'.cols = L ∧ s'.pls = P ∧ s'.tks = T
  | [], pre, s, e, h1, h2, h3, h => ⟨s, fun m => by simp, by simpa using h, h1, h2, by rw [h3, e, List.append_nil]⟩
  | t :: rest, pre, s, e, h1, h2, h3, h => by
    have ht := hT t (by rw [e]; simp)
    have h' : At_ K s ((1, ⟨#[116, 97, 115, 107]⟩) :: ((1, t.name) :: ((3, ⟨#[123]⟩) :: (((clausesZ L P t).map semiK).flatten ++ ((3, ⟨#[125]⟩) :: ((rest.map (tkK L P)).flatten ++ l)))))) := by
      have e1 : ((t :: rest).map (tkK L P)).flatten ++ l = (1, ⟨#[116, 97, 115, 107]⟩) :: ((1, t.name) :: ((3, ⟨#[123]⟩) :: (((clausesZ L P t).map semiK).flatten ++ ((3, ⟨#[125]⟩) :: ((rest.map (tkK L P)).flatten ++ l))))) := by simp [tkK]
      rw [e1] at h
      exact h
    have hse := h'.word (by decide +kernel)
    have b1 := at_step h'
    have q1 : (stepP s).cols = L := h1
    have q2 : (stepP s).pls = P := h2
    obtain ⟨s', c1, c2, c3, c4⟩ := rd_task (s := stepP s) (pre := pre) (rest := rest) (t := t) (B := B) (l := (rest.map (tkK L P)).flatten ++ l) h3 (by rw [q1]; exact ndc) (by rw [q1]; exact nm) (by rw [q2]; exact ndp) (by rw [q2]; exact nmp) (by rw [← e]; exact nd) (by rw [q1, q2]; exact ht) (by rw [q1, q2]; exact b1.at_)
    have hpp : partS K s = { s' with tks := pre ++ [t] } := by unfold partS; rw [if_neg (by rw [take_no hse (by decide)]; decide), if_neg (by rw [take_no hse (by decide)]; decide), if_pos (take_yes hse), c1]
    have hd : ∀ m, declsP K (m + 1) s = declsP K m { s' with tks := pre ++ [t] } := fun m => by rw [decls_one m s h'.err (take_no hse (by decide)), hpp]
    obtain ⟨s2, r1, r2⟩ := run_tks ndc nm ndp nmp hT nd rest (pre ++ [t]) { s' with tks := pre ++ [t] } (by rw [e]; simp) (by show s'.cols = L; rw [c3]; exact q1) (by show s'.pls = P; rw [c4]; exact q2) rfl ⟨c2.err, c2.drop⟩
    exact ⟨s2, fun m => by rw [List.length_cons, show rest.length + 1 + m = (rest.length + m) + 1 by omega, hd, r1], r2⟩
end
/-- What was written of a parsed net is parsed as it was. -/
theorem net_back {B : Nat} {s : Ps} (g : NetG B s) : (netP (netK (ntOf s))).err = 0 ∧ ntOf (netP (netK (ntOf s))) = ntOf s := by
  obtain ⟨K, hK⟩ : ∃ K, K = netK (ntOf s) := ⟨_, rfl⟩
  rw [← hK]
  have h0 : At_ K Ps.zero ((s.cols.map (colK s.cols)).flatten ++ ((s.pls.map (plK s.cols)).flatten ++ ((s.tks.map (tkK s.cols s.pls)).flatten ++ endK (ntOf s)))) := by
    refine ⟨rfl, ?_⟩
    show K.drop 0 = _
    rw [List.drop_zero, hK]
    unfold netK ntOf
    simp only [List.append_assoc]
  have hlen := h0.len
  have l1 := flatK_len (colK s.cols) (fun c => by unfold colK; simp) s.cols
  have l2 := flatK_len (plK s.cols) (fun c => by unfold plK; simp) s.pls
  have l3 := flatK_len (tkK s.cols s.pls) (fun c => by unfold tkK; simp) s.tks
  simp only [List.length_append] at hlen
  have nm : ∀ k : Int, 0 ≤ k ∧ k < (s.cols.length : Int) → nmB (colB s.cols k) := fun k hk => col_nm g.net hk
  have nmp : ∀ k : Int, 0 ≤ k ∧ k < (s.pls.length : Int) → nmB (plB s.pls k) := fun k hk => pl_nm g.net hk
  obtain ⟨s1, e1, a1, c1, p1, t1⟩ := run_cols (K := K) g.net.cols g.net.cnd nm s.cols [] Ps.zero rfl rfl rfl rfl h0
  obtain ⟨s2, e2, a2, c2, p2, t2⟩ := run_pls (K := K) g.net.cnd nm g.net.pls g.net.pnd s.pls [] s1 rfl c1 p1 t1 a1
  obtain ⟨s3, e3, a3, c3, p3, t3⟩ := run_tks (K := K) g.net.cnd nm g.net.pnd nmp (fun t ht => (g.net.tks t ht).1) g.net.tnd s.tks [] s2 rfl c2 p2 t2 a2
  have a3' : At_ K s3 ((1, ⟨#[102, 114, 111, 109]⟩) :: ((1, plB s.pls s.from_) :: ((3, ⟨#[59]⟩) :: ((1, ⟨#[116, 111]⟩) :: ((1, plB s.pls s.to_) :: [(3, ⟨#[59]⟩)]))))) := a3
  obtain ⟨m, hm⟩ : ∃ m, K.length + 1 = s.cols.length + (s.pls.length + (s.tks.length + (m + 1))) := ⟨K.length - (s.cols.length + s.pls.length + s.tks.length), by omega⟩
  have b1 := at_step a3'
  have hd : declsP K (K.length + 1) Ps.zero = stepP s3 := by
    rw [hm, e1, e2, e3]
    exact decls_take m s3 a3'.err (take_yes (a3'.word (by decide +kernel)))
  obtain ⟨d, hdd⟩ : ∃ d, d = stepP s3 := ⟨_, rfl⟩
  rw [← hdd] at hd b1
  have hdc : d.cols = s.cols := by rw [hdd]; exact c3
  have hdp : d.pls = s.pls := by rw [hdd]; exact p3
  have hdt : d.tks = s.tks := by rw [hdd]; exact t3
  have f1 : findPl d (plB s.pls s.from_) = s.from_ := by
    show findN (d.pls.map (·.name)) _ = _
    rw [hdp]; exact find_pl g.net.pnd g.from_
  obtain ⟨b2, v2⟩ := rd_known (find := findPl d) (nmp _ g.from_) b1.at_ (by rw [f1]; exact g.from_.1)
  obtain ⟨b, hb⟩ : ∃ b : Ps, b = { knownS K (findPl d) d with from_ := knownV K (findPl d) d } := ⟨_, rfl⟩
  have ab : At_ K b ((3, ⟨#[59]⟩) :: ((1, ⟨#[116, 111]⟩) :: ((1, plB s.pls s.to_) :: [(3, ⟨#[59]⟩)]))) := by rw [hb]; exact ⟨b2.at_.err, b2.at_.drop⟩
  have b3 := rd_want ab
  have b4 := b3.trans (rd_wantw b3.at_ (by decide +kernel))
  obtain ⟨a, ha⟩ : ∃ a, a = wantP K ⟨#[116, 111]⟩ (wantP K ⟨#[59]⟩ b) := ⟨_, rfl⟩
  rw [← ha] at b4
  have hbp : b.pls = s.pls := by rw [hb]; exact b2.pls.trans hdp
  have hap : a.pls = s.pls := b4.pls.trans hbp
  have f2 : findPl a (plB s.pls s.to_) = s.to_ := by
    show findN (a.pls.map (·.name)) _ = _
    rw [hap]; exact find_pl g.net.pnd g.to_
  obtain ⟨b5, v5⟩ := rd_known (find := findPl a) (nmp _ g.to_) b4.at_ (by rw [f2]; exact g.to_.1)
  obtain ⟨z, hz⟩ : ∃ z : Ps, z = { knownS K (findPl a) a with to_ := knownV K (findPl a) a } := ⟨_, rfl⟩
  have az : At_ K z [(3, ⟨#[59]⟩)] := by rw [hz]; exact ⟨b5.at_.err, b5.at_.drop⟩
  have b6 := rd_want az
  have he : endsP K d = wantP K ⟨#[59]⟩ z := by
    unfold endsP
    simp only
    rw [← hb, ← ha, ← hz]
  obtain ⟨n6, e6, a6⟩ := b6
  obtain ⟨n5, e5, _⟩ := b5
  obtain ⟨n4, e4, _⟩ := b4
  obtain ⟨n2, e2', _⟩ := b2
  have hnet : netP K = wantP K ⟨#[59]⟩ z := by
    unfold netP
    rw [hd, he]
    unfold toldS
    rw [if_neg]
    have := congrArg List.length a6.drop
    rw [List.length_drop] at this
    simp at this
    omega
  rw [hnet]
  refine ⟨a6.err, ?_⟩
  rw [e6]
  unfold ntOf
  simp only
  have z1 : z.cols = s.cols := by rw [hz, e5, e4, hb, e2']; exact hdc
  have z2 : z.pls = s.pls := by rw [hz, e5]; exact hap
  have z3 : z.tks = s.tks := by rw [hz, e5, e4, hb, e2']; exact hdt
  have z4 : z.from_ = s.from_ := by rw [hz, e5, e4, hb, v2, f1]
  have z5 : z.to_ = s.to_ := by rw [hz, v5, f2]
  rw [z1, z2, z3, z4, z5]
end Go.Proofs.YtkpjhjoopdbkaaaGreatDoor
namespace Go.Proofs.YtkpjhjoopdbkaaaGreatDoor
open Go.RowKit
/-- The writer at b holds the bytes l; p: what its builder's first field holds. -/
structure BdAt (w : World) (B b : Nat) (p : Value) (l : List UInt8) (v : Value) : Prop where
  ge : B ≤ b
  hb : w.heap[b]? = some (.cells #[p, v] 90 (0, 0))
  own : w.ownsRow B 5 1 v l.length (Lib.byteCells l)
  ne : v.ownBlock ≠ some b
  nil_ : v = .slice none 0 0 ↔ l = []
theorem BdAt.lt {w : World} {B b : Nat} {p v : Value} {l : List UInt8} (h : BdAt w B b p l v) : b < w.heap.size := (Array.getElem?_eq_some_iff.1 h.hb).1
theorem BdAt.cells {w : World} {B b : Nat} {p v : Value} {l : List UInt8} (h : BdAt w B b p l v) : w.cell? ⟨b, 0, none⟩ = some p ∧ w.cell? ⟨b, 1, none⟩ = some v := by
  refine ⟨?_, ?_⟩ <;> (rw [cell_of_row _ _ _ _ _ _ h.hb]; rfl)
theorem BdAt.fro {w : World} {B b : Nat} {p v : Value} {l : List UInt8} (h : BdAt w B b p l v) (j : Nat) : w.frozen? ⟨b, j, none⟩ = false := by simp [World.frozen?, h.hb]
theorem BdAt.shape {w : World} {B b : Nat} {p v : Value} {l : List UInt8} (h : BdAt w B b p l v) : w.shape? b = some (90, 2) := by simp [World.shape?, h.hb]
theorem set_sameB {w : World} {g o t : Nat} {c : Array Value} {u : Value} (h : w.heap[g]? = some (.cells c t (0, 0))) : (w.setCell ⟨g, o, none⟩ u).heap[g]? = some (.cells (c.setIfInBounds o u) t (0, 0)) := by
  simp [World.setCell, Array.getElem?_modify, h]
theorem BdAt.used {w : World} {B b : Nat} {p v : Value} {l : List UInt8} (h : BdAt w B b p l v) (q : Value) : BdAt (w.setCell ⟨b, 0, none⟩ q) B b q l v := by
  refine ⟨h.ge, ?_, ?_, h.ne, h.nil_⟩
  · rw [set_sameB h.hb]; rfl
  · exact h.own.kept (w' := w.setCell ⟨b, 0, none⟩ q) (row := some b) ⟨rfl, rfl, rfl, Nat.le_of_eq (by simp [World.setCell]), fun k _ hk => Below.heap_setCell _ _ _ _ (fun e => hk (by simp [e]))⟩ (.inr h.ne)
theorem BdAt.put {w : World} {B b : Nat} {p v v' : Value} {l l' : List UInt8} (h : BdAt w B b p l v) {w2 : World} (hg : w.grownBy w2 v.ownBlock) (hown : w2.ownsRow B 5 1 v' l'.length (Lib.byteCells l')) (hn : v' = .slice none 0 0 ↔ l' = []) :
    BdAt (w2.setCell ⟨b, 1, none⟩ v') B b p l' v' := by
  have hb2 : w2.heap[b]? = some (.cells #[p, v] 90 (0, 0)) := (hg.block b h.lt (fun e => h.ne e.symm)).trans h.hb
  have hne : v'.ownBlock ≠ some b := Lib.ownBlock_ne hown hb2 (by decide)
  refine ⟨h.ge, ?_, ?_, hne, hn⟩
  · rw [set_sameB hb2]; rfl
  · exact hown.kept (w' := w2.setCell ⟨b, 1, none⟩ v') (row := some b) ⟨rfl, rfl, rfl, Nat.le_of_eq (by simp [World.setCell]), fun k _ hk => Below.heap_setCell _ _ _ _ (fun e => hk (by simp [e]))⟩ (.inr hne)
theorem BdAt.alloc {w : World} {B b : Nat} {p v : Value} {l : List UInt8} (h : BdAt w B b p l v) (o : Obj) : BdAt (w.alloc o) B b p l v :=
  ⟨h.ge, (heap_alloc_old w o h.lt).trans h.hb, h.own.alloc o, h.ne, h.nil_⟩
/-- What writing leaves as it was: all below B, and all but the writer and rows of bytes. -/
structure Bk (B b : Nat) (w w' : World) : Prop where
  below : Below B w w'
  keep : ∀ k, k < w.heap.size → k ≠ b → (∀ cs m, w.heap[k]? ≠ some (.cells cs 5 m)) → w'.heap[k]? = w.heap[k]?
theorem Bk.refl (B b : Nat) (w : World) : Bk B b w w := ⟨Below.refl _ _, fun _ _ _ _ => rfl⟩
theorem Bk.trans {B b : Nat} {w w1 w2 : World} (h : Bk B b w w1) (k : Bk B b w1 w2) : Bk B b w w2 :=
  ⟨h.below.trans k.below, fun i hi hb ht => by
    have e := h.keep i hi hb ht
    exact (k.keep i (Nat.lt_of_lt_of_le hi h.below.size) hb (by rw [e]; exact ht)).trans e⟩
theorem Bk.setCell {B b : Nat} {w w1 : World} (h : Bk B b w w1) (hB : B ≤ b) (j : Nat) (u : Value) : Bk B b w (w1.setCell ⟨b, j, none⟩ u) :=
  ⟨h.below.setCell (p := ⟨b, j, none⟩) hB u, fun i hi hb ht => (Below.heap_setCell _ _ _ _ (fun e => hb (by simp [e]))).trans (h.keep i hi hb ht)⟩
theorem Bk.alloc {B b : Nat} {w w1 : World} (h : Bk B b w w1) (hB : B ≤ w1.heap.size) (o : Obj) : Bk B b w (w1.alloc o) :=
  ⟨h.below.alloc hB o, fun i hi hb ht => (heap_alloc_old w1 o (Nat.lt_of_lt_of_le hi h.below.size)).trans (h.keep i hi hb ht)⟩
theorem Bk.grown {B b : Nat} {w w1 w2 : World} {v : Value} {n : Nat} {xs : List Value} (h : Bk B b w w1) (hB : B ≤ w1.heap.size) (ho : w1.ownsRow B 5 1 v n xs) (hg : w1.grownBy w2 v.ownBlock) : Bk B b w w2 := by
  refine ⟨h.below.grown hg hB (fun k hk => (ho.lt k hk).1), fun i hi hb ht => ?_⟩
  have e := h.keep i hi hb ht
  refine (hg.block i (Nat.lt_of_lt_of_le hi h.below.size) ?_).trans e
  intro hk
  rcases ho.2 with ⟨hv, _⟩ | ⟨g, cap, cur, hv, _, hgg, _⟩
  · rw [hv] at hk; cases hk
  · rw [hv] at hk
    simp only [Value.ownBlock, Option.some.injEq] at hk
    subst hk
    rw [e] at hgg
    exact ht _ _ hgg
theorem Bk.drewN {B b : Nat} {w w1 : World} (h : Bk B b w w1) (q : Nat) : Bk B b w (w1.drewN q) := ⟨below_drewN' h.below q, h.keep⟩
/-- A box of the walk's own. -/
theorem Bk.box {B b g : Nat} {w w' : World} {cs : Array Value} {t : TypeId} {m : Nat × Nat} (h : Bk B b w w') (hg : w.heap[g]? = some (.cells cs t m)) (hb : g ≠ b) (ht : t ≠ 5) : w'.heap[g]? = some (.cells cs t m) := by
  refine (h.keep g (Array.getElem?_eq_some_iff.1 hg).1 hb fun cs' m' e => ?_).trans hg
  rw [hg] at e
  injection e with e
  injection e with e1 e2
  exact ht e2
/-- What was written. -/
def BdP (B b : Nat) (w : World) (l : List UInt8) (e : Ending) (w' : World) : Prop :=
  (∃ r, e = .returned r) ∧ (∃ v', Hid (BdAt w' B b (selfP b) l v')) ∧ Hid (Bk B b w w')
theorem BdP.mk {B b : Nat} {w : World} {l l' : List UInt8} {r v' : Value} {w' : World} (h : Hid (BdAt w' B b (selfP b) l' v')) (hl : l = l') (hk : Hid (Bk B b w w')) : BdP B b w l (.returned r) w' := ⟨⟨r, rfl⟩, ⟨v', by rw [hl]; exact h⟩, hk⟩
set_option maxRecDepth 100000 in
set_option maxHeartbeats 1000000 in
theorem bd_copyCheck (B b : Nat) (p v : Value) (l : List UInt8) (w : World) (h : Hid (BdAt w B b p l v)) (hp : p = .pointer none ∨ p = selfP b) :
    Calls Tryz.prog 101 #[.pointer (some ⟨b, 0, none⟩)] w fun e w' => e = .returned (.tuple #[]) ∧ BdAt w' B b (selfP b) l v ∧ Bk B b w w' := by
  obtain ⟨c0, c1⟩ := h.out.cells
  have f0 := h.out.fro 0
  have hsh := h.out.shape
  obtain ⟨j, hj, hjs⟩ := Option.map_eq_some_iff.1 (show (Tryz.prog.info? 90).map (·.size) = some 2 by kernel_rfl)
  rcases hp with rfl | rfl
  · have h1 := Lib.hid (h.out.used (selfP b))
    have hge := h.out.ge
    go_enter Tryz.func101, Tryz.ntmps101
    go_wp2
    rw [Lib.run_to_unsafe w ⟨b, 0, none⟩ Tryz.underlying87 Tryz.underlying185 hj (by rw [hjs]; decide) hsh (Nat.zero_lt_succ 1)]
    simp only [Result.andThen]
    rw [Oper.upon_value]
    go_wp2
    rw [run_callFunc_extern Tryz.func155 (by kernel_rfl) (by kernel_rfl) (by kernel_rfl) (e := Extern.AbiNoEscape.same) (by kernel_rfl)]
    rw [Lib.run_noEscape]
    simp only [Result.andThen]
    rw [Oper.upon_value]
    go_wp2
    rw [Lib.run_from_unsafe w ⟨b, 0, none⟩ Tryz.underlying185 Tryz.underlying87 hj hsh (by kernel_rfl)]
    simp only [Result.andThen]
    rw [Oper.upon_value]
    go_wp2
    go_end0
    exact ⟨rfl, h1.out, (Bk.refl B b w).setCell hge 0 _⟩
  · go_enter Tryz.func101, Tryz.ntmps101
    go_wp2
    rw [Lib.run_neq_ptr_same w _ Tryz.underlying87 hj]
    go_wp2
    go_end0
    exact ⟨rfl, h.out, Bk.refl _ _ _⟩
set_option maxRecDepth 100000 in
set_option maxHeartbeats 2000000 in
theorem bd_WriteString (B b : Nat) (p v : Value) (l : List UInt8) (s : ByteArray) (w : World) (h : Hid (BdAt w B b p l v)) (hp : p = .pointer none ∨ p = selfP b) (hB : B ≤ w.heap.size) (hlen : l.length + s.size ≤ 140737488355328) :
    Calls Tryz.prog 47 #[.pointer (some ⟨b, 0, none⟩), .string s] w (BdP B b w (l ++ s.data.toList)) := by
  obtain ⟨i0, hi, hz0, hz1, hz2⟩ := info_parts (P := Tryz.prog) (e := 5) (z := .int .u8 0) (size := 1) (bytes := 1) (by kernel_rfl)
  have hge := h.out.ge
  go_enter Tryz.func47, Tryz.ntmps47
  go_wp2_with fail
  refine (bd_copyCheck B b p v l w h hp).mono ?_
  rintro e w1 ⟨rfl, h1, hb1⟩
  obtain ⟨c0, c1⟩ := h1.cells
  have H1 := Lib.hid h1
  have HB1 := Lib.hid hb1
  have hs1 := hb1.below.size
  clear h1 hb1
  go_wp2_with (at_builtin; refine Lib.wpList_append_own_string _ rfl _ _ 88 9 rfl B 5 i0 Tryz.underlying88 Tryz.underlying9 hi hz0 hz1 hz2 _ _ _ rfl H1.out.own s rfl ?c3 ?c4 ?c5 ?_)
  case c3 => unfold maxLen; omega
  case c4 => omega
  case c5 => omega
  intro v' w2 hown hgrow hn
  have e : s.data.toList.length = s.size := by simp
  have hown2 : w2.ownsRow B 5 1 v' (l ++ s.data.toList).length (Lib.byteCells (l ++ s.data.toList)) := by
    rw [List.length_append, Lib.byteCells_append, e]; exact hown
  have hn2 : v' = .slice none 0 0 ↔ l ++ s.data.toList = [] := by
    rw [hn, H1.out.nil_, List.append_eq_nil_iff]
    constructor
    · rintro ⟨h1, h2⟩; exact ⟨h1, by rw [h2]; rfl⟩
    · rintro ⟨h1, h2⟩; exact ⟨h1, ByteArray.ext (Array.ext' h2)⟩
  have HW2 := Lib.hid (H1.out.put hgrow hown2 hn2)
  have HB2 := Lib.hid ((HB1.out.grown (by omega) H1.out.own hgrow).setCell hge 1 v')
  have hbb : w2.heap[b]? = some (.cells #[selfP b, v] 90 (0, 0)) := (hgrow.block b H1.out.lt (fun e => H1.out.ne e.symm)).trans H1.out.hb
  have d1 : w2.cell? ⟨b, 1, none⟩ = some v := by rw [cell_of_row _ _ _ _ _ _ hbb]; rfl
  have f1 : w2.frozen? ⟨b, 1, none⟩ = false := by simp [World.frozen?, hbb]
  obtain ⟨ao, n', cap, rfl⟩ : ∃ ao n' cap, v' = .slice ao n' cap := by
    rcases hown.2 with ⟨hv, _⟩ | ⟨g, cap, cur, hv, _⟩
    · exact ⟨_, _, _, hv⟩
    · exact ⟨_, _, _, hv⟩
  clear hown hgrow hn hown2 hn2 hbb e
  go_wp2
  go_ret2
  exact BdP.mk HW2 rfl HB2
set_option maxRecDepth 100000 in
set_option maxHeartbeats 2000000 in
theorem bd_String (B b : Nat) (p v : Value) (l : List UInt8) (w : World) (h : Hid (BdAt w B b p l v)) :
    Calls Tryz.prog 39 #[.pointer (some ⟨b, 0, none⟩)] w fun e w' => e = .returned (.string ⟨l.toArray⟩) ∧ Below B w w' := by
  have c1 : w.drew.cell? ⟨b, 1, none⟩ = some v := h.out.cells.2
  by_cases h0 : l = []
  · subst h0
    have hv := h.out.nil_.2 rfl
    subst hv
    have hUS : ∀ q W, (Builtin.unsafeString_ #[138, 3] 9 #[.pointer q, .int .i64 0]).run Tryz.prog W = .ok (.string .empty) W := fun q W => Lib.run_unsafeString_none W _ _ _ q
    have hSD : (Builtin.unsafeSliceData_ #[88] 138 #[.slice none 0 0]).run Tryz.prog w.drew = .ok (.pointer none) w.drew := rfl
    go_enter Tryz.func39, Tryz.ntmps39
    go_wp2
    go_region
    all_goals (go_wp2; go_ret; exact ⟨rfl, (Below.refl B w).drew⟩)
  · have hl0 : l.length ≠ 0 := by simpa using h0
    obtain ⟨g, cap, cur, rfl, hbg, hg, hnc, hcm, hcs, htake⟩ : ∃ g cap cur, v = .slice (some ⟨g, 0, none⟩) l.length cap ∧ B ≤ g ∧ w.heap[g]? = some (.cells cur 5 (0, 0)) ∧ l.length ≤ cap ∧ cap ≤ maxLen ∧ cur.size = cap * 1 ∧ cur.toList.take (l.length * 1) = Lib.byteCells l := by
      rcases h.out.own.2 with ⟨_, hz⟩ | ⟨g, cap, cur, hv, r⟩
      · exact absurd hz hl0
      · exact ⟨g, cap, cur, hv, r⟩
    have hSD : (Builtin.unsafeSliceData_ #[88] 138 #[.slice (some ⟨g, 0, none⟩) l.length cap]).run Tryz.prog w.drew = .ok (.pointer (some ⟨g, 0, none⟩)) w.drew := Lib.run_unsafeSliceData_row _ _ _ _ _ _ (by omega)
    have hUS : (Builtin.unsafeString_ #[138, 3] 9 #[.pointer (some ⟨g, 0, none⟩), .int .i64 l.length]).run Tryz.prog w.drew = .ok (.string ⟨l.toArray⟩) (w.drew.freeze ⟨g, 0, none⟩ l.length) := by
      refine Lib.run_unsafeString_row w.drew 138 3 9 5 Tryz.underlying138 (by kernel_rfl) g cur.size (by have hg' : w.drew.heap[g]? = some (.cells cur 5 (0, 0)) := hg; simp [World.shape?, hg']) l h0 (by omega) (by unfold maxLen at hcm; omega) ?_
      intro j x hx
      have := h.out.own.cells (g := g) rfl j (.int .u8 x.toNat) (by simp [Lib.byteCells, hx])
      exact this
    go_enter Tryz.func39, Tryz.ntmps39
    go_wp2
    go_region
    all_goals (go_wp2; go_ret; exact ⟨rfl, Lib.below_freeze (Below.drew (Below.refl B w)) (p := ⟨g, 0, none⟩) hbg _⟩)
end Go.Proofs.YtkpjhjoopdbkaaaGreatDoor
