/- Joined: Plain: a net's tokens, parsed again: tasks, the net. -/
import Derived.Test.YtkpjhjoopdbkaaaGreatDoorG44
namespace Go.Proofs.YtkpjhjoopdbkaaaGreatDoor
mutual
theorem same_eq : ∀ a b : Tr, sameT a b = true → a = b
  | .mk k n l, .mk k' n' l', h => by
    rw [sameT] at h
    simp only [Bool.and_eq_true, decide_eq_true_eq] at h
    have e := same_eqL l l' h.2.2
    have e1 : k = k' := h.1
    have e2 : n = n' := h.2.1
    rw [e1, e2, e]
theorem same_eqL : ∀ l m : List Tr, sameL l m = true → l = m
  | [], [], _ => rfl
  | [], b :: m, h => by rw [sameL_len _ _ (by simp)] at h; cases h
  | a :: l, [], h => by rw [sameL_len _ _ (by simp)] at h; cases h
  | a :: l, b :: m, h => by
    rw [sameL_cons, Bool.and_eq_true] at h
    rw [same_eq a b h.1, same_eqL l m h.2]
end
/-- What reads a task stands ahead of l, with t so far; its words are among W. -/
structure Tz (K : List Kt) (s0 : Ps) (W : List ByteArray) (u : Ts) (t : Tk) (l : List Kt) : Prop where
  tk : u.t = t
  had : ∀ x ∈ u.had, x ∈ W
  at_ : At_ K u.s l
  rest : u.s = { s0 with at_ := u.s.at_, vars := t.names }
section
variable {K : List Kt} {s0 : Ps} {W V : List ByteArray} {u : Ts} {t t' : Tk} {l b : List Kt} {w : ByteArray}
theorem Tz.wide (h : Tz K s0 W u t l) (hv : ∀ x ∈ W, x ∈ V) : Tz K s0 V u t l := ⟨h.tk, fun x hx => hv x (h.had x hx), h.at_, h.rest⟩
/-- One clause more. -/
theorem tz_step (h : Tz K s0 W u t ((1, w) :: (b ++ ((3, ⟨#[59]⟩) :: l)))) (hw : isWord w = true) (hne : w ≠ ⟨#[125]⟩) (ho : isOnce w = true → w ∉ W) (hv : ∀ x ∈ W, x ∈ V) (hwv : w ∈ V)
    (hc : ∀ z : Ps, At_ K z (b ++ ((3, ⟨#[59]⟩) :: l)) → z = { s0 with at_ := z.at_, vars := t.names } → ∃ z', clauseP K w t z = some (t', z') ∧ At_ K z' ((3, ⟨#[59]⟩) :: l) ∧ z' = { s0 with at_ := z'.at_, vars := t'.names }) :
    ∃ u', (∀ m, clausesP K (m + 1) u = clausesP K m u') ∧ Tz K s0 V u' t' l := by
  have hse := h.at_.word hw
  have g1 := at_step h.at_
  obtain ⟨z', c1, c2, c3⟩ := hc (stepP u.s) g1.at_ (by
    have e := h.rest
    obtain ⟨n, e1, _⟩ := g1
    have e2 : (stepP u.s).at_ = n := by rw [e1]
    rw [e2, e1]
    exact congrArg (fun q : Ps => { q with at_ := n }) e)
  have g2 := rd_want c2
  refine ⟨⟨t', w :: u.had, wantP K ⟨#[59]⟩ z'⟩, fun m => ?_, ?_⟩
  · rw [clauses_one m u h.at_.err (take_no hse hne)]
    congr 1
    unfold oneP
    rw [hse, h.tk, c1]
    have hh : (Lib.containsS u.had w && isOnce w) = false := by
      rcases ho2 : isOnce w with _ | _
      · rw [Bool.and_false]
      · rw [Bool.and_true, ← Bool.not_eq_true]
        intro q
        exact ho ho2 (h.had w ((Lib.containsS_iff _ _).1 q))
    simp only
    rw [if_neg (by rw [hh]; decide)]
  · refine ⟨rfl, fun x hx => ?_, g2.at_, ?_⟩
    · rcases List.mem_cons.1 hx with q | q
      · rw [q]; exact hwv
      · exact hv x (h.had x q)
    · obtain ⟨n, e1, _⟩ := g2
      show wantP K ⟨#[59]⟩ z' = { s0 with at_ := (wantP K ⟨#[59]⟩ z').at_, vars := t'.names }
      rw [e1]
      exact congrArg (fun q : Ps => { q with at_ := n }) c3
/-- Variables. -/
theorem tz_vars (hcn : (s0.cols.map (·.name)).Nodup) (nm : ∀ k : Int, 0 ≤ k ∧ k < (s0.cols.length : Int) → nmB (colB s0.cols k)) : ∀ (vs : List Vr) (u : Ts) (t : Tk), (∀ v ∈ vs, nmB v.name ∧ 0 ≤ v.colour ∧ v.colour < (s0.cols.length : Int)) → ((t.vars ++ vs).map (·.name)).Nodup → Tz K s0 [⟨#[118, 97, 114]⟩] u t (((vs.map (varZ s0.cols)).map semiK).flatten ++ l) →
    ∃ u', (∀ m, clausesP K (vs.length + m) u = clausesP K m u') ∧ Tz K s0 [⟨#[118, 97, 114]⟩] u' { t with vars := t.vars ++ vs } l
  | [], u, t, _, _, h => ⟨u, fun m => by simp, by simpa using h⟩
  | v :: vs, u, t, hv, nd, h => by
    have hvv := hv v (by simp)
    have h' : Tz K s0 [⟨#[118, 97, 114]⟩] u t ((1, ⟨#[118, 97, 114]⟩) :: ([(1, v.name), (3, ⟨#[58]⟩), (1, colB s0.cols v.colour)] ++ ((3, ⟨#[59]⟩) :: (((vs.map (varZ s0.cols)).map semiK).flatten ++ l)))) := by
      have e : (((v :: vs).map (varZ s0.cols)).map semiK).flatten ++ l = (1, ⟨#[118, 97, 114]⟩) :: ([(1, v.name), (3, ⟨#[58]⟩), (1, colB s0.cols v.colour)] ++ ((3, ⟨#[59]⟩) :: (((vs.map (varZ s0.cols)).map semiK).flatten ++ l))) := by simp [varZ, semiK]
      rw [e] at h
      exact h
    obtain ⟨nd1, _⟩ := nodup_mid (fun z : Vr => z.name) nd
    obtain ⟨u1, e1, h1⟩ := tz_step (V := [⟨#[118, 97, 114]⟩]) (t' := { t with vars := t.vars ++ [v] }) h' (by decide +kernel) (by decide) (fun q => absurd q (by decide +kernel)) (fun x hx => hx) (by simp) (fun z hz hr => by
      have hz' : At_ K z ((1, v.name) :: ((3, ⟨#[58]⟩) :: ((1, colB s0.cols v.colour) :: ((3, ⟨#[59]⟩) :: (((vs.map (varZ s0.cols)).map semiK).flatten ++ l))))) := hz
      have hzv : z.vars = t.names := by rw [hr]
      have hzc : z.cols = s0.cols := by rw [hr]
      have hh : hadT (findVar z) v.name = false := by
        show hadT (findN z.vars) v.name = false
        rw [hzv]; exact had_no nd1
      obtain ⟨g1, v1⟩ := rd_fresh (has := hadT (findVar z)) hvv.1 hz' hh
      have g2 := g1.trans (rd_want g1.at_)
      obtain ⟨y, hy⟩ : ∃ y, y = wantP K ⟨#[58]⟩ (freshS K (hadT (findVar z)) z) := ⟨_, rfl⟩
      rw [← hy] at g2
      have hyc : y.cols = s0.cols := g2.cols.trans hzc
      have f1 : findCol y (colB s0.cols v.colour) = v.colour := by
        show findN (y.cols.map (·.name)) _ = _
        rw [hyc]
        have := find_col (pre := s0.cols) (rest := []) hcn hvv.2
        rw [List.append_nil] at this
        exact this
      obtain ⟨g3, v3⟩ := rd_known (find := findCol y) (nm _ hvv.2) g2.at_ (by rw [f1]; exact hvv.2.1)
      have g4 := g2.trans g3
      have hcl : clauseP K ⟨#[118, 97, 114]⟩ t z = some (varP K t z) := by unfold clauseP; rw [if_pos rfl]
      have ev : varP K t z = ({ t with vars := t.vars ++ [v] }, { knownS K (findCol y) y with vars := z.vars ++ [v.name] }) := by
        unfold varP
        simp only
        rw [v1, ← hy, v3, f1, g4.vars]
      refine ⟨{ knownS K (findCol y) y with vars := z.vars ++ [v.name] }, by rw [hcl, ev], ⟨g4.at_.err, g4.at_.drop⟩, ?_⟩
      obtain ⟨n, en, _⟩ := g4
      have e2 : ({ t with vars := t.vars ++ [v] } : Tk).names = t.names ++ [v.name] := by unfold Tk.names; simp
      rw [e2, hzv, en]
      exact congrArg (fun q : Ps => { q with at_ := n, vars := t.names ++ [v.name] }) hr)
    obtain ⟨u2, e2, h2⟩ := tz_vars hcn nm vs u1 { t with vars := t.vars ++ [v] } (fun x hx => hv x (List.mem_cons_of_mem _ hx)) (by simpa using nd) h1
    refine ⟨u2, fun m => ?_, ?_⟩
    · rw [List.length_cons, show vs.length + 1 + m = (vs.length + m) + 1 by omega, e1, e2]
    · simpa using h2
theorem at_expr {names : List ByteArray} {e : Tr} (hN : NmOk names) (g : Good_ names.length e) (hd : (needT e).2 ≤ 40) {z : Ps} {y : ByteArray} (hy : isOp y = false) (hv : z.vars = names) (h : At_ K z (toksT names e ++ ((3, y) :: l))) : ∃ z', exprP K 0 z = (e, z') ∧ Go_ K z z' ((3, y) :: l) := by
  have hh : Hd_ K names z (toksT names e ++ (3, y) :: l) [] := ⟨h.err, hv, by rw [List.append_nil]; exact h.drop⟩
  refine ⟨_, expr_back hN g hd hy hh, z.at_ + (toksT names e).length, rfl, ?_⟩
  have := hh.go
  exact ⟨this.err, by have := this.drop; rw [List.append_nil] at this; exact this⟩
/-- A clause that keeps the variables. -/
theorem tz_keep {z z' : Ps} {t t' : Tk} (hr : z = { s0 with at_ := z.at_, vars := t.names }) (g : Go_ K z z' l) (hn : t'.names = t.names) : z' = { s0 with at_ := z'.at_, vars := t'.names } := by
  obtain ⟨n, en, _⟩ := g
  rw [hn, en]
  exact congrArg (fun q : Ps => { q with at_ := n }) hr
theorem tz_when {x : Tr} (ht : t.guard = .mk 1 1 []) (hN : NmOk t.names) (g : Good_ t.names.length x) (hd : (needT x).2 ≤ 40) (h : Tz K s0 [⟨#[118, 97, 114]⟩] u t (((whenZ { t with guard := x }).map semiK).flatten ++ l)) :
    ∃ k u', (∀ m, clausesP K (k + m) u = clausesP K m u') ∧ k = (whenZ { t with guard := x }).length ∧ Tz K s0 [⟨#[118, 97, 114]⟩, ⟨#[119, 104, 101, 110]⟩] u' { t with guard := x } l := by
  unfold whenZ at h ⊢
  split
  · rename_i q
    rw [if_pos q] at h
    have e : x = .mk 1 1 [] := same_eq _ _ q
    refine ⟨0, u, fun m => by rw [Nat.zero_add], rfl, ?_⟩
    have e2 : ({ t with guard := x } : Tk) = t := by rw [e, ← ht]
    rw [e2]
    exact h.wide (by simp)
  · rename_i q
    rw [if_neg q] at h
    have h' : Tz K s0 [⟨#[118, 97, 114]⟩] u t ((1, ⟨#[119, 104, 101, 110]⟩) :: (toksT t.names x ++ ((3, ⟨#[59]⟩) :: l))) := by
      have e : ({ t with guard := x } : Tk).names = t.names := rfl
      rw [e] at h
      simpa [semiK] using h
    obtain ⟨u1, e1, h1⟩ := tz_step (V := [⟨#[118, 97, 114]⟩, ⟨#[119, 104, 101, 110]⟩]) (t' := { t with guard := x }) h' (by decide +kernel) (by decide) (fun _ => by simp) (by simp) (by simp) (fun z hz hr => by
      obtain ⟨z', e, gz⟩ := at_expr hN g hd (show isOp ⟨#[59]⟩ = false by decide +kernel) (show z.vars = t.names by rw [hr]) hz
      have hcl : clauseP K ⟨#[119, 104, 101, 110]⟩ t z = some ({ t with guard := (exprP K 0 z).1 }, (exprP K 0 z).2) := by unfold clauseP; rw [if_neg (by decide), if_pos rfl]
      exact ⟨z', by rw [hcl, e], gz.at_, tz_keep (K := K) hr gz rfl⟩)
    exact ⟨1, u1, fun m => by rw [Nat.add_comm]; exact e1 m, rfl, h1⟩
theorem tz_kind {word : ByteArray} {k : Int} (hk : 1 ≤ k ∧ k ≤ 3) (hw : isWord word = true) (hne : word ≠ ⟨#[125]⟩) (ho : word ∉ W) (f : Int → Tk) (hf : f 1 = t) (hfn : ∀ k, (f k).names = t.names) (hcl : ∀ z, clauseP K word t z = some (f (kindV K z), kindS K z)) (h : Tz K s0 W u t (((kindZ word k).map semiK).flatten ++ l)) :
    ∃ k' u', (∀ m, clausesP K (k' + m) u = clausesP K m u') ∧ k' = (kindZ word k).length ∧ Tz K s0 (W ++ [word]) u' (f k) l := by
  have hWV : ∀ x ∈ W, x ∈ W ++ [word] := fun x hx => by simp [hx]
  have one : ∀ (a : ByteArray) (n : Int), isWord a = true → Tz K s0 W u t ((1, word) :: ([(1, a)] ++ ((3, ⟨#[59]⟩) :: l))) → (∀ z : Ps, At_ K z ((1, a) :: ((3, ⟨#[59]⟩) :: l)) → kindV K z = n ∧ kindS K z = stepP z) → ∃ u', (∀ m, clausesP K (1 + m) u = clausesP K m u') ∧ Tz K s0 (W ++ [word]) u' (f n) l := by
    intro a n ha h' hz0
    obtain ⟨u1, e1, h1⟩ := tz_step (V := W ++ [word]) (t' := f n) h' hw hne (fun _ => ho) hWV (by simp) (fun z hz hr => by
      obtain ⟨q1, q2⟩ := hz0 z hz
      have g := at_step (y := (1, a)) (l := ((3, ⟨#[59]⟩) :: l)) hz
      exact ⟨stepP z, by rw [hcl, q1, q2], g.at_, tz_keep (K := K) hr g (hfn n)⟩)
    exact ⟨u1, fun m => by rw [Nat.add_comm]; exact e1 m, h1⟩
  unfold kindZ at h ⊢
  split
  · rename_i q
    rw [if_pos q] at h
    refine ⟨0, u, fun m => by rw [Nat.zero_add], rfl, ?_⟩
    rw [q, hf]
    exact h.wide hWV
  rename_i q1
  rw [if_neg q1] at h
  split
  · rename_i q
    rw [if_pos q] at h
    obtain ⟨u1, e1, h1⟩ := one ⟨#[120, 111, 114]⟩ 2 (by decide +kernel) (by simpa [semiK] using h) (fun z hz => by
      have hse := hz.word (by decide +kernel)
      unfold kindV kindS
      rw [take_no hse (by decide), take_yes hse]
      exact ⟨rfl, rfl⟩)
    exact ⟨1, u1, e1, rfl, by rw [q]; exact h1⟩
  rename_i q2
  rw [if_neg q2] at h
  split
  · rename_i q
    rw [if_pos q] at h
    obtain ⟨u1, e1, h1⟩ := one ⟨#[111, 114]⟩ 3 (by decide +kernel) (by simpa [semiK] using h) (fun z hz => by
      have hse := hz.word (by decide +kernel)
      unfold kindV kindS
      rw [take_no hse (by decide), take_no hse (by decide), take_yes hse]
      exact ⟨rfl, rfl⟩)
    exact ⟨1, u1, e1, rfl, by rw [q]; exact h1⟩
  · omega
theorem rd_arc {B : Nat} {a : Ar} {names : List ByteArray} (hN : NmOk names) (hpn : (s0.pls.map (·.name)).Nodup) (nmp : ∀ k : Int, 0 ≤ k ∧ k < (s0.pls.length : Int) → nmB (plB s0.pls k)) (ga : ArG B s0.pls.length names.length a) {z : Ps} (hv : z.vars = names) (hp : z.pls = s0.pls) (h : At_ K z ((1, plB s0.pls a.place) :: ((3, ⟨#[40]⟩) :: (toksT names a.expr ++ ((3, ⟨#[41]⟩) :: ((3, ⟨#[59]⟩) :: l)))))) :
    ∃ z', arcP K z = (a, z') ∧ Go_ K z z' ((3, ⟨#[59]⟩) :: l) := by
  have f1 : findPl z (plB s0.pls a.place) = a.place := by
    show findN (z.pls.map (·.name)) _ = _
    rw [hp]; exact find_pl hpn ga.place
  obtain ⟨g1, v1⟩ := rd_known (find := findPl z) (nmp _ ga.place) h (by rw [f1]; exact ga.place.1)
  have g2 := g1.trans (rd_want g1.at_)
  obtain ⟨y, hy⟩ : ∃ y, y = wantP K ⟨#[40]⟩ (knownS K (findPl z) z) := ⟨_, rfl⟩
  rw [← hy] at g2
  obtain ⟨x, e, g3⟩ := at_expr hN ga.good ga.need (show isOp ⟨#[41]⟩ = false by decide +kernel) (g2.vars.trans hv) g2.at_
  refine ⟨wantP K ⟨#[41]⟩ x, ?_, (g2.trans g3).trans (rd_want g3.at_)⟩
  unfold arcP
  simp only
  rw [v1, f1, ← hy, e]
/-- Arcs. -/
theorem tz_arcs {B : Nat} {names : List ByteArray} (hN : NmOk names) (hpn : (s0.pls.map (·.name)).Nodup) (nmp : ∀ k : Int, 0 ≤ k ∧ k < (s0.pls.length : Int) → nmB (plB s0.pls k)) {wk : ByteArray} {word : ByteArray} (hw : isWord wk = true) (hne : wk ≠ ⟨#[125]⟩) (ho : isOnce wk = false) (hm : wk ∈ W) (f : Tk → Ar → Tk) (hfn : ∀ t a, (f t a).names = t.names) (hcl : ∀ t z, clauseP K wk t z = some (f t (arcP K z).1, (arcP K z).2)) :
    ∀ (ars : List Ar) (u : Ts) (t : Tk), t.names = names → (∀ a ∈ ars, ArG B s0.pls.length names.length a) → Tz K s0 W u t (((ars.map (arcZ s0.pls names word wk)).map semiK).flatten ++ l) →
    ∃ u', (∀ m, clausesP K (ars.length + m) u = clausesP K m u') ∧ Tz K s0 W u' (ars.foldl f t) l
  | [], u, t, _, _, h => ⟨u, fun m => by simp, by simpa using h⟩
  | a :: ars, u, t, htn, ha, h => by
    have h' : Tz K s0 W u t ((1, wk) :: (((1, plB s0.pls a.place) :: ((3, ⟨#[40]⟩) :: (toksT names a.expr ++ [(3, ⟨#[41]⟩)]))) ++ ((3, ⟨#[59]⟩) :: (((ars.map (arcZ s0.pls names word wk)).map semiK).flatten ++ l)))) := by
      have e : (((a :: ars).map (arcZ s0.pls names word wk)).map semiK).flatten ++ l = (1, wk) :: (((1, plB s0.pls a.place) :: ((3, ⟨#[40]⟩) :: (toksT names a.expr ++ [(3, ⟨#[41]⟩)]))) ++ ((3, ⟨#[59]⟩) :: (((ars.map (arcZ s0.pls names word wk)).map semiK).flatten ++ l))) := by simp [arcZ, semiK]
      rw [e] at h
      exact h
    obtain ⟨u1, e1, h1⟩ := tz_step (V := W) (t' := f t a) h' hw hne (fun q => absurd q (by rw [ho]; decide)) (fun x hx => hx) hm (fun z hz hr => by
      obtain ⟨z', e, gz⟩ := rd_arc (l := ((ars.map (arcZ s0.pls names word wk)).map semiK).flatten ++ l) hN hpn nmp (ha a (by simp)) (show z.vars = names by rw [hr, ← htn]) (show z.pls = s0.pls by rw [hr]) (by simpa using hz)
      exact ⟨z', by rw [hcl, e], gz.at_, tz_keep (K := K) hr gz (hfn t a)⟩)
    obtain ⟨u2, e2, h2⟩ := tz_arcs hN hpn nmp hw hne ho hm f hfn hcl ars u1 (f t a) ((hfn t a).trans htn) (fun x hx => ha x (List.mem_cons_of_mem _ hx)) h1
    refine ⟨u2, fun m => ?_, h2⟩
    rw [List.length_cons, show ars.length + 1 + m = (ars.length + m) + 1 by omega, e1, e2]
theorem tz_cancel (hpn : (s0.pls.map (·.name)).Nodup) (nmp : ∀ k : Int, 0 ≤ k ∧ k < (s0.pls.length : Int) → nmB (plB s0.pls k)) (hm : (⟨#[99, 97, 110, 99, 101, 108]⟩ : ByteArray) ∈ W) :
    ∀ (ks : List Int) (u : Ts) (t : Tk), (∀ k ∈ ks, 0 ≤ k ∧ k < (s0.pls.length : Int)) → Tz K s0 W u t (((ks.map (cancelZ s0.pls)).map semiK).flatten ++ l) →
    ∃ u', (∀ m, clausesP K (ks.length + m) u = clausesP K m u') ∧ Tz K s0 W u' { t with cancel := t.cancel ++ ks } l
  | [], u, t, _, h => ⟨u, fun m => by simp, by simpa using h⟩
  | k :: ks, u, t, ha, h => by
    have hk := ha k (by simp)
    have h' : Tz K s0 W u t ((1, ⟨#[99, 97, 110, 99, 101, 108]⟩) :: ([(1, plB s0.pls k)] ++ ((3, ⟨#[59]⟩) :: (((ks.map (cancelZ s0.pls)).map semiK).flatten ++ l)))) := by
      have e : (((k :: ks).map (cancelZ s0.pls)).map semiK).flatten ++ l = (1, ⟨#[99, 97, 110, 99, 101, 108]⟩) :: ([(1, plB s0.pls k)] ++ ((3, ⟨#[59]⟩) :: (((ks.map (cancelZ s0.pls)).map semiK).flatten ++ l))) := by simp [cancelZ, semiK]
      rw [e] at h
      exact h
    obtain ⟨u1, e1, h1⟩ := tz_step (V := W) (t' := { t with cancel := t.cancel ++ [k] }) h' (by decide +kernel) (by decide) (fun q => absurd q (by decide +kernel)) (fun x hx => hx) hm (fun z hz hr => by
      have f1 : findPl z (plB s0.pls k) = k := by
        show findN (z.pls.map (·.name)) _ = _
        rw [show z.pls = s0.pls by rw [hr]]; exact find_pl hpn hk
      obtain ⟨g1, v1⟩ := rd_known (find := findPl z) (nmp _ hk) hz (by rw [f1]; exact hk.1)
      have hcl : clauseP K ⟨#[99, 97, 110, 99, 101, 108]⟩ t z = some ({ t with cancel := t.cancel ++ [knownV K (findPl z) z] }, knownS K (findPl z) z) := by
        unfold clauseP
        rw [if_neg (by decide), if_neg (by decide), if_neg (by decide), if_neg (by decide), if_neg (by decide), if_neg (by decide), if_pos rfl]
      exact ⟨_, by rw [hcl, v1, f1], g1.at_, tz_keep (K := K) hr g1 rfl⟩)
    obtain ⟨u2, e2, h2⟩ := tz_cancel hpn nmp hm ks u1 { t with cancel := t.cancel ++ [k] } (fun x hx => ha x (List.mem_cons_of_mem _ hx)) h1
    refine ⟨u2, fun m => ?_, ?_⟩
    · rw [List.length_cons, show ks.length + 1 + m = (ks.length + m) + 1 by omega, e1, e2]
    · simpa using h2
theorem tz_after {n : Int} (hn : inN n) (ht : t.after = 0) (ho : (⟨#[97, 102, 116, 101, 114]⟩ : ByteArray) ∉ W) (h : Tz K s0 W u t (((afterZ { t with after := n }).map semiK).flatten ++ l)) :
    ∃ k u', (∀ m, clausesP K (k + m) u = clausesP K m u') ∧ k = (afterZ { t with after := n }).length ∧ Tz K s0 (W ++ [⟨#[97, 102, 116, 101, 114]⟩]) u' { t with after := n } l := by
  unfold afterZ at h ⊢
  split
  · rename_i q
    rw [if_pos q] at h
    refine ⟨0, u, fun m => by rw [Nat.zero_add], rfl, ?_⟩
    have q' : n = 0 := q
    have e2 : ({ t with after := n } : Tk) = t := by rw [q', ← ht]
    rw [e2]
    exact h.wide (fun x hx => by simp [hx])
  · rename_i q
    rw [if_neg q] at h
    have h' : Tz K s0 W u t ((1, ⟨#[97, 102, 116, 101, 114]⟩) :: (nuK n ++ ((3, ⟨#[59]⟩) :: l))) := by simpa [semiK] using h
    obtain ⟨u1, e1, h1⟩ := tz_step (V := W ++ [⟨#[97, 102, 116, 101, 114]⟩]) (t' := { t with after := n }) h' (by decide +kernel) (by decide) (fun _ => ho) (fun x hx => by simp [hx]) (by simp) (fun z hz hr => by
      obtain ⟨v1, g1⟩ := rd_num hn hz
      have hcl : clauseP K ⟨#[97, 102, 116, 101, 114]⟩ t z = some ({ t with after := numbV K z }, numbS K z) := by
        unfold clauseP
        rw [if_neg (by decide), if_neg (by decide), if_neg (by decide), if_neg (by decide), if_neg (by decide), if_neg (by decide), if_neg (by decide), if_pos rfl]
      exact ⟨_, by rw [hcl, v1], g1.at_, tz_keep (K := K) hr g1 rfl⟩)
    exact ⟨1, u1, fun m => by rw [Nat.add_comm]; exact e1 m, rfl, h1⟩
theorem tz_many {n0 n1 n2 : Int} (hn0 : inN n0) (hn1 : inN n1) (hn2 : inN n2) (h0 : t.m0 = 0) (h1 : t.m1 = 0) (h2 : t.m2 = 0) (ho : (⟨#[109, 97, 110, 121]⟩ : ByteArray) ∉ W) (h : Tz K s0 W u t (((manyZ { t with m0 := n0, m1 := n1, m2 := n2 }).map semiK).flatten ++ l)) :
    ∃ k u', (∀ m, clausesP K (k + m) u = clausesP K m u') ∧ k = (manyZ { t with m0 := n0, m1 := n1, m2 := n2 }).length ∧ Tz K s0 (W ++ [⟨#[109, 97, 110, 121]⟩]) u' { t with m0 := n0, m1 := n1, m2 := n2 } l := by
  unfold manyZ at h ⊢
  split
  · rename_i q
    rw [if_pos q] at h
    refine ⟨0, u, fun m => by rw [Nat.zero_add], rfl, ?_⟩
    obtain ⟨q0, q1, q2⟩ : n0 = 0 ∧ n1 = 0 ∧ n2 = 0 := q
    have e2 : ({ t with m0 := n0, m1 := n1, m2 := n2 } : Tk) = t := by
      rw [q0, q1, q2]
      obtain ⟨_, _, _, _, _, _, _, _, _, _, _, _⟩ := t
      simp only at h0 h1 h2
      subst h0 h1 h2
      rfl
    rw [e2]
    exact h.wide (fun x hx => by simp [hx])
  · rename_i q
    rw [if_neg q] at h
    have h' : Tz K s0 W u t ((1, ⟨#[109, 97, 110, 121]⟩) :: ((nuK n0 ++ ((3, ⟨#[44]⟩) :: (nuK n1 ++ ((3, ⟨#[44]⟩) :: nuK n2)))) ++ ((3, ⟨#[59]⟩) :: l))) := by simpa [semiK, commaK] using h
    obtain ⟨u1, e1, h1⟩ := tz_step (V := W ++ [⟨#[109, 97, 110, 121]⟩]) (t' := { t with m0 := n0, m1 := n1, m2 := n2 }) h' (by decide +kernel) (by decide) (fun _ => ho) (fun x hx => by simp [hx]) (by simp) (fun z hz hr => by
      have hz' : At_ K z (nuK n0 ++ ((3, ⟨#[44]⟩) :: (nuK n1 ++ ((3, ⟨#[44]⟩) :: (nuK n2 ++ ((3, ⟨#[59]⟩) :: l)))))) := by simpa using hz
      obtain ⟨v1, g1⟩ := rd_num hn0 hz'
      have g2 := g1.trans (rd_want g1.at_)
      obtain ⟨v2, g3⟩ := rd_num hn1 g2.at_
      have g4 := (g2.trans g3).trans (rd_want g3.at_)
      obtain ⟨v3, g5⟩ := rd_num hn2 g4.at_
      have g6 := g4.trans g5
      have hcl : clauseP K ⟨#[109, 97, 110, 121]⟩ t z = some (manyP K t z) := by
        unfold clauseP
        rw [if_neg (by decide), if_neg (by decide), if_neg (by decide), if_neg (by decide), if_neg (by decide), if_neg (by decide), if_neg (by decide), if_neg (by decide), if_pos rfl]
      refine ⟨_, ?_, g6.at_, tz_keep (K := K) hr g6 rfl⟩
      rw [hcl]
      unfold manyP
      simp only
      rw [v1, v2, v3])
    exact ⟨1, u1, fun m => by rw [Nat.add_comm]; exact e1 m, rfl, h1⟩
end
end Go.Proofs.YtkpjhjoopdbkaaaGreatDoor
