/- Joined: Contracts of package bag: (counts).bag: the keys of a map, sorted. Contracts of package bag: (counts).bag. What parts of a net turn of a parser; no program in sight. Printed by gen_paY.py. A place's counts in a map. Printed by gen_paZ.py. -/
import Derived.Test.YtkpjhjoopdbkaaaGreatDoorG15
import Derived.Test.YtkpjhjoopdbkaaaGreatDoorG41
import Derived.Test.YtkpjhjoopdbkaaaGreatDoorG07
namespace Go.Proofs.YtkpjhjoopdbkaaaGreatDoor
open Go.RowKit
section
variable {w : World} {b n : Nat} {D : DataW Unit}
theorem intKeys_mem (h : OwnI w b n D) (x : Int) : x ∈ intKeys D ↔ Maps.has D (.int .i64 x) = true := by
  obtain ⟨es, rfl, hko⟩ := h.keysOf
  constructor
  · intro hx
    obtain ⟨p, hp, e⟩ := List.mem_map.1 hx
    obtain ⟨v, hv⟩ := hko p hp
    obtain ⟨y, _, hy, _⟩ := Maps.keyOf_i64 Tryz.underlying3 hv
    rw [hy] at e
    have e' : y = x := e
    subst e'
    exact List.any_eq_true.2 ⟨p, hp, by rw [hy]; exact WideAt.sameKey_self (show WideAt.IsKeyLit (Lit.int .i64 y) from trivial)⟩
  · intro hh
    obtain ⟨p, hp, hs⟩ := List.any_eq_true.1 hh
    have e := WideAt.sameKey_eq hs
    exact List.mem_map.2 ⟨p, hp, by rw [e]; rfl⟩
theorem intKeys_nodup (h : OwnI w b n D) : (intKeys D).Nodup := by
  obtain ⟨es, hD, hpw, _⟩ := h.entries keyI
  obtain ⟨es', hD', hko⟩ := h.keysOf
  obtain rfl : es = es' := by rw [hD] at hD'; simpa using hD'
  subst hD
  show (es.map _).Nodup
  rw [List.Nodup, List.pairwise_map]
  refine hpw.imp_of_mem fun {p q} hp hq hne e => hne ?_
  obtain ⟨v, hv⟩ := hko p hp
  obtain ⟨y, _, hy, _⟩ := Maps.keyOf_i64 Tryz.underlying3 hv
  obtain ⟨v', hv'⟩ := hko q hq
  obtain ⟨y', _, hy', _⟩ := Maps.keyOf_i64 Tryz.underlying3 hv'
  rw [hy, hy'] at e ⊢
  have e' : y = y' := e
  rw [e']
theorem intKeys_len (h : OwnI w b n D) : (intKeys D).length ≤ n := by
  have h1 := h.size_le
  obtain ⟨es, rfl, _⟩ := h.keysOf
  simpa [intKeys, Maps.size] using h1
/-- The keys, sorted. -/
theorem keys_sorted (h : OwnI w b n D) {ss : List Int} (hp : ss.Perm (intKeys D)) : (ss.mergeSort leI).Pairwise (· < ·) ∧ (∀ x, x ∈ ss.mergeSort leI ↔ Maps.has D (.int .i64 x) = true) ∧ (∀ x ∈ ss.mergeSort leI, I64 x) ∧ (ss.mergeSort leI).length ≤ n := by
  have tr : ∀ a b c : Int, leI a b = true → leI b c = true → leI a c = true := fun a b c h1 h2 => by simp only [leI, decide_eq_true_eq] at *; exact Int.le_trans h1 h2
  have tt : ∀ a b : Int, (leI a b || leI b a) = true := fun a b => by simp only [leI, Bool.or_eq_true, decide_eq_true_eq]; exact Int.le_total a b
  have hq := (List.mergeSort_perm ss leI).trans hp
  have hnd : (ss.mergeSort leI).Nodup := hq.nodup_iff.2 (intKeys_nodup h)
  have hso := List.pairwise_mergeSort tr tt ss
  refine ⟨?_, fun x => by rw [hq.mem_iff, intKeys_mem h], fun x hx => ?_, by rw [hq.length_eq]; exact intKeys_len h⟩
  · refine (hso.and hnd).imp fun {x y} hxy => ?_
    have h1 := hxy.1
    have h2 := hxy.2
    simp only [leI, decide_eq_true_eq] at h1
    omega
  · exact wf_i64 (intKeys_wf h Tryz.underlying3 x (hq.mem_iff.1 hx))
end
/-- slices.Sort's two contracts, at the fence that asks nothing. -/
theorem sortsA (m : Nat) : AnyZI.SortsIn Tryz.prog Tryz.sortedA_ren Fence.wide m :=
  ⟨fun blk off cap ss W hH hblk hsz => callsIn_wide.2 (AnyM.slices_Sort_int Tryz.sortA blk off cap ss W hH hblk hsz),
   fun p cap W => callsIn_wide.2 (AnyM.slices_Sort_int_none Tryz.sortA p cap W)⟩
theorem keys_call (mb : Option Nat) (W : World) : Calls Tryz.prog 131 #[.map mb] W fun e w' => e = .returned (.func (.func 166) #[] #[.pointer (some ⟨W.heap.size, 0, none⟩)]) ∧ w' = W.alloc (.cells #[.map mb] 160) :=
  (callsIn_wide (n := 5)).1 (AnyZI.keys_in Tryz.keysA Fence.wide 5 trivial rfl mb W)
end Go.Proofs.YtkpjhjoopdbkaaaGreatDoor
namespace Go.Proofs.YtkpjhjoopdbkaaaGreatDoor
open Go.RowKit
theorem Sl.int_at {w : World} {A : Option Addr} {n c : Nat} {l : List Int} (h : Sl w (.slice A n c) n 1 (intCells l)) {k : Nat} (hk : k < n) :
    ∃ b off, A = some ⟨b, off, none⟩ ∧ w.cell? ⟨b, off + k, none⟩ = some (.int .i64 (l.getD k 0)) := by
  have hl := h.len
  rw [intCells_len] at hl
  obtain ⟨b, off, e, hc⟩ := h.at_ (by omega)
  exact ⟨b, off, e, hc k _ (intCells_at (by omega))⟩
theorem pairs_ty : SlTy Tryz.prog 64 67 2 16 := SlTy.mk (z := .agg #[.int .i64 0, .int .i64 0]) (by kernel_rfl) (by kernel_rfl) rfl (by decide)
section
variable {w : World} {b n : Nat} {D : DataW Unit} {g : Int → Int}
theorem look_g (h : OwnI w b n D) (hg : GetD D g) {x : Int} (hx : I64 x) :
    (Instr.lookup 160 (.map (some b)) (.int .i64 x) false).run Tryz.prog w = .ok (.int .i64 (g x)) w ∧ I64 (g x) := by
  obtain ⟨c, hrun, hat, hw⟩ := h.lookup_int keyI Tryz.underlying160 Tryz.underlying3 (zeroI w) (keyOfI hx)
  rw [hg x] at hat
  injection hat with hat; injection hat with _ hat
  rw [hat]
  exact ⟨hrun, wf_i64 hw⟩
end
/-- The rows of some members. -/
def rowsOf (K : List Int) (g : Int → Int) : Row := (K.filter fun x => decide (0 < g x)).map fun x => (x, g x)
theorem rowsOf_snoc (K : List Int) (g : Int → Int) (x : Int) : rowsOf (K ++ [x]) g = rowsOf K g ++ if 0 < g x then [(x, g x)] else [] := by
  unfold rowsOf
  rw [List.filter_append, List.map_append]
  by_cases h : 0 < g x <;> simp [h]
theorem rowsOf_row {K : List Int} {g : Int → Int} {D : DataW Unit} (hK : K.Pairwise (· < ·)) (hm : ∀ x, x ∈ K ↔ Maps.has D (.int .i64 x) = true) (hg : GetD D g) : RowG (rowsOf K g) g := by
  refine ⟨?_, fun p hp => ?_, fun k hk => ?_⟩
  · unfold rowsOf Srt
    rw [List.pairwise_map]
    exact hK.sublist List.filter_sublist
  · unfold rowsOf at hp
    obtain ⟨x, hx, rfl⟩ := List.mem_map.1 hp
    have := (List.mem_filter.1 hx).2
    simp only [decide_eq_true_eq] at this
    exact ⟨this, rfl⟩
  · unfold rowsOf
    refine List.mem_map.2 ⟨k, List.mem_filter.2 ⟨(hm k).2 ?_, by simpa using hk⟩, rfl⟩
    cases hh : Maps.has D (.int .i64 k) with
    | true => rfl
    | false =>
      have h1 := hg k
      rw [Maps.atKey_of_not_has hh] at h1
      injection h1 with h1; injection h1 with _ h1
      omega
theorem take_snocI {K : List Int} {k : Nat} (h : k < K.length) : K.take (k + 1) = K.take k ++ [K.getD k 0] := by
  rw [List.take_succ_eq_append_getElem h, List.getD, List.getElem?_eq_getElem h]; rfl
end Go.Proofs.YtkpjhjoopdbkaaaGreatDoor
namespace Go.Proofs.YtkpjhjoopdbkaaaGreatDoor
/-- The parser goes on; the rows of the net are as they were. -/
structure Mt (K : List Kt) (s s' : Ps) : Prop where
  cols : s'.cols = s.cols
  pls : s'.pls = s.pls
  tks : s'.tks = s.tks
  from_ : s'.from_ = s.from_
  to_ : s'.to_ = s.to_
  le : s.at_ ≤ s'.at_
  in_ : s.at_ ≤ K.length → s'.at_ ≤ K.length
theorem Mv.mt {K : List Kt} {s s' : Ps} (h : Mv K s s') : Mt K s s' := ⟨h.cols, h.pls, h.tks, h.from_, h.to_, h.le, h.in_⟩
theorem Mt.refl {K : List Kt} (s : Ps) : Mt K s s := (Mv.refl s).mt
theorem Mt.trans {K : List Kt} {s a b : Ps} (h : Mt K s a) (k : Mt K a b) : Mt K s b :=
  ⟨k.cols.trans h.cols, k.pls.trans h.pls, k.tks.trans h.tks, k.from_.trans h.from_, k.to_.trans h.to_, Nat.le_trans h.le k.le, fun e => k.in_ (h.in_ e)⟩
section
variable {K : List Kt}
theorem mv_names : ∀ (n : Nat) (l : List ByteArray) (s : Ps), Mv K s (namesP K n l s).2
  | 0, _, s => Mv.refl s
  | n + 1, l, s => by
    unfold namesP
    split
    · rename_i h
      exact ((mv_fresh nobody s).trans (mv_step (take_lt (by decide) h).2)).trans (mv_names n _ _)
    · exact mv_fresh nobody s
theorem mv_colourK (c : Col) (s : Ps) : Mv K s (colourK K c s).2 := by
  unfold colourK
  split
  · rename_i h
    exact (((mv_step (take_lt (by decide) h).2).trans (mv_integer _)).trans (mv_want (by decide) _)).trans (mv_integer _)
  · split
    · rename_i h
      exact (mv_step (take_lt (by decide) h).2).trans (mv_names _ _ _)
    · split
      · rename_i h
        exact (((mv_step (take_lt (by decide) h).2).trans (mv_known _ _)).trans (mv_want (by decide) _)).trans (mv_known _ _)
      · exact mv_wrong _ s
theorem colourS_eq (s : Ps) : ∃ z x, Mv K s z ∧ colourS K s = { z with cols := s.cols ++ [x] } := by
  unfold colourS
  have m := ((((mv_fresh (K := K) (hadT (findCol s)) s).trans (mv_want (x := ⟨#[61]⟩) (by decide) _)).trans (mv_colourK (Col.named (nameV K s)) _)).trans (mv_want (x := ⟨#[59]⟩) (by decide) _))
  exact ⟨_, _, m, by rw [← m.cols]⟩
theorem mv_star (s : Ps) : Mv K s (starS K s) := by
  unfold starS
  split
  · rename_i h; exact (mv_step (take_lt (by decide) h).2).trans (mv_number _)
  · exact Mv.refl s
theorem mv_counts : ∀ (n : Nat) (c : Row) (s : Ps), Mv K s (countsP K n c s).2
  | 0, _, s => Mv.refl s
  | n + 1, c, s => by
    unfold countsP
    simp only
    split
    · rename_i h
      exact (((mv_number s).trans (mv_star _)).trans (mv_step (take_lt (by decide) h).2)).trans (mv_counts n _ _)
    · exact (mv_number s).trans (mv_star _)
theorem mv_first (s : Ps) : Mv K s (firstC K s).2 := by
  unfold firstC
  split
  · rename_i h; exact (mv_step (take_lt (by decide) h).2).trans (mv_counts _ _ _)
  · exact Mv.refl s
theorem placeS_eq (s : Ps) : ∃ z x, Mv K s z ∧ placeS K s = { z with pls := s.pls ++ [x] } := by
  unfold placeS
  have m1 := (mv_fresh (K := K) (hadT (findPl s)) s).trans (mv_want (x := ⟨#[58]⟩) (by decide) _)
  have m := ((m1.trans (mv_known (findCol (wantP K ⟨#[58]⟩ (freshS K (hadT (findPl s)) s))) _)).trans (mv_first _)).trans (mv_want (x := ⟨#[59]⟩) (by decide) _)
  exact ⟨_, _, m, by rw [← m.pls]⟩
theorem mv_kind (s : Ps) : Mv K s (kindS K s) := by
  unfold kindS
  split
  · rename_i h; exact mv_step (take_lt (by decide) h).2
  · split
    · rename_i h; exact mv_step (take_lt (by decide) h).2
    · split
      · rename_i h; exact mv_step (take_lt (by decide) h).2
      · exact mv_wrong _ s
theorem mv_arc (s : Ps) : Mv K s (arcP K s).2 := by
  unfold arcP
  exact (((mv_known _ s).trans (mv_want (by decide) _)).trans (mv_expr _ _)).trans (mv_want (by decide) _)
theorem mv_many (t : Tk) (s : Ps) : Mv K s (manyP K t s).2 := by
  unfold manyP
  exact ((((mv_number s).trans (mv_want (by decide) _)).trans (mv_number _)).trans (mv_want (by decide) _)).trans (mv_number _)
theorem mt_var (t : Tk) (s : Ps) : Mt K s (varP K t s).2 := by
  unfold varP
  have m1 := (mv_fresh (K := K) (hadT (findVar s)) s).trans (mv_want (x := ⟨#[58]⟩) (by decide) _)
  have m := (m1.trans (mv_known (findCol (wantP K ⟨#[58]⟩ (freshS K (hadT (findVar s)) s))) _)).mt
  exact ⟨m.cols, m.pls, m.tks, m.from_, m.to_, m.le, m.in_⟩
theorem mt_clause {x : ByteArray} {t : Tk} {s : Ps} {r : Tk × Ps} (h : clauseP K x t s = some r) : Mt K s r.2 := by
  unfold clauseP at h
  split at h
  · injection h with h; rw [← h]; exact mt_var t s
  split at h
  · injection h with h; rw [← h]; exact (mv_expr 0 s).mt
  split at h
  · injection h with h; rw [← h]; exact (mv_kind s).mt
  split at h
  · injection h with h; rw [← h]; exact (mv_kind s).mt
  split at h
  · injection h with h; rw [← h]; exact (mv_arc s).mt
  split at h
  · injection h with h; rw [← h]; exact (mv_arc s).mt
  split at h
  · injection h with h; rw [← h]; exact (mv_known _ s).mt
  split at h
  · injection h with h; rw [← h]; exact (mv_number s).mt
  split at h
  · injection h with h; rw [← h]; exact (mv_many t s).mt
  · cases h
theorem clause_empty (t : Tk) (s : Ps) : clauseP K ByteArray.empty t s = none := by
  unfold clauseP
  repeat (rw [if_neg (by decide)])
theorem mt_one (u : Ts) : Mt K u.s (oneP K u).s := by
  unfold oneP
  split
  · exact (mv_wrong 4 u.s).mt
  · rename_i r h
    split
    · exact (mv_wrong 5 u.s).mt
    · have hne : seesP K u.s ≠ ByteArray.empty := fun e => by rw [e, clause_empty] at h; cases h
      exact ((mv_step (sees_lt hne).2).mt.trans (mt_clause h)).trans (mv_want (by decide) _).mt
theorem mt_clauses : ∀ (n : Nat) (u : Ts), Mt K u.s (clausesP K n u).s
  | 0, u => Mt.refl _
  | n + 1, u => by
    unfold clausesP
    split
    · split
      · rename_i h; exact (mv_step (take_lt (by decide) h).2).mt
      · exact (mt_one u).trans (mt_clauses n _)
    · exact Mt.refl _
theorem taskS_eq (s : Ps) : ∃ z x, Mt K s z ∧ taskS K s = { z with tks := s.tks ++ [x] } := by
  unfold taskS
  have m0 : Mt K s { s with vars := [] } := ⟨rfl, rfl, rfl, rfl, rfl, Nat.le_refl _, fun h => h⟩
  have m := (m0.trans ((mv_fresh (K := K) (hadT (findTk s)) { s with vars := [] }).trans (mv_want (x := ⟨#[123]⟩) (by decide) _)).mt).trans (mt_clauses (K.length + 1) ⟨Tk.named (nameV K s), [], wantP K ⟨#[123]⟩ (freshS K (hadT (findTk s)) { s with vars := [] })⟩)
  obtain ⟨U, hU⟩ : ∃ U, U = clausesP K (K.length + 1) ⟨Tk.named (nameV K s), [], wantP K ⟨#[123]⟩ (freshS K (hadT (findTk s)) { s with vars := [] })⟩ := ⟨_, rfl⟩
  rw [← hU] at m
  refine ⟨U.s, U.t, m, ?_⟩
  exact (show _ = ({ U.s with tks := U.s.tks ++ [U.t] } : Ps) by rw [hU]).trans (by rw [m.tks])
end
end Go.Proofs.YtkpjhjoopdbkaaaGreatDoor
namespace Go.Proofs.YtkpjhjoopdbkaaaGreatDoor
open Go.RowKit
/-- Counts that may be. -/
def CntOk (c : Row) : Prop := Srt c ∧ ∀ p ∈ c, 0 ≤ p.2 ∧ p.2 ≤ 1048576
theorem CntOk.get {c : Row} (h : CntOk c) (k : Int) : 0 ≤ getM c k ∧ getM c k ≤ 1048576 := by
  by_cases h0 : getM c k = 0
  · omega
  · have := h.2 _ (mem_getM h0); exact this
theorem bump_ok {m n : Int} (hn : 0 ≤ n) : ∀ {c : Row}, (∀ p ∈ c, 0 ≤ p.2 ∧ p.2 ≤ 1048576) → ∀ p ∈ bumpC m n c, 0 ≤ p.2 ∧ p.2 ≤ 1048576
  | [], _, p, hp => by
    rw [bumpC, List.mem_singleton] at hp
    rw [hp]; simp only; omega
  | (x, v) :: r, h, p, hp => by
    rw [bumpC] at hp
    split at hp
    · rcases List.mem_cons.1 hp with rfl | hp
      · simp only; omega
      · exact h p hp
    · split at hp
      · rcases List.mem_cons.1 hp with rfl | hp
        · have := h (x, v) (by simp); simp only at this ⊢; omega
        · exact h p (by simp [hp])
      · rcases List.mem_cons.1 hp with rfl | hp
        · exact h _ (by simp)
        · exact bump_ok hn (fun q hq => h q (by simp [hq])) p hp
theorem CntOk.bump {c : Row} (h : CntOk c) {m n : Int} (hn : 0 ≤ n) : CntOk (bumpC m n c) := ⟨bump_srt h.1, bump_ok hn h.2⟩
/-- The map that holds the counts, of so many entries at most. -/
def MapC (w : World) (b n : Nat) (c : Row) : Prop := ∃ D, OwnI w b n D ∧ GetD D (getM c)
theorem MapC.keep {w W : World} {b n : Nat} {c : Row} {H : Nat → Prop} (h : MapC w b n c) (a : AgH H w W) (hn : ¬ H b) : MapC W b n c := by
  obtain ⟨D, ⟨es, cl, h1, h2⟩, h3⟩ := h
  exact ⟨D, ⟨es, cl, by rw [a.block b (Array.getElem?_eq_some_iff.1 h1).1 hn]; exact h1, h2⟩, h3⟩
theorem MapC.lt {w : World} {b n : Nat} {c : Row} (h : MapC w b n c) : b < w.heap.size := by
  obtain ⟨D, h, _⟩ := h; exact h.lt
theorem getD_bump {D : DataW Unit} {c : Row} (hg : GetD D (getM c)) (hD : Maps.IsMap D) (hs : Srt c) (m n : Int) : GetD (D.put (.int .i64 m) (.lit (.int .i64 (getM c m + min n (1048576 - getM c m))))) (getM (bumpC m n c)) := by
  have h := hg.put hD m (getM c m + min n (1048576 - getM c m))
  have e : (fun j => if j = m then getM c m + min n (1048576 - getM c m) else getM c j) = getM (bumpC m n c) := by
    funext j
    exact (bump_get hs).symm
  rw [e] at h
  exact h
theorem starV_lo (K : List Kt) (s : Ps) : 0 ≤ starV K s ∧ starV K s ≤ 9223372036854775807 := by
  unfold starV
  split
  · exact numb_lo K (stepP s)
  · omega
theorem rows_of {K : List Int} {c : Row} {D : DataW Unit} (hs : Srt c) (hK : K.Pairwise (· < ·)) (hm : ∀ x, x ∈ K ↔ Maps.has D (.int .i64 x) = true) (hg : GetD D (getM c)) : rowsOf K (getM c) = c.filter fun q => decide (0 < q.2) :=
  (rowsOf_row hK hm hg).uniq (filter_row hs)
end Go.Proofs.YtkpjhjoopdbkaaaGreatDoor
