/- What package check tells: plain laws. -/
import Derived.Test.YtaeeblceedklnaaGreatDoorCkP
namespace Go.Proofs.YtaeeblceedklnaaGreatDoor
open Go.RowKit
theorem firstE_zero : ∀ {L : List (Bool × Int)}, firstE L = 0 → (∀ q ∈ L, q.2 = 0 → q.1 = true) → ∀ q ∈ L, q.1 = true
  | [], _, _, q, hq => by cases hq
  | p :: r, h, hn, q, hq => by
    rw [firstE] at h
    by_cases h1 : p.1 = true
    · rw [if_pos h1] at h
      rcases List.mem_cons.1 hq with rfl | hq
      · exact h1
      · exact firstE_zero h (fun q hq => hn q (List.mem_cons_of_mem _ hq)) q hq
    · rw [if_neg h1] at h
      exact absurd (hn p (by simp) h) h1
theorem firstE_all : ∀ {L : List (Bool × Int)}, (∀ q ∈ L, q.1 = true) → firstE L = 0
  | [], _ => rfl
  | p :: r, h => by rw [firstE, if_pos (h p (by simp))]; exact firstE_all fun q hq => h q (List.mem_cons_of_mem _ hq)
theorem among_iff {n : Nat} {k : Int} : amongB n k = true ↔ 0 ≤ k ∧ k < (n : Int) := by unfold amongB; simp
structure TaskOk (N : Nt) (k : Nat) (t : Tk) : Prop where
  free : freeB t.name = true
  once : ∀ x ∈ N.tks.take k, x.name ≠ t.name
  sizes : sizesB t = true
  vars : varsE N.cols.length t.vars = 0
  binds : bindsE N k ≤ 1024
  guard : rightT t.vars.length t.guard = true
  ins : 0 < t.ins.length
  outs : 0 < t.outs.length
  insOk : arcsE N.pls.length t.vars.length t.ins = 0
  outsOk : arcsE N.pls.length t.vars.length t.outs = 0
  cancels : cancelsE N.pls.length t.cancel = 0
  kinds : kindsB t = true
theorem any_not {α : Type} {l : List α} {p : α → Prop} [DecidablePred p] : (!l.any fun x => decide (p x)) = true ↔ ∀ x ∈ l, ¬ p x := by simp
theorem taskB_ok {N : Nt} {k : Nat} {t : Tk} : taskB N k t = 0 ↔ (colsE N.cols).2 = 0 ∧ TaskOk N k t := by
  unfold taskB
  by_cases hc : (colsE N.cols).2 = 0
  · rw [if_pos hc]
    constructor
    · intro h
      have h2 := firstE_zero h (by
        intro q hq h0
        simp only [List.mem_cons, List.not_mem_nil, or_false] at hq
        rcases hq with rfl | rfl | rfl | rfl | rfl | rfl | rfl | rfl | rfl | rfl <;> first | (simp only at h0; rw [h0]; rfl) | (simp at h0))
      simp only [List.mem_cons, List.not_mem_nil, or_false] at h2
      have g := h2 _ (.inr (.inr (.inr (.inr (.inr (.inl rfl))))))
      simp only [Bool.and_eq_true, decide_eq_true_eq] at g
      exact ⟨hc, h2 _ (.inl rfl), any_not.1 (h2 _ (.inr (.inl rfl))), h2 _ (.inr (.inr (.inl rfl))), of_decide_eq_true (h2 _ (.inr (.inr (.inr (.inl rfl))))), of_decide_eq_true (h2 _ (.inr (.inr (.inr (.inr (.inl rfl)))))),
        g.1, g.2.1, g.2.2, of_decide_eq_true (h2 _ (.inr (.inr (.inr (.inr (.inr (.inr (.inl rfl)))))))), of_decide_eq_true (h2 _ (.inr (.inr (.inr (.inr (.inr (.inr (.inr (.inl rfl))))))))), of_decide_eq_true (h2 _ (.inr (.inr (.inr (.inr (.inr (.inr (.inr (.inr (.inl rfl)))))))))), h2 _ (.inr (.inr (.inr (.inr (.inr (.inr (.inr (.inr (.inr rfl))))))))) ⟩
    · rintro ⟨_, h⟩
      refine firstE_all fun q hq => ?_
      simp only [List.mem_cons, List.not_mem_nil, or_false] at hq
      rcases hq with rfl | rfl | rfl | rfl | rfl | rfl | rfl | rfl | rfl | rfl
      · exact h.free
      · exact any_not.2 h.once
      · exact h.sizes
      · exact decide_eq_true h.vars
      · exact decide_eq_true h.binds
      · simp only [Bool.and_eq_true, decide_eq_true_eq]; exact ⟨h.guard, h.ins, h.outs⟩
      · exact decide_eq_true h.insOk
      · exact decide_eq_true h.outsOk
      · exact decide_eq_true h.cancels
      · exact h.kinds
  · rw [if_neg hc]
    exact ⟨fun h => absurd h hc, fun h => absurd h.1 hc⟩
structure HeadOk (N : Nt) : Prop where
  pls : N.pls.length ≤ 64
  tks : N.tks.length ≤ 64
  f0 : 0 ≤ N.from_
  f1 : N.from_ < (N.pls.length : Int)
  t0 : 0 ≤ N.to_
  t1 : N.to_ < (N.pls.length : Int)
  ne : N.from_ ≠ N.to_
theorem headE_ok {N : Nt} : headE N = 0 ↔ HeadOk N := by
  unfold headE
  constructor
  · intro h
    have h2 := firstE_zero h (by
      intro q hq h0
      simp only [List.mem_cons, List.not_mem_nil, or_false] at hq
      rcases hq with rfl | rfl | rfl <;> (simp at h0))
    simp only [List.mem_cons, List.not_mem_nil, or_false] at h2
    have a := h2 _ (.inl rfl)
    have b := h2 _ (.inr (.inl rfl))
    have c := h2 _ (.inr (.inr rfl))
    simp only [Bool.and_eq_true, decide_eq_true_eq, among_iff, Bool.not_eq_true', decide_eq_false_iff_not] at a b c
    exact ⟨a.1, a.2, b.1.1, b.1.2, b.2.1, b.2.2, c⟩
  · intro h
    refine firstE_all fun q hq => ?_
    simp only [List.mem_cons, List.not_mem_nil, or_false] at hq
    rcases hq with rfl | rfl | rfl
    · simp only [Bool.and_eq_true, decide_eq_true_eq]; exact ⟨h.pls, h.tks⟩
    · simp only [Bool.and_eq_true, among_iff]; exact ⟨⟨h.f0, h.f1⟩, h.t0, h.t1⟩
    · simp only [Bool.not_eq_true', decide_eq_false_iff_not]; exact h.ne
/-- A net that is well formed. -/
structure NetOk (N : Nt) : Prop where
  head : HeadOk N
  cols : (colsE N.cols).2 = 0
  pls : ∀ k, k < N.pls.length → placeE N k = 0
  tks : ∀ k, k < N.tks.length → TaskOk N k (N.tks.getD k default)
theorem taskE_at {N : Nt} {k : Nat} (hk : k < N.tks.length) : taskE N k = taskB N k (N.tks.getD k default) := by
  unfold taskE
  rw [if_pos (among_iff.2 ⟨by omega, by omega⟩), Int.toNat_natCast]
theorem netE_ok {N : Nt} : (netE N).2.2 = 0 ↔ NetOk N := by
  unfold netE
  by_cases h1 : headE N = 0
  · rw [if_pos h1]
    by_cases h2 : (colsE N.cols).2 = 0
    · rw [if_pos h2]
      by_cases h3 : (eachE (fun k => placeE N k) N.pls.length).2 = 0
      · rw [if_pos h3]
        by_cases h4 : (eachE (fun k => taskE N k) N.tks.length).2 = 0
        · rw [if_pos h4]
          refine ⟨fun _ => ⟨headE_ok.1 h1, h2, eachE_zero.1 h3, fun k hk => ?_⟩, fun _ => rfl⟩
          have := eachE_zero.1 h4 k hk
          rw [taskE_at hk] at this
          exact (taskB_ok.1 this).2
        · rw [if_neg h4]
          refine ⟨fun h => absurd h h4, fun h => absurd (eachE_zero.2 fun k hk => ?_) h4⟩
          rw [taskE_at hk]
          exact taskB_ok.2 ⟨h2, h.tks k hk⟩
      · rw [if_neg h3]
        exact ⟨fun h => absurd h h3, fun h => absurd (eachE_zero.2 h.pls) h3⟩
    · rw [if_neg h2]
      exact ⟨fun h => absurd h h2, fun h => absurd h.cols h2⟩
  · rw [if_neg h1]
    exact ⟨fun h => absurd h h1, fun h => absurd (headE_ok.2 h.head) h1⟩
theorem netE_zero {N : Nt} (h : (netE N).2.2 = 0) : netE N = (0, 0, 0) := by
  unfold netE at h ⊢
  split at h
  · rename_i h1
    split at h
    · rename_i h2
      split at h
      · rename_i h3
        split at h
        · rename_i h4
          rw [if_pos h1, if_pos h2, if_pos h3, if_pos h4]
        · exact absurd h ‹_›
      · exact absurd h ‹_›
    · exact absurd h ‹_›
  · exact absurd h ‹_›
/-- A net without one of its tasks. -/
def lessT (N : Nt) (k : Nat) : Nt := { N with tks := N.tks.take k ++ N.tks.drop (k + 1) }
theorem less_len {N : Nt} {k : Nat} (hk : k < N.tks.length) : (lessT N k).tks.length + 1 = N.tks.length := by
  unfold lessT
  simp only [List.length_append, List.length_take, List.length_drop]
  omega
/-- Where a task of the lesser net stood. -/
def upT (k j : Nat) : Nat := if j < k then j else j + 1
theorem less_at {N : Nt} {k j : Nat} (hk : k < N.tks.length) (hj : j < (lessT N k).tks.length) : upT k j < N.tks.length ∧ (lessT N k).tks.getD j default = N.tks.getD (upT k j) default := by
  have hl := less_len hk
  refine ⟨by unfold upT; split <;> omega, ?_⟩
  show (N.tks.take k ++ N.tks.drop (k + 1)).getD j default = _
  have h1 : (N.tks.take k).length = k := by rw [List.length_take]; omega
  unfold upT
  by_cases h : j < k
  · rw [if_pos h]
    simp [List.getD, List.getElem?_append_left (show j < (N.tks.take k).length by omega), h]
  · rw [if_neg h]
    have h2 : (N.tks.take k ++ N.tks.drop (k + 1))[j]? = N.tks[j + 1]? := by
      rw [List.getElem?_append_right (by omega), h1, List.getElem?_drop]
      congr 1; omega
    simp [List.getD, h2]
theorem less_take {N : Nt} {k j : Nat} (hk : k < N.tks.length) : ∀ x ∈ (lessT N k).tks.take j, x ∈ N.tks.take (upT k j) := by
  intro x hx
  have e : (lessT N k).tks.take j = (N.tks.take k).take j ++ (N.tks.drop (k + 1)).take (j - k) := by
    show (N.tks.take k ++ N.tks.drop (k + 1)).take j = _
    rw [List.take_append, List.length_take, Nat.min_eq_left (by omega)]
  rw [e, List.mem_append] at hx
  unfold upT
  rcases hx with hx | hx
  · rw [List.take_take] at hx
    have : min j k ≤ if j < k then j else j + 1 := by split <;> omega
    exact (List.take_subset_take_left _ this) hx
  · by_cases h : j < k
    · rw [show j - k = 0 by omega] at hx
      simp at hx
    · rw [if_neg h]
      have h2 : (N.tks.drop (k + 1)).take (j - k) = (N.tks.take (j + 1)).drop (k + 1) := by
        rw [List.drop_take]; congr 1; omega
      rw [h2] at hx
      exact List.mem_of_mem_drop hx
theorem less_ok {N : Nt} {k : Nat} (hk : k < N.tks.length) (h : NetOk N) : NetOk (lessT N k) := by
  have hl := less_len hk
  refine ⟨⟨h.head.pls, by have := h.head.tks; omega, h.head.f0, h.head.f1, h.head.t0, h.head.t1, h.head.ne⟩, h.cols, h.pls, fun j hj => ?_⟩
  obtain ⟨h1, h2⟩ := less_at hk hj
  have g := h.tks _ h1
  rw [h2]
  have hb : bindsE (lessT N k) j = bindsE N (upT k j) := by
    unfold bindsE
    rw [if_pos (among_iff.2 ⟨by omega, by omega⟩), if_pos (among_iff.2 ⟨by omega, by omega⟩), Int.toNat_natCast, Int.toNat_natCast, h2]
    rfl
  exact ⟨g.free, fun x hx => g.once x (less_take hk x hx), g.sizes, g.vars, by rw [hb]; exact g.binds, g.guard, g.ins, g.outs, g.insOk, g.outsOk, g.cancels, g.kinds⟩
theorem bindsG_pos {L : List Col} : ∀ {l : List Vr} {b : Int}, 1 ≤ b → (∀ v ∈ l, 1 ≤ sizeAt L v.colour) → 1 ≤ bindsG L b l
  | [], b, h, _ => h
  | v :: r, b, h, hv => by
    have h1 := hv v (by simp)
    rw [bindsG, if_neg (by omega)]
    refine bindsG_pos ?_ fun x hx => hv x (List.mem_cons_of_mem _ hx)
    have : 1 * 1 ≤ b * sizeAt L v.colour := Int.mul_le_mul h h1 (by omega) (by omega)
    omega
theorem bindsG_range {L : List Col} : ∀ {l : List Vr} {b : Int}, 0 ≤ b → b ≤ 1025 → (∀ v ∈ l, 0 ≤ sizeAt L v.colour) → 0 ≤ bindsG L b l ∧ bindsG L b l ≤ 1025
  | [], b, h, h2, _ => ⟨h, h2⟩
  | v :: r, b, h, h2, hv => by
    rw [bindsG]
    split
    · omega
    · have h1 := hv v (by simp)
      have h3 : 0 ≤ b * sizeAt L v.colour := Int.mul_nonneg h h1
      exact bindsG_range (by omega) (by omega) fun x hx => hv x (List.mem_cons_of_mem _ hx)
theorem sizesG_few : ∀ (L : List Col) (had : List (List UInt8)) (out ss : List Int), sizesG had out L = some ss → Few1024 out → Few1024 ss
  | [], had, out, ss, h, hf => by
    rw [sizesG] at h
    injection h with h
    rw [← h]; exact hf
  | c :: r, had, out, ss, h, hf => by
    rw [sizesG] at h
    split at h
    · rename_i hg
      simp only [Bool.and_eq_true, decide_eq_true_eq] at hg
      exact sizesG_few r _ _ ss h (hf.snoc hg.1.2 hg.2)
    · cases h
theorem sizesF_few {L : List Col} {ss : List Int} (h : sizesF L = some ss) : Few1024 ss := by
  unfold sizesF at h
  split at h
  · cases h
  · exact sizesG_few L _ _ ss h fun x hx => by cases hx
theorem sizeAt_range (L : List Col) (k : Int) : 0 ≤ sizeAt L k ∧ sizeAt L k ≤ 1024 := by
  unfold sizeAt
  rcases hs : sizesF L with _ | ss
  · simp
  · simp only
    split
    · rename_i h
      have h1 := (sizesF_few hs).at_ (k := k.toNat) (by rw [(sizesF_at hs).1]; omega)
      omega
    · omega
theorem sizeAt_pos {L : List Col} {k : Int} (h : (sizesF L).isSome = true) (hk : amongB L.length k = true) : 1 ≤ sizeAt L k := by
  rw [among_iff] at hk
  unfold sizeAt
  rcases hs : sizesF L with _ | ss
  · rw [hs] at h; cases h
  · simp only
    rw [if_pos hk]
    exact ((sizesF_few hs).at_ (k := k.toNat) (by rw [(sizesF_at hs).1]; omega)).1
theorem colsE_some {L : List Col} (h : (colsE L).2 = 0) : (sizesF L).isSome = true := by
  by_cases h0 : L.length = 0
  · rw [List.eq_nil_of_length_eq_zero h0]; rfl
  · have := eachE_zero.1 h (L.length - 1) (by omega)
    unfold colourE colourB at this
    rw [show L.length - 1 + 1 = L.length by omega, List.take_length] at this
    split at this
    · rename_i h1
      simp only [Bool.and_eq_true] at h1
      exact h1.1
    · cases this
theorem vars_among {m : Nat} {l : List Vr} (h : varsE m l = 0) : ∀ k, k < l.length → freeB (l.getD k default).name = true ∧ (∀ x ∈ l.take k, x.name ≠ (l.getD k default).name) ∧ amongB m (l.getD k default).colour = true := by
  intro k hk
  have h1 := eachE_zero.1 h k hk
  unfold varE at h1
  have h2 := firstE_zero h1 (by
    intro q hq h0
    simp only [List.mem_cons, List.not_mem_nil, or_false] at hq
    rcases hq with rfl | rfl | rfl <;> (simp at h0))
  simp only [List.mem_cons, List.not_mem_nil, or_false] at h2
  exact ⟨h2 _ (.inl rfl), any_not.1 (h2 _ (.inr (.inl rfl))), h2 _ (.inr (.inr rfl))⟩
theorem binds_ok {N : Nt} (h : NetOk N) {k : Nat} (hk : k < N.tks.length) : 1 ≤ bindsE N k ∧ bindsE N k ≤ 1024 := by
  have g := h.tks k hk
  refine ⟨?_, g.binds⟩
  unfold bindsE
  rw [if_pos (among_iff.2 ⟨by omega, by omega⟩), Int.toNat_natCast]
  refine bindsG_pos (by omega) fun v hv => ?_
  obtain ⟨j, hj, rfl⟩ := List.mem_iff_getElem.1 hv
  have h2 := (vars_among g.vars j hj).2.2
  have e : (N.tks.getD k default).vars.getD j default = (N.tks.getD k default).vars[j] := by rw [List.getD, List.getElem?_eq_getElem hj]; rfl
  rw [e] at h2
  exact sizeAt_pos (colsE_some h.cols) h2
theorem placeE_ok {N : Nt} {k : Nat} (hk : k < N.pls.length) (h : placeE N k = 0) : freeB (N.pls.getD k default).name = true ∧ ∀ x ∈ N.pls.take k, x.name ≠ (N.pls.getD k default).name := by
  unfold placeE at h
  rw [if_pos (among_iff.2 ⟨by omega, by omega⟩), Int.toNat_natCast] at h
  have h2 := firstE_zero h (by
    intro q hq h0
    simp only [List.mem_cons, List.not_mem_nil, or_false] at hq
    rcases hq with rfl | rfl | rfl | rfl | rfl <;> (simp at h0))
  simp only [List.mem_cons, List.not_mem_nil, or_false] at h2
  exact ⟨h2 _ (.inl rfl), any_not.1 (h2 _ (.inr (.inl rfl)))⟩
/-- What Net tells, if it is not OK. -/
theorem netE_told {N : Nt} (h : (netE N).2.2 ≠ 0) : ((netE N).1 = 1) ∨ ((netE N).1 = 2 ∧ (netE N).2.2 = 8) ∨ ((netE N).1 = 3 ∧ placeE N (netE N).2.1 = (netE N).2.2) ∨ ((netE N).1 = 4 ∧ taskE N (netE N).2.1 = (netE N).2.2) := by
  unfold netE at h ⊢
  split at h
  · rename_i h1
    rw [if_pos h1]
    split at h
    · rename_i h2
      rw [if_pos h2]
      split at h
      · rename_i h3
        rw [if_pos h3]
        split at h
        · exact absurd rfl h
        · rename_i h4
          rw [if_neg h4]
          obtain ⟨j, _, hj, e⟩ := seekE_at (f := fun k => taskE N k) h4
          refine .inr (.inr (.inr ⟨rfl, ?_⟩))
          unfold eachE
          rw [e]
      · rename_i h3
        rw [if_neg h3]
        obtain ⟨j, _, hj, e⟩ := seekE_at (f := fun k => placeE N k) h3
        refine .inr (.inr (.inl ⟨rfl, ?_⟩))
        unfold eachE
        rw [e]
    · rename_i h2
      rw [if_neg h2]
      obtain ⟨j, _, hj, e⟩ := seekE_at (f := colourE N.cols) h2
      refine .inr (.inl ⟨rfl, ?_⟩)
      show (colsE N.cols).2 = 8
      unfold colsE eachE at h2 ⊢
      rw [e] at h2 ⊢
      show colourE N.cols j = 8
      by_cases h5 : colourB N.cols j = true
      · exact absurd (show colourE N.cols j = 0 by unfold colourE; rw [if_pos h5]) h2
      · unfold colourE; rw [if_neg h5]
  · rename_i h1
    rw [if_neg h1]
    exact .inl rfl
/-- A place that can be come to. -/
inductive ReachP (N : Nt) : Int → Prop where
  | from_ : ReachP N N.from_
  | first (k : Nat) (hk : k < N.pls.length) (h : (N.pls.getD k default).first ≠ []) : ReachP N k
  | step (k : Nat) (hk : k < N.tks.length) (a : Ar) (ha : a ∈ (N.tks.getD k default).ins) (h : ReachP N a.place) (c : Ar) (hc : c ∈ (N.tks.getD k default).outs) : ReachP N c.place
/-- A task that can be come to. -/
def ReachT (N : Nt) (k : Int) : Prop := ∃ j : Nat, k = j ∧ j < N.tks.length ∧ ∃ a ∈ (N.tks.getD j default).ins, ReachP N a.place
theorem less_reach {N : Nt} {k : Nat} (hk : k < N.tks.length) {x : Int} (h : ReachP (lessT N k) x) : ReachP N x := by
  induction h with
  | from_ => exact .from_
  | first j hj h => exact .first j hj h
  | step j hj a ha _ c hc ih =>
    obtain ⟨h1, h2⟩ := less_at hk hj
    rw [h2] at ha hc
    exact .step _ h1 a ha ih c hc
theorem less_reachT {N : Nt} {k : Nat} (hk : k < N.tks.length) {j : Nat} (h : ReachT (lessT N k) (j : Int)) : ReachT N (upT k j : Nat) := by
  obtain ⟨i, e, hi, a, ha, hr⟩ := h
  obtain rfl : j = i := by omega
  obtain ⟨h1, h2⟩ := less_at hk hi
  rw [h2] at ha
  exact ⟨_, rfl, h1, a, ha, less_reach hk hr⟩
theorem up_inj {k a b : Nat} (h : upT k a = upT k b) : a = b := by
  unfold upT at h
  split at h <;> split at h <;> omega
/-- A rising row of just these. -/
def RowOf (l : List Int) (p : Int → Prop) : Prop := l.Pairwise (· < ·) ∧ ∀ x, x ∈ l ↔ p x
theorem RowOf.uniq {l m : List Int} {p : Int → Prop} (h : RowOf l p) (g : RowOf m p) : l = m := by
  have hp : l.Perm m := by
    refine (List.perm_ext_iff_of_nodup (h.1.imp fun hab e => ?_) (g.1.imp fun hab e => ?_)).2 fun x => (h.2 x).trans (g.2 x).symm <;> omega
  exact hp.eq_of_pairwise (fun a b _ _ h1 h2 => by omega) h.1 g.1
theorem len_sub : ∀ {l m : List Int}, l.Nodup → (∀ x ∈ l, x ∈ m) → l.length ≤ m.length
  | [], m, _, _ => Nat.zero_le _
  | a :: l, m, hn, hs => by
    obtain ⟨h1, h2⟩ := List.nodup_cons.1 hn
    have ha := hs a (by simp)
    have := len_sub (l := l) (m := m.erase a) h2 fun x hx => (List.mem_erase_of_ne (by rintro rfl; exact h1 hx)).2 (hs x (List.mem_cons_of_mem _ hx))
    rw [List.length_erase_of_mem ha] at this
    have hp : 0 < m.length := List.length_pos_of_mem ha
    rw [List.length_cons]
    omega
theorem RowOf.le {l m : List Int} {p q : Int → Prop} (h : RowOf l p) (g : RowOf m q) (f : Int → Int) (hf : ∀ a ∈ l, ∀ b ∈ l, f a = f b → a = b) (hm : ∀ a ∈ l, q (f a)) : l.length ≤ m.length := by
  have hn : (l.map f).Nodup := by
    rw [List.nodup_iff_pairwise_ne, List.pairwise_map]
    refine (List.pairwise_iff_getElem.2 fun i j hi hj hij e => ?_)
    have := hf _ (List.getElem_mem hi) _ (List.getElem_mem hj) e
    have h2 := List.pairwise_iff_getElem.1 h.1 i j hi hj hij
    omega
  have hs : ∀ x ∈ l.map f, x ∈ m := by
    intro x hx
    obtain ⟨a, ha, rfl⟩ := List.mem_map.1 hx
    exact (g.2 _).2 (hm a ha)
  have := len_sub hn hs
  rwa [List.length_map] at this
theorem less_lens {N : Nt} {k : Nat} (hk : k < N.tks.length) {a b c d : List Int} (ha : RowOf a (ReachP N)) (hb : RowOf b (ReachT N)) (hc : RowOf c (ReachP (lessT N k))) (hd : RowOf d (ReachT (lessT N k))) :
    c.length ≤ a.length ∧ d.length ≤ b.length ∧ ∀ x ∈ c, x ∈ a := by
  refine ⟨hc.le ha id (fun _ _ _ _ h => h) fun x hx => less_reach hk ((hc.2 x).1 hx), ?_, fun x hx => (ha.2 x).2 (less_reach hk ((hc.2 x).1 hx))⟩
  refine hd.le hb (fun x => (upT k x.toNat : Nat)) (fun x hx y hy e => ?_) fun x hx => ?_
  · obtain ⟨i, rfl, _⟩ := (hd.2 x).1 hx
    obtain ⟨j, rfl, _⟩ := (hd.2 y).1 hy
    have e' : upT k i = upT k j := by
      have e2 : ((upT k i : Nat) : Int) = (upT k j : Nat) := by simpa using e
      omega
    rw [up_inj e']
  · obtain ⟨i, rfl, h⟩ := (hd.2 x).1 hx
    rw [Int.toNat_natCast]
    exact less_reachT hk ((hd.2 _).1 hx)
end Go.Proofs.YtaeeblceedklnaaGreatDoor
