/- Clone of kids. -/
import Derived.Test.YtmfdiclbenmfbaaDoorExprSa
import Derived.Test.YtmfdiclbenmfbaaDoorExprE
import Derived.Test.YtmfdiclbenmfbaaDoorOpenR
import Derived.Lib.SmallJoins
import Derived.Deep.SlicePairs
namespace Go.Proofs.YtmfdiclbenmfbaaDoor
open Go.RowKit Go.Lib Go.Deep
theorem kids_ty : SlTy Tryd.prog 22 24 3 40 := SlTy.mk (z := .agg #[.int .i64 0, .int .i64 0, .slice none 0 0]) (by kernel_rfl) (by kernel_rfl) rfl (by decide)
theorem own_form {w : World} {base : Nat} {e : TypeId} {size n : Nat} {v : Value} {xs : List Value} (h : w.ownsRow base e size v n xs) : ∃ A c, v = .slice A n c ∧ n ≤ c ∧ c ≤ 9223372036854775807 := by
  rcases h.2 with ⟨rfl, rfl⟩ | ⟨g, cap, cur, rfl, _, _, hnc, hm, _⟩
  · exact ⟨none, 0, rfl, Nat.le_refl _, by omega⟩
  · exact ⟨_, cap, rfl, hnc, hm⟩
/-- The kids' cells as one list. -/
theorem kids_sl {w : World} {A : Option Addr} {m c : Nat} {t : Tr} (h : TrAt w A m c t) : ∃ R : Nat → Option Addr × Nat × Nat, (∀ j, j < m → TrAt w (R j).1 (R j).2.1 (R j).2.2 (t.kids.getD j default)) ∧
    Sl w (.slice A m c) m 3 ((List.range m).flatMap fun j => [.int .i64 (t.kids.getD j default).kind, .int .i64 (t.kids.getD j default).num, .slice (R j).1 (R j).2.1 (R j).2.2]) := by
  obtain ⟨hl, hc, hc9⟩ := h.len
  by_cases h0 : m = 0
  · subst h0
    exact ⟨fun _ => (none, 0, 0), fun j hj => by omega, A, c, rfl, hc, hc9, by simp, fun h => absurd h (by omega)⟩
  · obtain ⟨b, off, e, _⟩ := h.kid (j := 0) (by omega)
    have each : ∀ j, j < m → ∃ x : Option Addr × Nat × Nat, KidAt w b (off + j * 3) x.1 x.2.1 x.2.2 (t.kids.getD j default) := fun j hj => by
      obtain ⟨b', off', e', A', m', c', hK⟩ := h.kid hj
      rw [e] at e'
      injection e' with e'
      injection e' with e1 e2
      subst e1; subst e2
      exact ⟨(A', m', c'), hK⟩
    obtain ⟨R, hR⟩ := choose_lt (α := Option Addr × Nat × Nat) (p := fun j x => KidAt w b (off + j * 3) x.1 x.2.1 x.2.2 (t.kids.getD j default)) each
    refine ⟨R, fun j hj => (hR j hj).tr, A, c, rfl, hc, hc9, ?_, fun _ => ⟨b, off, e, fun j u hu => ?_⟩⟩
    · rw [flat_len (m := 3) _ _ (fun _ _ => rfl), List.length_range]
    · rw [flat_get (m := 3) _ (by omega) _ (fun _ _ => rfl)] at hu
      rw [Option.bind_eq_some_iff] at hu
      obtain ⟨i, hi, hu⟩ := hu
      have hj3 : j / 3 < m := by
        rcases Nat.lt_or_ge (j / 3) m with h | h
        · exact h
        · rw [List.getElem?_eq_none (by simpa using h)] at hi; cases hi
      rw [List.getElem?_range hj3] at hi
      injection hi with hi
      subst hi
      have hK := hR _ hj3
      have hr : j % 3 = 0 ∨ j % 3 = 1 ∨ j % 3 = 2 := by omega
      rcases hr with hr | hr | hr <;> rw [hr] at hu <;> injection hu with hu <;> subst hu
      · rw [show off + j = off + j / 3 * 3 by omega]; exact hK.c0
      · rw [show off + j = off + j / 3 * 3 + 1 by omega]; exact hK.c1
      · rw [show off + j = off + j / 3 * 3 + 2 by omega]; exact hK.c2
/-- A kid's cells alone. -/
structure KidC (w : World) (b o : Nat) (A : Option Addr) (m c : Nat) (t : Tr) : Prop where
  c0 : w.cell? ⟨b, o, none⟩ = some (.int .i64 t.kind)
  c1 : w.cell? ⟨b, o + 1, none⟩ = some (.int .i64 t.num)
  c2 : w.cell? ⟨b, o + 2, none⟩ = some (.slice A m c)
theorem KidC.same {w w' : World} {b o : Nat} {A : Option Addr} {m c : Nat} {t : Tr} (h : KidC w b o A m c t) (hh : ∀ i, i < 3 → w'.cell? ⟨b, o + i, none⟩ = w.cell? ⟨b, o + i, none⟩) : KidC w' b o A m c t := ⟨(hh 0 (by omega)).trans h.c0, (hh 1 (by omega)).trans h.c1, (hh 2 (by omega)).trans h.c2⟩
/-- What Clone tells. -/
def ClP (w0 : World) (t : Tr) (m : Nat) (w : World) (e : Ending) (w' : World) : Prop :=
  ∃ A2 c2, e = .returned (.slice A2 m c2) ∧ m ≤ c2 ∧ c2 ≤ 9223372036854775807 ∧ Below w.heap.size w w' ∧ (m = 0 ∨ ∃ g cur, A2 = some ⟨g, 0, none⟩ ∧ w.heap.size ≤ g ∧ w'.heap[g]? = some (.cells cur 24 (0, 0)) ∧ m * 3 ≤ cur.size ∧ ∀ j, j < m → ∃ A' m' c', KidC w' g (j * 3) A' m' c' (t.kids.getD j default) ∧ TrAt w0 A' m' c' (t.kids.getD j default))
set_option maxRecDepth 100000 in
set_option maxHeartbeats 1000000 in
theorem clone_kids (t : Tr) (A : Option Addr) (m c : Nat) (w0 w : World) (h : Hid (TrAt w0 A m c t)) (hb0 : Hid (Below w0.heap.size w0 w)) (hm : m < 1000000) :
    Calls Tryd.prog 47 #[.slice A m c] w (ClP w0 t m w) := by
  have qT : ∀ (w : World) (a : Option Addr) (n c n' c' : Nat), (binOp .eql 22 (.slice a n c) (.slice none n' c')).run Tryd.prog w = .ok (.bool a.isNone) w := fun w a n c n' c' => Lib.run_eql_slice_nil w _ _ a n c n' c' Tryd.underlying22
  obtain ⟨hl, hc, hc9⟩ := h.out.len
  rcases A with _ | a
  · have h0 : m = 0 := by
      rcases Nat.eq_zero_or_pos m with h0 | h0
      · exact h0
      · obtain ⟨b, off, h, _⟩ := h.out.kid h0
        cases h
    subst h0
    clear hl
    go_enter Tryd.func47, Tryd.ntmps47
    go_wp2
    go_ret
    exact ⟨none, 0, rfl, by omega, by omega, Below.refl _ _, .inl rfl⟩
  · obtain ⟨R, hR, hS⟩ := kids_sl h.out
    obtain ⟨xs, hxs⟩ : ∃ xs, xs = (List.range m).flatMap fun j => [Value.int .i64 (t.kids.getD j default).kind, .int .i64 (t.kids.getD j default).num, .slice (R j).1 (R j).2.1 (R j).2.2] := ⟨_, rfl⟩
    have h1 : ∀ u ∈ xs, u.oneCell' = true := by
      intro u hu
      rw [hxs, List.mem_flatMap] at hu
      obtain ⟨j, _, hu⟩ := hu
      simp only [List.mem_cons, List.not_mem_nil, or_false] at hu
      rcases hu with rfl | rfl | rfl <;> rfl
    rw [← hxs] at hS
    have hown := Lib.hid (World.ownsRow_made w (base := w.heap.size) (e := 24) (size := 3) #[] 0 (Nat.le_refl _) (by decide) rfl)
    have hsrc := Lib.hid ((hS.below hb0.out).below ((Below.refl _ w).alloc (Nat.le_refl _) (.cells #[] 24)))
    have HR := Lib.hid hR
    have HXS := Lib.hid hxs
    have H1 := Lib.hid h1
    clear hl hS hR hxs h1
    go_enter Tryd.func47, Tryd.ntmps47
    go_wp2_with (at_builtin; refine wpList_append_sl kids_ty rfl (.tmp 5) (.tmp 6) rfl w.heap.size rfl (by exact hown.out) rfl (by exact hsrc.out) H1.out (by omega) (by omega) (by simp) ?_; intro v4 w4 hown4 hg4 hat4; rw [Nat.zero_add, List.nil_append] at hown4; obtain ⟨A4, c4, rfl, _, _⟩ := own_form hown4; have HO := Lib.hid hown4; have HG := Lib.hid hg4; clear hown4 hg4 hat4)
    go_ret
    have hb4 := below_grown (((Below.refl _ w).alloc (Nat.le_refl _) (.cells #[] 24))) HG.out hown.out (Nat.le_refl _) (by simp)
    refine ⟨A4, c4, rfl, ?_, ?_, hb4, ?_⟩
    · obtain ⟨_, ⟨hv, h0⟩ | ⟨g, cap, cur, hv, _, _, hn, _⟩⟩ := HO.out
      · omega
      · cases hv
        exact hn
    · obtain ⟨_, ⟨hv, h0⟩ | ⟨g, cap, cur, hv, _, _, hn, hx, _⟩⟩ := HO.out
      · cases hv
        omega
      · cases hv
        unfold maxLen at hx
        exact hx
    · obtain ⟨hxl, ⟨_, h0⟩ | ⟨g, cap, cur, hv, hbg, hh, hn, hx, hcs, htake⟩⟩ := HO.out
      · exact .inl h0
      · injection hv with hv _ hcap
        subst hcap
        refine .inr ⟨g, cur, hv, hbg, hh, by omega, fun j hj => ⟨(R j).1, (R j).2.1, (R j).2.2, ?_, HR.out j hj⟩⟩
        have hcell : ∀ i, i < 3 → w4.cell? ⟨g, j * 3 + i, none⟩ = [Value.int .i64 (t.kids.getD j default).kind, .int .i64 (t.kids.getD j default).num, .slice (R j).1 (R j).2.1 (R j).2.2][i]? := fun i hi => by
          rw [cell_of_row _ _ _ _ _ _ hh]
          have e1 : cur[j * 3 + i]? = (cur.toList.take (m * 3))[j * 3 + i]? := by
            rw [List.getElem?_take, if_pos (by omega)]; simp
          rw [e1, htake, HXS.out, flat_get (m := 3) _ (by omega) _ (fun _ _ => rfl), show (j * 3 + i) / 3 = j by omega, show (j * 3 + i) % 3 = i by omega, List.getElem?_range hj]
          rfl
        exact ⟨hcell 0 (by omega), hcell 1 (by omega), hcell 2 (by omega)⟩
end Go.Proofs.YtmfdiclbenmfbaaDoor
