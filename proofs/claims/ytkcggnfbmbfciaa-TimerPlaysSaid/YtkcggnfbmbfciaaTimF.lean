/- Contracts of timer's entries: Pop, Swap of one place with itself. -/
import Derived.Test.YtkcggnfbmbfciaaTimE
import Derived.IntWalk
namespace Go.Proofs.Ytkcggnfbmbfciaa
open Go.RowKit
theorem dropLast_get {hs : List Ent} {j : Nat} (h : j < hs.length - 1) : gE hs.dropLast j = gE hs j := by
  have h2 : j < hs.length := by omega
  simp [gE, List.getD, h, h2]
/-- What Pop leaves. -/
theorem pop_world {w : World} {g p : Nat} {mp : Value} {A : Option Addr} {c : Nat} {hs : List Ent} (h : HeapQ w g mp (.slice A (p + 1) c) hs) (hp : hs.length = p + 1) (q : Nat) :
    HeapQ ((w.drewN q).setCell ⟨g, 0, none⟩ (.slice A p c)) g mp (.slice A p c) hs.dropLast ∧ Only (fun x => x = g) w ((w.drewN q).setCell ⟨g, 0, none⟩ (.slice A p c)) ∧ (∀ x, OwnQ g (.slice A p c) hs.dropLast x → OwnQ g (.slice A (p + 1) c) hs x) := by
  have hob : (Value.slice A p c).ownBlock = (Value.slice A (p + 1) c).ownBlock := by cases A <;> rfl
  refine ⟨⟨?_, ?_, ?_⟩, (Only.refl _ _).drewN q |>.set _ _ _ rfl, ?_⟩
  · have := set_same (u := .slice A p c) (o := 0) (h.drewN q).q
    rw [this]; rfl
  · have hr := h.row
    have hrg := h.rowne
    obtain ⟨_, hr⟩ := hr
    rcases hr with ⟨_, h1⟩ | ⟨b, cap, cur, e1, _, hg, hnc, hm, hcs, htk⟩
    · omega
    · injection e1 with e1 e2 e3
      subst e1; subst e3
      refine ⟨by simp, .inr ⟨b, c, cur, ?_, Nat.zero_le _, ?_, by simp; omega, hm, hcs, ?_⟩⟩
      · simp [hp]
      · rw [set_other (fun e => hrg (by rw [← e]; rfl))]
        exact hg
      · rw [List.length_dropLast, hp]
        have : cur.toList.take ((p + 1 - 1) * 1) = (cur.toList.take (hs.length * 1)).take p := by rw [List.take_take, hp]; congr 1; omega
        rw [this, htk, List.dropLast_eq_take, hp, List.map_take]
        rfl
  · intro j hj
    rw [List.length_dropLast] at hj
    rw [dropLast_get hj, set_other (h.entne (by omega))]
    exact h.ent j (by omega)
  · rintro x (rfl | h1 | ⟨e, he, rfl⟩)
    · exact .inl rfl
    · exact .inr (.inl (hob ▸ h1))
    · exact .inr (.inr ⟨e, List.dropLast_subset hs he, rfl⟩)
set_option maxRecDepth 100000 in
set_option maxHeartbeats 1000000 in
theorem tim_mPop (g p b c : Nat) (mp : Value) (hs : List Ent) (w : World) (H : Hid (HeapQ w g mp (.slice (some ⟨b, 0, none⟩) (p + 1) c) hs)) (hp : Hid (hs.length = p + 1)) (hn : p < 8192) :
    Calls Try.prog 75 #[.pointer (some ⟨g, 0, none⟩)] w fun r w' => r = .returned (.iface 55 (ptrV (gE hs p))) ∧
      HeapQ w' g mp (.slice (some ⟨b, 0, none⟩) p c) hs.dropLast ∧ Only (fun x => x = g) w w' ∧ (∀ x, OwnQ g (.slice (some ⟨b, 0, none⟩) p c) hs.dropLast x → OwnQ g (.slice (some ⟨b, 0, none⟩) (p + 1) c) hs x) := by
  have hcc : p + 1 ≤ c ∧ c ≤ 9223372036854775807 := by
    obtain ⟨A', c', e1, hnc, hcm⟩ := own_form H.out.row
    injection e1 with _ _ e3
    exact ⟨by rw [e3, ← hp.out]; exact hnc, by rw [e3]; exact hcm⟩
  obtain ⟨hcc, hcm2⟩ := hcc
  have q0 := H.out.c0
  have f0 := H.out.f 0
  have cp : w.cell? ⟨b, p, none⟩ = some (ptrV (gE hs p)) := by
    obtain ⟨b', cap', e2, hat⟩ := H.out.hat (by rw [hp.out]; omega)
    injection e2 with e2 _ _
    injection e2 with e2
    injection e2 with e2
    subst e2
    exact hat.lies.c (by rw [hp.out]; omega)
  obtain ⟨x, hx⟩ : ∃ x, x = (gE hs p).blk := ⟨_, rfl⟩
  have HX := Lib.hid hx
  have d1 : IntKind.i64.wrap (((p + 1 : Nat) : Int) - 1) = (p : Int) := by
    rw [show ((p + 1 : Nat) : Int) - 1 = (p : Int) by omega]; exact IntWalk.i64_in _ (by omega)
  have d2 : IntKind.i64.wrap ((p : Int) + 1 - 1) = (p : Int) := by
    rw [show (p : Int) + 1 - 1 = (p : Int) by omega]; exact IntWalk.i64_in _ (by omega)
  unfold ptrV at cp ⊢
  rw [← hx] at cp ⊢
  clear hx
  go_enter Try.func75, Try.ntmps75
  go_wp2
  go_quiet (fail)
  go_wp2
  go_region
  all_goals
    go_wp2
    go_ret
    refine ⟨by rw [HX.out]; rfl, ?_⟩
    exact pop_world H.out hp.out _
theorem swp_self {hs : List Ent} {i : Nat} (h : i < hs.length) : swp hs i i = hs := by
  have e : gE hs i = hs[i] := by unfold gE; rw [List.getD, List.getElem?_eq_getElem h]; rfl
  unfold swp
  rw [e, List.set_getElem_self, List.set_getElem_self]
theorem swap_world0 {w : World} {b cap : Nat} {hs : List Ent} {i : Nat} (h : Lies w b cap hs) (hi : i < hs.length) :
    Lies (((((w.setCell ⟨b, i, none⟩ (.pointer (some ⟨(gE hs i).blk, 0, none⟩))).setCell ⟨b, i, none⟩ (.pointer (some ⟨(gE hs i).blk, 0, none⟩))).drew).setCell ⟨(gE hs i).blk, 2, none⟩ (.int .i64 (i : Int))).setCell ⟨(gE hs i).blk, 2, none⟩ (.int .i64 (i : Int))).drew b cap hs ∧
    Only (OwnL b hs) w (((((w.setCell ⟨b, i, none⟩ (.pointer (some ⟨(gE hs i).blk, 0, none⟩))).setCell ⟨b, i, none⟩ (.pointer (some ⟨(gE hs i).blk, 0, none⟩))).drew).setCell ⟨(gE hs i).blk, 2, none⟩ (.int .i64 (i : Int))).setCell ⟨(gE hs i).blk, 2, none⟩ (.int .i64 (i : Int))).drew := by
  have ni := h.ne hi
  refine ⟨⟨h.le, h.max, ?_, fun j hj => ?_⟩, ?_⟩
  · obtain ⟨cur, h1, h2, h3⟩ := h.row
    refine ⟨(cur.setIfInBounds i (.pointer (some ⟨(gE hs i).blk, 0, none⟩))).setIfInBounds i (.pointer (some ⟨(gE hs i).blk, 0, none⟩)), ?_, by simp [h2], ?_⟩
    · show ((((w.setCell _ _).setCell _ _).setCell _ _).setCell _ _).heap[b]? = _
      rw [set_other ni.symm, set_other ni.symm]
      exact set_same (set_same h1)
    · rw [Array.toList_setIfInBounds, Array.toList_setIfInBounds, List.take_set, List.take_set, h3]
      have e1 : (Value.pointer (some ⟨(gE hs i).blk, 0, none⟩)) = ptrV (gE hs i) := rfl
      rw [e1, ← List.map_set, ← List.map_set]
      exact congrArg _ (swp_self hi)
  · show ((((w.setCell _ _).setCell _ _).setCell _ _).setCell _ _).heap[_]? = _
    by_cases e2 : j = i
    · rw [e2]
      have h1 := h.ent i hi
      have h2 : (((w.setCell ⟨b, i, none⟩ (.pointer (some ⟨(gE hs i).blk, 0, none⟩))).setCell ⟨b, i, none⟩ (.pointer (some ⟨(gE hs i).blk, 0, none⟩)))).heap[(gE hs i).blk]? = some (.cells (entCells (gE hs i) i) 57 (0, 0)) := by
        rw [set_other ni, set_other ni]; exact h1
      rw [set_same (set_same h2)]; rfl
    · rw [set_other (h.apart hj hi e2), set_other (h.apart hj hi e2), set_other (h.ne hj), set_other (h.ne hj)]
      exact h.ent j hj
  · exact (((((Only.refl _ _).set _ _ _ (.inl rfl)).set _ _ _ (.inl rfl)).drew.set _ _ _ (OwnL.at_ hi)).set _ _ _ (OwnL.at_ hi)).drew
set_option maxRecDepth 100000 in
set_option maxHeartbeats 1000000 in
theorem tim_Swap0 (b cap : Nat) (hs : List Ent) (i n : Nat) (w : World) (H : Hid (Lies w b cap hs)) (hn : Hid (n = hs.length)) (hi : i < n) :
    Calls Try.prog 74 #[.slice (some ⟨b, 0, none⟩) n cap, .int .i64 (i : Int), .int .i64 (i : Int)] w fun e w' => e = .returned (.tuple #[]) ∧ Lies w' b cap hs ∧ Only (OwnL b hs) w w' := by
  have hi' : i < hs.length := by rw [← hn.out]; exact hi
  have c1 := H.out.c hi'
  have p1 := H.out.p hi'
  have f1 := H.out.f i
  have g1 := H.out.fe hi' 2
  have n1 := H.out.ne hi'
  clear hi'
  obtain ⟨x, hx⟩ : ∃ x, x = (gE hs i).blk := ⟨_, rfl⟩
  rw [← hx] at c1 p1 g1 n1
  have HX := Lib.hid hx
  clear hx
  have hi2 : (i : Int) < (n : Int) := by omega
  have hi0 : (0 : Int) ≤ (i : Int) := by omega
  have n4 : ¬ b = x := fun h => n1 h.symm
  go_enter Try.func74, Try.ntmps74
  go_wp2
  go_region
  all_goals
    obtain ⟨w1, hw1⟩ : ∃ w1, w1 = ((w.setCell ⟨b, i, none⟩ (.pointer (some ⟨x, 0, none⟩))).setCell ⟨b, i, none⟩ (.pointer (some ⟨x, 0, none⟩))).drew := ⟨_, rfl⟩
    rw [← hw1]
    have q1 : w1.cell? ⟨b, i, none⟩ = some (.pointer (some ⟨x, 0, none⟩)) := by rw [hw1]; go_simp
    have q3 : w1.cell? ⟨x, 2, none⟩ = some (.int .i64 (i : Int)) := by rw [hw1]; go_simp
    have q5 : w1.frozen? ⟨x, 2, none⟩ = false := by rw [hw1]; go_simp
    have HW := Lib.hid hw1
    clear hw1 c1 p1 f1 g1
    go_wp2
    go_region
    all_goals
      go_wp2
      go_end0
      refine ⟨rfl, ?_⟩
      have hi' : i < hs.length := by rw [← hn.out]; exact hi
      have hsw := swap_world0 H.out hi'
      rw [← HX.out, ← HW.out] at hsw
      exact hsw
end Go.Proofs.Ytkcggnfbmbfciaa
