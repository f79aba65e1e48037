/- Contracts of package timer: Cancel. -/
import Derived.Test.YtkcggnfbmbfciaaTimI
namespace Go.Proofs.Ytkcggnfbmbfciaa
open Go.RowKit
/-- What is left where the entry x is out. -/
def TookW (g : Nat) (mp sl : Value) (hs : List Ent) (x : Ent) (w w' : World) : Prop :=
  ∃ sl' hs', HeapQ w' g mp sl' hs' ∧ HeapN hs' hs'.length ∧ hs.Perm (x :: hs') ∧ Only (OwnQ g sl hs) w w' ∧ (∀ y, OwnQ g sl' hs' y → OwnQ g sl hs y)
theorem TookW.drew {g : Nat} {mp sl : Value} {hs : List Ent} {x : Ent} {w w' : World} (h : TookW g mp sl hs x w w') : TookW g mp sl hs x w w'.drew := by
  obtain ⟨sl', hs', h1, h2, h3, h4, h5⟩ := h
  exact ⟨sl', hs', h1.kept (fun _ _ => rfl), h2, h3, h4.drew, h5⟩
theorem TookW.drewN {g : Nat} {mp sl : Value} {hs : List Ent} {x : Ent} {w w' : World} (h : TookW g mp sl hs x w w') (n : Nat) : TookW g mp sl hs x w (w'.drewN n) := by
  obtain ⟨sl', hs', h1, h2, h3, h4, h5⟩ := h
  exact ⟨sl', hs', h1.drewN n, h2, h3, h4.drewN n, h5⟩
theorem TookW.of_drewN {g : Nat} {mp sl : Value} {hs : List Ent} {x : Ent} {w w' : World} {n : Nat} (h : TookW g mp sl hs x (w.drewN n) w') : TookW g mp sl hs x w w' := by
  obtain ⟨sl', hs', h1, h2, h3, h4, h5⟩ := h
  exact ⟨sl', hs', h1, h2, h3, ⟨h4.os, h4.tape, h4.output, h4.size, h4.block⟩, h5⟩
theorem TookW.of_drew {g : Nat} {mp sl : Value} {hs : List Ent} {x : Ent} {w w' : World} (h : TookW g mp sl hs x w.drew w') : TookW g mp sl hs x w w' := by
  obtain ⟨sl', hs', h1, h2, h3, h4, h5⟩ := h
  exact ⟨sl', hs', h1, h2, h3, ⟨h4.os, h4.tape, h4.output, h4.size, h4.block⟩, h5⟩
/-- A queue without the entry x, once the map has let go of it. -/
theorem took_q {w w1 w2 : World} {g m : Nat} {own : Nat → Prop} {S : List (Int × Int)} {sl : Value} {hs : List Ent} {D : DataW Unit} {x : Ent} (h3 : Srt hs S) (h5 : MapsTo D hs) (h6 : ∀ y, OwnQ g sl hs y → own y) (h7 : own m)
    (hT : TookW g (.map (some m)) sl hs x w w1) (hw1 : w1.ownsMap Try.prog 3 ptrElem m hs.length D) (hd : w2.ownsMap Try.prog 3 ptrElem m hs.length (D.del (KI x.id))) (ht : w1.mapTurned w2 m) :
    QAt w2 g own (delP x.id S) ∧ hasP x.id S = true ∧ Only own w w2 := by
  obtain ⟨sl', hs', a1, a2, a3, a4, a5⟩ := hT
  obtain ⟨s1, s2⟩ := h3.del a3
  have hg := ht.grown
  have hma : ¬ OwnQ g sl' hs' m := map_apart a1 hw1
  have hids : ∀ y ∈ hs', y.id ≠ x.id := by
    intro y hy e
    have h8 := no_id s1 (id := x.id) (by
      rw [has_false]
      intro p hp
      have := (List.mem_filter.1 hp).2
      simpa using this) y hy
    exact h8 e
  have hlen : hs.length = hs'.length + 1 := a3.length_eq
  have hhas : Maps.has D (KI x.id) = true := by
    rcases hh : Maps.has D (KI x.id) with _ | _
    · have e1 := Maps.atKey_of_not_has hh zD
      rw [h5.1 x (a3.mem_iff.2 (by simp))] at e1
      simp [bD, zD] at e1
    · rfl
  refine ⟨⟨m, sl', hs', _, a1.kept fun y hy => ?_, a2, s1, ?_, (h5.perm a3.symm).del hids, fun y hy => h6 y (a5 y hy), h7⟩, s2, ?_⟩
  · obtain ⟨cs, t, hc⟩ := own_cells a1 hy
    exact hg.block y (Array.getElem?_eq_some_iff.1 hc).1 (by rintro e; injection e with e; exact hma (e ▸ hy))
  · rw [hlen] at hd hw1
    exact own_del hw1 hd (hw1.tidy keyI) hhas rfl
  · exact a4.join ⟨hg.os, hg.tape, hg.output, hg.size, fun k hk hn => hg.block k hk (by rintro e; injection e with e; exact hn e)⟩ h6 (fun y _ (hy : y = m) => hy ▸ h7)
/-- What Cancel leaves. -/
def Turned (w : World) (g : Nat) (own : Nat → Prop) (S : List (Int × Int)) (r : Int) (e : Ending) (w' : World) : Prop :=
  e = .returned (.int .i64 r) ∧ QAt w' g own S ∧ Only own w w'
theorem delP_none {id : Int} {S : List (Int × Int)} (h : hasP id S = false) : delP id S = S := by
  unfold delP
  rw [List.filter_eq_self]
  intro p hp
  have := has_false.1 h p hp
  simpa using this
set_option maxRecDepth 100000 in
set_option maxHeartbeats 1000000 in
theorem tim_Cancel_no (g : Nat) (own : Nat → Prop) (S : List (Int × Int)) (id : Int) (w : World) (H : Hid (QAt w g own S)) (hi : I64 id) (hh : Hid (hasP id S = false)) :
    Calls Try.prog 13 #[.pointer (some ⟨g, 0, none⟩), .int .i64 id] w (Turned w g own S 3) := by
  obtain ⟨m, A, c, hs, D, h1, hl, h2, h3, h4, h5, h6, h7⟩ := H.out.open_
  have q1 := h1.c1
  have hlk := look_z h4 hi (h5.2 id (no_id h3 hh.out))
  clear h1 hl h2 h3 h4 h5 h6 h7
  go_enter Try.func13, Try.ntmps13
  go_wp2
  go_ret
  exact ⟨rfl, H.out, Only.refl _ _⟩
set_option maxRecDepth 100000 in
set_option maxHeartbeats 1000000 in
theorem tim_Cancel_yes (g : Nat) (own : Nat → Prop) (S : List (Int × Int)) (id : Int) (w : World) (H : Hid (QAt w g own S)) (hi : I64 id) (hh : Hid (hasP id S = true)) (hn : S.length < 8192) :
    Calls Try.prog 13 #[.pointer (some ⟨g, 0, none⟩), .int .i64 id] w (Turned w g own (delP id S) 0) := by
  obtain ⟨m, A, c, hs, D, h1, hl, h2, h3, h4, h5, h6, h7⟩ := H.out.open_
  have q1 := h1.c1
  obtain ⟨j, hj, e1, _⟩ := some_id h3 hh.out
  have hmem : gE hs j ∈ hs := List.mem_iff_getElem?.2 ⟨j, gE_some hj⟩
  have hlk := look_b h4 hi (by rw [← e1]; exact h5.1 _ hmem)
  have hp : w.cell? ⟨(gE hs j).blk, 2, none⟩ = some (.int .i64 (j : Int)) := by rw [cell_of_row _ _ _ _ _ _ (h1.ent j hj)]; rfl
  have hR := fun n => Lib.hid (tim_hRemove g j (.map (some m)) (.slice A S.length c) hs (w.drewN n) (Lib.hid (h1.drewN n)) (Lib.hid hj) (by omega) (Lib.hid h2))
  obtain ⟨n, hnn⟩ : ∃ n, n = S.length := ⟨_, rfl⟩
  rw [← hnn] at hR h1 h6
  obtain ⟨x, hx⟩ : ∃ x, x = (gE hs j).blk := ⟨_, rfl⟩
  rw [← hx] at hlk hp
  have H1 := Lib.hid h1
  have H3 := Lib.hid h3
  have H4 := Lib.hid h4
  have H5 := Lib.hid h5
  have H6 := Lib.hid h6
  have H7 := Lib.hid h7
  have E1 := Lib.hid e1
  clear h1 h2 h3 h4 h5 h6 h7 hnn hl hx e1 hmem hj
  go_enter Try.func13, Try.ntmps13
  go_wp2
  go_cut [] (fun wx => Hid (TookW g (.map (some m)) (.slice A n c) hs (gE hs j) w wx))
  case first =>
    go_region_with (go_at_call 26; refine (hR _).out.mono ?_; rintro e w' ⟨v, sl', hs', rfl, hT⟩; have HT := Lib.hid (TookW.of_drewN ⟨sl', hs', hT⟩); clear hT)
    all_goals (go_wp2_with fail; go_meet; exact HT)
  case rest =>
    have q1c : wc.cell? ⟨g, 1, none⟩ = some (.map (some m)) := by
      obtain ⟨sl', hs', a1, _⟩ := hcut.out
      exact a1.c1
    have hma := map_apart H1.out H4.out
    have hoc : wc.ownsMap Try.prog 3 ptrElem m hs.length D := by
      obtain ⟨sl', hs', _, _, _, a4, _⟩ := hcut.out
      exact ownsMap_same H4.out (a4.block m H4.out.lt hma)
    have HC := Lib.hid hoc
    clear hoc hma q1 hlk hp hR
    go_wp2_with (at_delete; refine wpList_delete_own _ rfl _ _ 50 3 rfl 55 keyI Try.underlying50 ptrElem m hs.length D rfl HC.out _ _ rfl (keyOfI hi) ?_; intro w2 hown2 hturn2; have HO2 := Lib.hid hown2; have HT2 := Lib.hid hturn2; clear hown2 hturn2)
    go_ret
    have E := E1.out
    have hq := took_q H3.out H5.out H6.out H7.out hcut.out HC.out (by rw [E]; exact HO2.out) HT2.out
    rw [E] at hq
    exact ⟨rfl, hq.1, hq.2.2⟩
theorem tim_Cancel (g : Nat) (own : Nat → Prop) (S : List (Int × Int)) (id : Int) (w : World) (H : Hid (QAt w g own S)) (hi : I64 id) (hn : S.length < 8192) :
    Calls Try.prog 13 #[.pointer (some ⟨g, 0, none⟩), .int .i64 id] w (Turned w g own (delP id S) (if hasP id S then 0 else 3)) := by
  rcases hh : hasP id S with _ | _
  · rw [delP_none hh]
    exact tim_Cancel_no g own S id w H hi (Lib.hid hh)
  · exact tim_Cancel_yes g own S id w H hi (Lib.hid hh) hn
/-- A row with one more. -/
def addP (id at_ : Int) (S : List (Int × Int)) : List (Int × Int) := if hasP id S then S else insP (id, at_) S
theorem tim_Add (g : Nat) (own : Nat → Prop) (S : List (Int × Int)) (id at_ : Int) (w : World) (H : Hid (QAt w g own S)) (hi : I64 id) (hn : S.length < 4096) :
    Calls Try.prog 10 #[.pointer (some ⟨g, 0, none⟩), .int .i64 id, .int .i64 at_] w (Added w g own (addP id at_ S) (if hasP id S then 5 else 0)) := by
  unfold addP
  rcases hh : hasP id S with _ | _
  · exact tim_Add_no g own S id at_ w H hi (Lib.hid hh) hn
  · exact tim_Add_yes g own S id at_ w H hi (Lib.hid hh)
end Go.Proofs.Ytkcggnfbmbfciaa
