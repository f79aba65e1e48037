/- The queue of package timer in memory; its map of entries. -/
import Derived.Test.YtkcggnfbmbfciaaTimG
import Derived.Maps.OwnSet
namespace Go.Proofs.Ytkcggnfbmbfciaa
open Go.RowKit
abbrev I64 (x : Int) : Prop := -9223372036854775808 ≤ x ∧ x ≤ 9223372036854775807
theorem wf64 {x : Int} (h : I64 x) : (Lit.int .i64 x).wf = true := by
  have hmin : IntKind.i64.min = -9223372036854775808 := rfl
  have hmax : IntKind.i64.max = 9223372036854775807 := rfl
  simp only [Lit.wf, Bool.and_eq_true, decide_eq_true_eq, hmin, hmax]
  exact h
def zD : DataW Unit := .lit (.int .i64 (-1))
def bD (b : Nat) : DataW Unit := .lit (.int .i64 (b : Int))
/-- How an element of the map reads: its block's number. -/
def ptrElem : Value → Option (DataW Unit × List MemPlace)
  | .pointer none => some (zD, [])
  | .pointer (some a) => if a.off = 0 ∧ a.spot = none then some (bD a.block, []) else none
  | _ => none
theorem ptrElem_b {v : Value} {b : Nat} {ps : List MemPlace} (h : ptrElem v = some (bD b, ps)) : v = .pointer (some ⟨b, 0, none⟩) := by
  unfold ptrElem at h
  split at h
  · simp [zD, bD] at h
  · rename_i a
    split at h
    · rename_i ha
      simp [bD] at h
      obtain ⟨h1, _⟩ := h
      obtain ⟨b', o, sp⟩ := a
      simp at ha h1
      obtain ⟨rfl, rfl⟩ := ha
      have : b' = b := by omega
      rw [this]
    · cases h
  · cases h
theorem ptrElem_z {v : Value} {ps : List MemPlace} (h : ptrElem v = some (zD, ps)) : v = .pointer none := by
  unfold ptrElem at h
  split at h
  · rfl
  · split at h
    · simp [zD, bD] at h
    · cases h
  · cases h
abbrev KI (id : Int) : Lit := .int .i64 id
theorem keyI : Maps.Keyed Try.prog 3 := Maps.int_keyed Try.underlying3
theorem keyOfI {id : Int} (h : I64 id) : keyOf Try.prog 3 (.int .i64 id) = some (KI id) := Maps.keyOf_int_mk Try.underlying3 (wf64 h)
theorem zeroPtr (w : World) : (zeroValue 55).run Try.prog w = .ok (.pointer none) w := by kernel_rfl
theorem look_b {w : World} {m n b : Nat} {D : DataW Unit} {id : Int} (h : w.ownsMap Try.prog 3 ptrElem m n D) (hi : I64 id) (hat : D.atKey (KI id) zD = bD b) :
    (Instr.lookup 50 (.map (some m)) (.int .i64 id) false).run Try.prog w = .ok (.pointer (some ⟨b, 0, none⟩)) w := by
  obtain ⟨v, ps, hrun, hv⟩ := h.lookup keyI Try.underlying50 (zeroPtr w) (zd := zD) (zp := []) rfl (keyOfI hi)
  rw [hat] at hv
  rw [hrun, ptrElem_b hv]
theorem look_z {w : World} {m n : Nat} {D : DataW Unit} {id : Int} (h : w.ownsMap Try.prog 3 ptrElem m n D) (hi : I64 id) (hat : D.atKey (KI id) zD = zD) :
    (Instr.lookup 50 (.map (some m)) (.int .i64 id) false).run Try.prog w = .ok (.pointer none) w := by
  obtain ⟨v, ps, hrun, hv⟩ := h.lookup keyI Try.underlying50 (zeroPtr w) (zd := zD) (zp := []) rfl (keyOfI hi)
  rw [hat] at hv
  rw [hrun, ptrElem_z hv]
/-- The map leads each id to its entry. -/
def MapsTo (D : DataW Unit) (hs : List Ent) : Prop := (∀ e ∈ hs, D.atKey (KI e.id) zD = bD e.blk) ∧ ∀ id, (∀ e ∈ hs, e.id ≠ id) → D.atKey (KI id) zD = zD
theorem MapsTo.perm {D : DataW Unit} {hs l : List Ent} (h : MapsTo D hs) (hp : l.Perm hs) : MapsTo D l :=
  ⟨fun e he => h.1 e (hp.mem_iff.1 he), fun id hid => h.2 id fun e he => hid e (hp.mem_iff.2 he)⟩
theorem MapsTo.put {D : DataW Unit} {hs : List Ent} {e : Ent} (h : MapsTo D hs) (hD : Maps.IsMap D) (hn : ∀ x ∈ hs, x.id ≠ e.id) : MapsTo (D.put (KI e.id) (bD e.blk)) (e :: hs) := by
  refine ⟨fun x hx => ?_, fun id hid => ?_⟩
  · rcases List.mem_cons.1 hx with rfl | hx
    · exact Maps.atKey_put_same hD (show WideAt.IsKeyLit (KI x.id) from trivial) _ _
    · rw [Maps.atKey_put_other (fun h1 => hn x hx (by injection h1))]
      exact h.1 x hx
  · rw [Maps.atKey_put_other (fun h1 => hid e (by simp) (by injection h1 with _ h1; exact h1.symm))]
    exact h.2 id fun x hx => hid x (by simp [hx])
theorem MapsTo.del {D : DataW Unit} {hs : List Ent} {e : Ent} (h : MapsTo D (e :: hs)) (hn : ∀ x ∈ hs, x.id ≠ e.id) : MapsTo (D.del (KI e.id)) hs := by
  refine ⟨fun x hx => ?_, fun id hid => ?_⟩
  · rw [Maps.atKey_del_other (fun h1 => hn x hx (by injection h1))]
    exact h.1 x (by simp [hx])
  · by_cases e1 : id = e.id
    · rw [e1]; exact Maps.atKey_del_same _
    · rw [Maps.atKey_del_other (fun h1 => e1 (by injection h1))]
      refine h.2 id fun x hx => ?_
      rcases List.mem_cons.1 hx with rfl | hx
      · exact fun h2 => e1 h2.symm
      · exact hid x hx
/-- A map of so many entries. -/
theorem own_tight {w : World} {m n : Nat} {D : DataW Unit} (h : w.ownsMap Try.prog 3 ptrElem m n D) : w.ownsMap Try.prog 3 ptrElem m (Maps.size D) D := by
  obtain ⟨es, clock, h1, h2, _, rfl⟩ := h
  exact ⟨es, clock, h1, h2, by simp [Maps.size, length_sorted], rfl⟩
theorem own_del {w w0 : World} {m n : Nat} {D : DataW Unit} {id : Int} {k : Lit} (h : w0.ownsMap Try.prog 3 ptrElem m (n + 1) D) (hd : w.ownsMap Try.prog 3 ptrElem m (n + 1) (D.del (KI id))) (hT : Maps.Tidy D) (hh : Maps.has D (KI id) = true) (_ : k = KI id) :
    w.ownsMap Try.prog 3 ptrElem m n (D.del (KI id)) := by
  have h1 := Maps.size_del (k := KI id) hT
  rw [hh, if_pos rfl] at h1
  have h2 := h.size_le
  exact (own_tight hd).mono (by omega)
/-- A queue: its row S; the blocks that it owns. -/
def QAt (w : World) (g : Nat) (own : Nat → Prop) (S : List (Int × Int)) : Prop :=
  ∃ m sl hs D, HeapQ w g (.map (some m)) sl hs ∧ HeapN hs hs.length ∧ Srt hs S ∧ w.ownsMap Try.prog 3 ptrElem m hs.length D ∧ MapsTo D hs ∧ (∀ x, OwnQ g sl hs x → own x) ∧ own m
theorem map_block {w : World} {m n : Nat} {D : DataW Unit} (h : w.ownsMap Try.prog 3 ptrElem m n D) : ∃ es c, w.heap[m]? = some (.map es c) := by
  obtain ⟨es, c, h1, _⟩ := h
  exact ⟨es, c, h1⟩
theorem own_cells {w : World} {g : Nat} {mp sl : Value} {hs : List Ent} (h : HeapQ w g mp sl hs) {x : Nat} (hx : OwnQ g sl hs x) : ∃ cs t, w.heap[x]? = some (.cells cs t (0, 0)) := by
  rcases hx with rfl | h1 | ⟨e, he, rfl⟩
  · exact ⟨_, _, h.q⟩
  · obtain ⟨cur, hc⟩ := own_block h.row h1
    exact ⟨_, _, hc⟩
  · obtain ⟨j, hj, rfl⟩ := List.getElem_of_mem he
    have e2 : gE hs j = hs[j] := by unfold gE; rw [List.getD, List.getElem?_eq_getElem hj]; rfl
    have := h.ent j hj
    rw [e2] at this
    exact ⟨_, _, this⟩
theorem map_apart {w : World} {g m n : Nat} {mp sl : Value} {hs : List Ent} {D : DataW Unit} (h : HeapQ w g mp sl hs) (hm : w.ownsMap Try.prog 3 ptrElem m n D) : ¬ OwnQ g sl hs m := by
  intro hx
  obtain ⟨cs, t, h1⟩ := own_cells h hx
  obtain ⟨es, c, h2⟩ := map_block hm
  rw [h1] at h2
  cases h2
/-- Kept, where its blocks are. -/
theorem HeapQ.kept {w w' : World} {g : Nat} {mp sl : Value} {hs : List Ent} (h : HeapQ w g mp sl hs) (hk : ∀ x, OwnQ g sl hs x → w'.heap[x]? = w.heap[x]?) : HeapQ w' g mp sl hs := by
  refine ⟨(hk g (.inl rfl)).trans h.q, ?_, fun j hj => (hk _ (.inr (.inr ⟨_, List.mem_iff_getElem?.2 ⟨j, gE_some hj⟩, rfl⟩))).trans (h.ent j hj)⟩
  refine ⟨h.row.1, ?_⟩
  rcases h.row.2 with hn | ⟨b, cap, cur, rfl, hb, hgg, rest⟩
  · exact .inl hn
  · exact .inr ⟨b, cap, cur, rfl, hb, (hk b (.inr (.inl rfl))).trans hgg, rest⟩
theorem ownsMap_same {w w' : World} {m n : Nat} {D : DataW Unit} (h : w.ownsMap Try.prog 3 ptrElem m n D) (hk : w'.heap[m]? = w.heap[m]?) : w'.ownsMap Try.prog 3 ptrElem m n D := by
  obtain ⟨es, c, h1, r⟩ := h
  exact ⟨es, c, hk.trans h1, r⟩
theorem QAt.kept {w w' : World} {g : Nat} {own : Nat → Prop} {S : List (Int × Int)} (h : QAt w g own S) (hk : ∀ x, own x → w'.heap[x]? = w.heap[x]?) : QAt w' g own S := by
  obtain ⟨m, sl, hs, D, h1, h2, h3, h4, h5, h6, h7⟩ := h
  exact ⟨m, sl, hs, D, h1.kept fun x hx => hk x (h6 x hx), h2, h3, ownsMap_same h4 (hk m h7), h5, h6, h7⟩
theorem QAt.mono {w : World} {g : Nat} {own own' : Nat → Prop} {S : List (Int × Int)} (h : QAt w g own S) (ho : ∀ x, x < w.heap.size → own x → own' x) : QAt w g own' S := by
  obtain ⟨m, sl, hs, D, h1, h2, h3, h4, h5, h6, h7⟩ := h
  refine ⟨m, sl, hs, D, h1, h2, h3, h4, h5, fun x hx => ?_, ho m h4.lt h7⟩
  obtain ⟨cs, t, hc⟩ := own_cells h1 hx
  exact ho x (Array.getElem?_eq_some_iff.1 hc).1 (h6 x hx)
theorem QAt.drewN {w : World} {g : Nat} {own : Nat → Prop} {S : List (Int × Int)} (h : QAt w g own S) (n : Nat) : QAt (w.drewN n) g own S := h.kept fun _ _ => rfl
theorem QAt.lt {w : World} {g : Nat} {own : Nat → Prop} {S : List (Int × Int)} (h : QAt w g own S) : g < w.heap.size := by
  obtain ⟨m, sl, hs, D, h1, _⟩ := h
  exact (Array.getElem?_eq_some_iff.1 h1.q).1
theorem no_id {hs : List Ent} {S : List (Int × Int)} {id : Int} (h : Srt hs S) (hh : hasP id S = false) : ∀ e ∈ hs, e.id ≠ id := fun _ he => has_false.1 hh _ (h.mem he)
theorem some_id {hs : List Ent} {S : List (Int × Int)} {id : Int} (h : Srt hs S) (hh : hasP id S = true) : ∃ j, j < hs.length ∧ (gE hs j).id = id ∧ (gE hs j).at_ = atP id S := by
  obtain ⟨p, hp, rfl⟩ := has_iff.1 hh
  obtain ⟨e, he, rfl⟩ := h.mem' hp
  obtain ⟨j, hj, rfl⟩ := List.getElem_of_mem he
  have e2 : gE hs j = hs[j] := by unfold gE; rw [List.getD, List.getElem?_eq_getElem hj]; rfl
  exact ⟨j, hj, by rw [e2]; rfl, by rw [e2]; exact (h.2.atP_eq hp).symm⟩
set_option maxHeartbeats 1000000 in
theorem tim_New (w : World) :
    Calls Try.prog 9 #[] w fun e w' => ∃ g, e = .returned (.pointer (some ⟨g, 0, none⟩)) ∧ QAt w' g (fun x => w.heap.size ≤ x) [] ∧ Below w.heap.size w w' := by
  have hmm := @run_makeMap Try.prog
  go_enter Try.func9, Try.ntmps9
  go_wp2
  go_ret
  refine ⟨_, rfl, ⟨w.heap.size, .slice none 0 0, [], .map [], ⟨?_, World.ownsRow_nil _ _ _ _, fun j hj => absurd hj (by simp)⟩, fun k _ hk => absurd hk (by simp), Srt.nil, ?_, ⟨fun e he => absurd he (by simp), fun id _ => rfl⟩, fun x hx => ?_, Nat.le_refl _⟩, ?_⟩
  · have := heap_alloc_new (w.alloc (.map #[] 0)) (.cells #[.slice none 0 0, .map (some w.heap.size)] 54)
    simpa using this
  · exact (World.ownsMap_made w _ _ _).alloc _
  · rcases hx with rfl | h | ⟨e, he, _⟩
    · simp
    · cases h
    · exact absurd he (by simp)
  · exact ((Below.refl _ _).alloc (Nat.le_refl _) _).alloc (by simp) _
theorem QAt.open_ {w : World} {g : Nat} {own : Nat → Prop} {S : List (Int × Int)} (h : QAt w g own S) : ∃ m A c hs D, HeapQ w g (.map (some m)) (.slice A S.length c) hs ∧ hs.length = S.length ∧ HeapN hs hs.length ∧ Srt hs S ∧
    w.ownsMap Try.prog 3 ptrElem m hs.length D ∧ MapsTo D hs ∧ (∀ x, OwnQ g (.slice A S.length c) hs x → own x) ∧ own m := by
  obtain ⟨m, sl, hs, D, h1, h2, h3, h4, h5, h6, h7⟩ := h
  obtain ⟨A, c, rfl, _, _⟩ := own_form h1.row
  have hl := h3.len
  rw [hl] at h1 h6
  exact ⟨m, A, c, hs, D, h1, hl, h2, h3, h4, h5, h6, h7⟩
set_option maxHeartbeats 400000 in
theorem tim_QLen (g : Nat) (own : Nat → Prop) (S : List (Int × Int)) (w : World) (H : Hid (QAt w g own S)) :
    Calls Try.prog 11 #[.pointer (some ⟨g, 0, none⟩)] w fun e w' => e = .returned (.int .i64 (S.length : Int)) ∧ w = w' := by
  obtain ⟨m, A, c, hs, D, h1, _⟩ := H.out.open_
  have q0 := h1.c0
  clear h1
  go_enter Try.func11, Try.ntmps11
  go_wp2
  go_ret
  exact ⟨rfl, rfl⟩
set_option maxHeartbeats 1000000 in
theorem tim_At (g : Nat) (own : Nat → Prop) (S : List (Int × Int)) (id : Int) (w : World) (H : Hid (QAt w g own S)) (hi : I64 id) :
    Calls Try.prog 12 #[.pointer (some ⟨g, 0, none⟩), .int .i64 id] w fun e w' => e = .returned (.tuple #[.int .i64 (atP id S), .bool (hasP id S)]) ∧ w = w' := by
  obtain ⟨m, A, c, hs, D, h1, _, _, h3, h4, h5, _⟩ := H.out.open_
  have q1 := h1.c1
  rcases hh : hasP id S with _ | _
  · have hl := look_z h4 hi (h5.2 id (no_id h3 hh))
    rw [atP_none hh]
    clear h1 h3 h4 h5
    go_enter Try.func12, Try.ntmps12
    go_wp2
    go_ret2
    exact ⟨rfl, rfl⟩
  · obtain ⟨j, hj, e1, e2⟩ := some_id h3 hh
    have hmem : gE hs j ∈ hs := List.mem_iff_getElem?.2 ⟨j, gE_some hj⟩
    have hl := look_b h4 hi (by rw [← e1]; exact h5.1 _ hmem)
    have ha : w.cell? ⟨(gE hs j).blk, 1, none⟩ = some (.int .i64 (atP id S)) := by rw [cell_of_row _ _ _ _ _ _ (h1.ent j hj), ← e2]; rfl
    clear h1 h3 h4 h5 e1 e2
    go_enter Try.func12, Try.ntmps12
    go_wp2
    go_ret2
    exact ⟨rfl, rfl⟩
set_option maxRecDepth 100000 in
set_option maxHeartbeats 1000000 in
theorem tim_Next (g : Nat) (own : Nat → Prop) (S : List (Int × Int)) (w : World) (H : Hid (QAt w g own S)) :
    Calls Try.prog 16 #[.pointer (some ⟨g, 0, none⟩)] w fun e w' => e = .returned (.tuple #[.int .i64 ((S.head?.map (·.1)).getD 0), .int .i64 ((S.head?.map (·.2)).getD 0), .bool (!S.isEmpty)]) ∧ ∃ n, w' = w.drewN n := by
  have cl := fun W (h : QAt W g own S) => Lib.hid (tim_QLen g own S W (Lib.hid h))
  have HQ := Lib.hid H.out
  obtain ⟨m, A, c, hs, D, h1, hl, hh, h3, _⟩ := H.out.open_
  cases S with
  | nil =>
    clear h1 hl hh h3
    go_enter Try.func16, Try.ntmps16
    go_wp2_with fail
    refine (cl _ HQ.out).out.mono ?_
    rintro e w' ⟨rfl, rfl⟩
    go_wp2
    go_ret3
    exact ⟨rfl, 0, rfl⟩
  | cons s S' =>
    have h0 : 0 < hs.length := by rw [hl]; simp
    obtain ⟨S2, hS⟩ := h3.head hh h0
    injection hS with hS _
    have q0 := h1.c0
    rw [← hl] at h1
    obtain ⟨b, cap, e1, hat⟩ := h1.hat h0
    injection e1 with e1 _ e3
    subst e1; subst e3
    have c0 := hat.lies.c h0
    have i0 := hat.lies.i h0
    have a0 := hat.lies.a h0
    have e4 : (gE hs 0).id = s.1 := by rw [hS]; rfl
    have e5 : (gE hs 0).at_ = s.2 := by rw [hS]; rfl
    rw [e4] at i0
    rw [e5] at a0
    obtain ⟨x, hx⟩ : ∃ x, x = (gE hs 0).blk := ⟨_, rfl⟩
    rw [← hx] at c0 i0 a0
    have hcap := hat.lies.le
    rw [hl] at hcap
    have hcap2 := hat.lies.max
    clear hx e4 e5 hS hat h1 h3 hh h0 hl
    obtain ⟨n, hn⟩ : ∃ n, n = S'.length := ⟨_, rfl⟩
    have hsl : (s :: S').length = n + 1 := by simp [hn]
    rw [hsl] at q0 hcap
    have HSL := Lib.hid hsl
    clear hn hsl
    have d0 : (((n : Int) + 1) == 0) = false := by simp; omega
    have d1 : (0 : Int) < (n : Int) + 1 := by omega
    obtain ⟨i1, t1⟩ := s
    simp only at i0 a0
    go_enter Try.func16, Try.ntmps16
    go_wp2_with fail
    refine (cl _ HQ.out).out.mono ?_
    rintro e w' ⟨rfl, rfl⟩
    rw [HSL.out]
    go_wp2
    go_quiet (fail)
    go_wp2
    go_ret3
    exact ⟨rfl, _, rfl⟩
end Go.Proofs.Ytkcggnfbmbfciaa
