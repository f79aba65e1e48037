/- Contracts of package timer: Add, Cancel. -/
import Derived.Test.YtkcggnfbmbfciaaTimH
namespace Go.Proofs.Ytkcggnfbmbfciaa
open Go.RowKit
theorem ptrElem_mk (b : Nat) : ptrElem (.pointer (some ⟨b, 0, none⟩)) = some (bD b, []) := by simp [ptrElem]
/-- What Add leaves. -/
def Added (w : World) (g : Nat) (own : Nat → Prop) (S : List (Int × Int)) (r : Int) (e : Ending) (w' : World) : Prop :=
  e = .returned (.int .i64 r) ∧ QAt w' g (fun x => own x ∨ w.heap.size ≤ x) S ∧ Only own w w'
set_option maxRecDepth 100000 in
set_option maxHeartbeats 1000000 in
theorem tim_Add_yes (g : Nat) (own : Nat → Prop) (S : List (Int × Int)) (id at_ : Int) (w : World) (H : Hid (QAt w g own S)) (hi : I64 id) (hh : Hid (hasP id S = true)) :
    Calls Try.prog 10 #[.pointer (some ⟨g, 0, none⟩), .int .i64 id, .int .i64 at_] w (Added w g own S 5) := by
  obtain ⟨m, A, c, hs, D, h1, _, _, h3, h4, h5, _⟩ := H.out.open_
  have q1 := h1.c1
  obtain ⟨j, hj, e1, e2⟩ := some_id h3 hh.out
  have hmem : gE hs j ∈ hs := List.mem_iff_getElem?.2 ⟨j, gE_some hj⟩
  have hl := look_b h4 hi (by rw [← e1]; exact h5.1 _ hmem)
  clear h1 h3 h4 h5 e1 e2
  go_enter Try.func10, Try.ntmps10
  go_wp2
  go_ret
  exact ⟨rfl, H.out.mono fun x _ hx => .inl hx, Only.refl _ _⟩
set_option maxRecDepth 100000 in
set_option maxHeartbeats 1000000 in
theorem tim_Add_no (g : Nat) (own : Nat → Prop) (S : List (Int × Int)) (id at_ : Int) (w : World) (H : Hid (QAt w g own S)) (hi : I64 id) (hh : Hid (hasP id S = false)) (hn : S.length < 4096) :
    Calls Try.prog 10 #[.pointer (some ⟨g, 0, none⟩), .int .i64 id, .int .i64 at_] w (Added w g own (insP (id, at_) S) 0) := by
  have cl := Lib.hid (tim_QLen g own S w H)
  obtain ⟨m, A, c, hs, D, h1, hl, h2, h3, h4, h5, h6, h7⟩ := H.out.open_
  have q1 := h1.c1
  have hlk := look_z h4 hi (h5.2 id (no_id h3 hh.out))
  obtain ⟨n, hnn⟩ : ∃ n, n = S.length := ⟨_, rfl⟩
  have HN := Lib.hid hnn
  have d0 : ((n : Int) == 4096) = false := by simp; omega
  rw [← hnn] at h1 h6 cl
  have glt : g < w.heap.size := (Array.getElem?_eq_some_iff.1 h1.q).1
  have hpost : ∀ w2, w2.ownsMap Try.prog 3 ptrElem m (hs.length + 1) (D.put (KI id) (bD w.heap.size)) → (w.alloc (.cells #[.int .i64 id, .int .i64 at_, .int .i64 0] 57)).grownBy w2 (some m) →
      HeapQ w2 g (.map (some m)) (.slice A n c) hs ∧ w2.heap[w.heap.size]? = some (.cells #[.int .i64 id, .int .i64 at_, .int .i64 0] 57 (0, 0)) ∧ Only own w w2 ∧ w.heap.size < w2.heap.size := by
    intro w2 ho hg
    have hma := map_apart h1 h4
    have hs2 := hg.size
    simp at hs2
    refine ⟨h1.kept fun x hx => ?_, ?_, ⟨hg.os, hg.tape, hg.output, by omega, fun k hk hn => ?_⟩, by omega⟩
    · obtain ⟨cs, t, hc⟩ := own_cells h1 hx
      have hlt := (Array.getElem?_eq_some_iff.1 hc).1
      rw [hg.block x (by simp; omega) (by rintro e; injection e with e; exact hma (e ▸ hx)), Below.heap_alloc _ _ _ hlt]
    · rw [hg.block w.heap.size (by simp) (by rintro e; injection e with e; have := h4.lt; omega)]
      exact heap_alloc_new w _
    · rw [hg.block k (by simp; omega) (by rintro e; injection e with e; exact hn (e ▸ h7)), Below.heap_alloc _ _ _ hk]
  have HPO := Lib.hid hpost
  have H1 := Lib.hid h1
  have H2 := Lib.hid h2
  have H3 := Lib.hid h3
  have H4 := Lib.hid h4
  have H5 := Lib.hid h5
  have H6 := Lib.hid h6
  have H7 := Lib.hid h7
  have HL := Lib.hid hl
  clear hpost h1 h2 h3 h4 h5 h6 h7 hnn hl
  have hmx : hs.length < maxLen := by rw [HL.out]; unfold maxLen; omega
  go_enter Try.func10, Try.ntmps10
  go_wp2_with (first
    | (go_at_call 11; refine cl.out.mono ?_; rintro e w1 ⟨rfl, rfl⟩)
    | (at_mapUpdate; refine wpList_mapUpdate_own _ rfl _ _ _ 50 rfl 3 55 keyI Try.underlying50 ptrElem m hs.length D rfl (H4.out.alloc _) hmx _ _ (KI id) rfl rfl (keyOfI hi) (bD w.heap.size) [] (ptrElem_mk _) ?_; intro w2 hown2 hgrow2; have HPP := Lib.hid (HPO.out w2 hown2 hgrow2); have HO2 := Lib.hid hown2; clear hown2 hgrow2 q1 hlk))
  have hP := tim_hPush g (.map (some m)) (.slice A n c) (.int .i64 0) hs ⟨w.heap.size, id, at_⟩ w2 (Lib.hid HPP.out.1) (Lib.hid HPP.out.2.1) (Lib.hid (fun j hj e => by
    have h := H1.out.ent j hj
    have := (Array.getElem?_eq_some_iff.1 h).1
    have e' : (gE hs j).blk = w.heap.size := e
    omega)) (by rw [HL.out]; omega) H2
  refine hP.mono ?_
  rintro r w3 ⟨rfl, sl', hs', a1, a2, a3, a4, a5⟩
  have K1 := Lib.hid a1
  have K2 := Lib.hid a2
  have K3 := Lib.hid a3
  have K4 := Lib.hid a4
  have K5 := Lib.hid a5
  clear hP a1 a2 a3 a4 a5
  go_wp2
  go_ret
  have hlen : hs'.length = hs.length + 1 := by rw [K3.out.length_eq]; rfl
  have hno := no_id H3.out hh.out
  have o3 : Only own w w3 := HPP.out.2.2.1.join K4.out (fun _ h => h) (fun x hx h => by
    rcases h with h | h
    · exact H6.out x h
    · have : x = w.heap.size := h
      omega)
  have hma := map_apart HPP.out.1 HO2.out
  have hm3 : w3.heap[m]? = w2.heap[m]? := K4.out.block m HO2.out.lt (fun h => by
    rcases h with h | h
    · exact hma h
    · have h' : m = w.heap.size := h
      have := H4.out.lt
      omega)
  refine ⟨rfl, ⟨m, sl', hs', _, K1.out, K2.out, H3.out.add (e := ⟨w.heap.size, id, at_⟩) hh.out K3.out, ?_, ((H5.out.put (e := ⟨w.heap.size, id, at_⟩) H4.out.isMap hno).perm K3.out), fun x hx => ?_, .inl H7.out⟩, o3⟩
  · rw [hlen]
    exact ownsMap_same HO2.out hm3
  · rcases K5.out x hx with h | h | h
    · exact .inl (H6.out x h)
    · have h' : x = w.heap.size := h
      exact .inr (by omega)
    · exact .inr (by have := HPP.out.2.2.2; omega)
end Go.Proofs.Ytkcggnfbmbfciaa
