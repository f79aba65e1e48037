/- Contracts of timer's entries: Len, Push, Pop, Swap of one place. -/
import Derived.Test.YtkcggnfbmbfciaaTimC
import Derived.OwnWalk
import Derived.Deep.DeepMust
namespace Go.Proofs.Ytkcggnfbmbfciaa
open Go.RowKit
/-- The queue's struct, its row, its entries. -/
structure HeapQ (w : World) (g : Nat) (mp sl : Value) (hs : List Ent) : Prop where
  q : w.heap[g]? = some (.cells #[sl, mp] 54 (0, 0))
  row : w.ownsRow 0 55 1 sl hs.length (hs.map ptrV)
  ent : ∀ j, j < hs.length → w.heap[(gE hs j).blk]? = some (.cells (entCells (gE hs j) j) 57 (0, 0))
/-- Its blocks. -/
def OwnQ (g : Nat) (sl : Value) (hs : List Ent) (x : Nat) : Prop := x = g ∨ sl.ownBlock = some x ∨ ∃ e ∈ hs, x = e.blk
theorem own_form {w : World} {base : Nat} {e : TypeId} {size n : Nat} {v : Value} {xs : List Value} (h : w.ownsRow base e size v n xs) : ∃ A c, v = .slice A n c ∧ n ≤ c ∧ c ≤ 9223372036854775807 := by
  rcases h.2 with ⟨rfl, rfl⟩ | ⟨g, cap, cur, rfl, _, _, hnc, hm, _⟩
  · exact ⟨none, 0, rfl, Nat.le_refl _, by omega⟩
  · exact ⟨_, cap, rfl, hnc, hm⟩
theorem own_block {w : World} {base : Nat} {e : TypeId} {size n : Nat} {v : Value} {xs : List Value} (h : w.ownsRow base e size v n xs) {x : Nat} (hx : v.ownBlock = some x) : ∃ cur, w.heap[x]? = some (.cells cur e (0, 0)) := by
  rcases h.2 with ⟨rfl, rfl⟩ | ⟨g, cap, cur, rfl, _, hg, _⟩
  · cases hx
  · injection hx with hx
    subst hx
    exact ⟨cur, hg⟩
theorem HeapQ.rowne {w : World} {g : Nat} {mp sl : Value} {hs : List Ent} (h : HeapQ w g mp sl hs) : sl.ownBlock ≠ some g := by
  intro e
  obtain ⟨cur, hc⟩ := own_block h.row e
  rw [h.q] at hc
  injection hc with hc; injection hc with _ hc _
  exact absurd hc (by decide)
theorem HeapQ.entne {w : World} {g : Nat} {mp sl : Value} {hs : List Ent} (h : HeapQ w g mp sl hs) {j : Nat} (hj : j < hs.length) : (gE hs j).blk ≠ g := by
  intro e
  have hc := h.ent j hj
  rw [e, h.q] at hc
  injection hc with hc; injection hc with _ hc _
  exact absurd hc (by decide)
theorem HeapQ.entrow {w : World} {g : Nat} {mp sl : Value} {hs : List Ent} (h : HeapQ w g mp sl hs) {j : Nat} (hj : j < hs.length) : sl.ownBlock ≠ some (gE hs j).blk := by
  intro e
  obtain ⟨cur, hc⟩ := own_block h.row e
  rw [h.ent j hj] at hc
  injection hc with hc; injection hc with _ hc _
  exact absurd hc (by decide)
theorem HeapQ.c0 {w : World} {g : Nat} {mp sl : Value} {hs : List Ent} (h : HeapQ w g mp sl hs) : w.cell? ⟨g, 0, none⟩ = some sl := by rw [cell_of_row _ _ _ _ _ _ h.q]; rfl
theorem HeapQ.c1 {w : World} {g : Nat} {mp sl : Value} {hs : List Ent} (h : HeapQ w g mp sl hs) : w.cell? ⟨g, 1, none⟩ = some mp := by rw [cell_of_row _ _ _ _ _ _ h.q]; rfl
theorem HeapQ.f {w : World} {g : Nat} {mp sl : Value} {hs : List Ent} (h : HeapQ w g mp sl hs) (o : Nat) : w.frozen? ⟨g, o, none⟩ = false := by simp [World.frozen?, h.q]
theorem HeapQ.drewN {w : World} {g : Nat} {mp sl : Value} {hs : List Ent} (h : HeapQ w g mp sl hs) (n : Nat) : HeapQ (w.drewN n) g mp sl hs := ⟨h.q, h.row, h.ent⟩
/-- Down to the heap's own words. -/
theorem HeapQ.hat {w : World} {g : Nat} {mp sl : Value} {hs : List Ent} (h : HeapQ w g mp sl hs) (h0 : 0 < hs.length) : ∃ b cap, sl = .slice (some ⟨b, 0, none⟩) hs.length cap ∧ HAt w g b cap hs := by
  have hq := h.c0
  obtain ⟨hl, hr⟩ := h.row
  rcases hr with ⟨rfl, h1⟩ | ⟨b, cap, cur, rfl, _, hg, hnc, hm, hcs, htk⟩
  · omega
  · refine ⟨b, cap, rfl, ⟨hnc, hm, ⟨cur, hg, by simpa using hcs, by simpa using htk⟩, h.ent⟩, hq⟩
/-- And up. -/
theorem HeapQ.of_hat {w w' : World} {g b cap : Nat} {mp : Value} {hs hs' : List Ent} (h : HeapQ w g mp (.slice (some ⟨b, 0, none⟩) hs.length cap) hs) (hl : HAt w' g b cap hs') (hlen : hs'.length = hs.length) (ho : Only (OwnL b hs) w w') :
    HeapQ w' g mp (.slice (some ⟨b, 0, none⟩) hs'.length cap) hs' := by
  have hng : ¬ OwnL b hs g := by
    rintro (rfl | ⟨e, he, rfl⟩)
    · exact h.rowne rfl
    · obtain ⟨j, hj, rfl⟩ := List.getElem_of_mem he
      have e2 : gE hs j = hs[j] := by unfold gE; rw [List.getD, List.getElem?_eq_getElem hj]; rfl
      exact h.entne hj (by rw [e2])
  obtain ⟨cur, h1, h2, h3⟩ := hl.lies.row
  refine ⟨?_, ⟨by simp, .inr ⟨b, cap, cur, rfl, Nat.zero_le _, h1, hl.lies.le, hl.lies.max, by simpa using h2, by simpa using h3⟩⟩, hl.lies.ent⟩
  rw [ho.block g (Array.getElem?_eq_some_iff.1 h.q).1 hng, h.q, hlen]
theorem OwnQ.of_l {g b n cap : Nat} {hs : List Ent} {x : Nat} (h : OwnL b hs x) : OwnQ g (.slice (some ⟨b, 0, none⟩) n cap) hs x := by
  rcases h with rfl | h
  · exact .inr (.inl rfl)
  · exact .inr (.inr h)
set_option maxHeartbeats 400000 in
theorem tim_Len (A : Option Addr) (n c : Nat) (w : World) :
    Calls Try.prog 72 #[.slice A n c] w fun e w' => e = .returned (.int .i64 (n : Int)) ∧ w = w' := by
  go_enter Try.func72, Try.ntmps72
  go_wp2
  go_ret
  exact ⟨rfl, rfl⟩
theorem ety : SlTy Try.prog 52 55 1 8 := SlTy.mk (z := .pointer none) (by kernel_rfl) (by kernel_rfl) rfl (by decide)
/-- What Push leaves. -/
theorem push_world {w w4 : World} {g : Nat} {mp sl v4 p0 : Value} {hs : List Ent} {e : Ent} (h : HeapQ w g mp sl hs) (he : w.heap[e.blk]? = some (.cells #[.int .i64 e.id, .int .i64 e.at_, p0] 57 (0, 0)))
    (hne : ∀ j, j < hs.length → (gE hs j).blk ≠ e.blk) (hgr : ((w.setCell ⟨e.blk, 2, none⟩ (.int .i64 (hs.length : Int))).alloc (.cells #[ptrV e] 55)).grownBy w4 sl.ownBlock)
    (hown : w4.ownsRow 0 55 1 v4 (hs.length + 1) (hs.map ptrV ++ [ptrV e])) (hloc : v4.ownBlock = sl.ownBlock ∨ v4.ownBlock = some (w.heap.size + 1)) :
    HeapQ (w4.setCell ⟨g, 0, none⟩ v4) g mp v4 (hs ++ [e]) ∧ Only (fun x => OwnQ g sl hs x ∨ x = e.blk) w (w4.setCell ⟨g, 0, none⟩ v4) ∧ (∀ x, OwnQ g v4 (hs ++ [e]) x → OwnQ g sl hs x ∨ x = e.blk ∨ w.heap.size ≤ x) := by
  have heg : e.blk ≠ g := by
    intro h1
    rw [h1, h.q] at he
    injection he with he; injection he with _ he _
    exact absurd he (by decide)
  have her : sl.ownBlock ≠ some e.blk := by
    intro h1
    obtain ⟨cur, hc⟩ := own_block h.row h1
    rw [he] at hc
    injection hc with hc; injection hc with _ hc _
    exact absurd hc (by decide)
  have hsz : ((w.setCell ⟨e.blk, 2, none⟩ (.int .i64 (hs.length : Int))).alloc (.cells #[ptrV e] 55)).heap.size = w.heap.size + 1 := by simp [World.setCell]
  have glt : g < w.heap.size := (Array.getElem?_eq_some_iff.1 h.q).1
  have elt : e.blk < w.heap.size := (Array.getElem?_eq_some_iff.1 he).1
  have old : ∀ x, x < w.heap.size → x ≠ e.blk → sl.ownBlock ≠ some x → w4.heap[x]? = w.heap[x]? := by
    intro x hx h1 h2
    rw [hgr.block x (by rw [hsz]; omega) (fun h3 => h2 h3.symm), Below.heap_alloc _ _ _ (by simpa [World.setCell] using hx), set_other h1]
  have hq4 : w4.heap[g]? = some (.cells #[sl, mp] 54 (0, 0)) := (old g glt heg.symm h.rowne).trans h.q
  have he4 : w4.heap[e.blk]? = some (.cells (entCells e hs.length) 57 (0, 0)) := by
    rw [hgr.block e.blk (by rw [hsz]; omega) (fun h3 => her h3.symm), Below.heap_alloc _ _ _ (by simpa [World.setCell] using elt), set_same he]
    rfl
  have hv4g : v4.ownBlock ≠ some g := by
    intro h1
    obtain ⟨cur, hc⟩ := own_block hown h1
    rw [hq4] at hc
    injection hc with hc; injection hc with _ hc _
    exact absurd hc (by decide)
  refine ⟨⟨?_, ?_, ?_⟩, ?_, ?_⟩
  · rw [set_same hq4]; rfl
  · have e1 : (hs ++ [e]).length = hs.length + 1 := by simp
    have e2 : (hs ++ [e]).map ptrV = hs.map ptrV ++ [ptrV e] := by simp
    rw [e1, e2]
    exact hown.kept (row := some g) ⟨rfl, rfl, rfl, by simp [World.setCell], fun k _ hk => set_other (fun h1 => hk (by rw [h1]))⟩ (.inr hv4g)
  · intro j hj
    have hj2 : j < hs.length ∨ j = hs.length := by simp at hj; omega
    rcases hj2 with hj2 | rfl
    · have e1 : gE (hs ++ [e]) j = gE hs j := by simp [gE, List.getD, List.getElem?_append_left hj2]
      rw [e1, set_other (h.entne hj2), old _ (Array.getElem?_eq_some_iff.1 (h.ent j hj2)).1 (hne j hj2) (h.entrow hj2)]
      exact h.ent j hj2
    · have e1 : gE (hs ++ [e]) hs.length = e := by simp [gE, List.getD]
      rw [e1, set_other heg]
      exact he4
  · refine ⟨hgr.os, hgr.tape, hgr.output, ?_, fun k hk hn => ?_⟩
    · have := hgr.size
      rw [hsz] at this
      simp [World.setCell]; omega
    · rw [set_other (fun h1 => hn (.inl (.inl h1)))]
      exact old k hk (fun h1 => hn (.inr h1)) (fun h1 => hn (.inl (.inr (.inl h1))))
  · rintro x (rfl | h1 | ⟨e', he', rfl⟩)
    · exact .inl (.inl rfl)
    · rcases hloc with h2 | h2
      · exact .inl (.inr (.inl (h2.symm.trans h1)))
      · rw [h2] at h1
        injection h1 with h1
        exact .inr (.inr (by omega))
    · rcases List.mem_append.1 he' with h2 | h2
      · exact .inl (.inr (.inr ⟨e', h2, rfl⟩))
      · simp at h2
        exact .inr (.inl (by rw [h2]))
theorem type_ent (x : Nat) (w : World) : (Instr.typeAssert (.iface 55 (.pointer (some ⟨x, 0, none⟩))) 20 55 false).run Try.prog w = .ok (.pointer (some ⟨x, 0, none⟩)) w := by kernel_rfl
set_option maxRecDepth 100000 in
set_option maxHeartbeats 1000000 in
theorem tim_mPush (g : Nat) (mp sl p0 : Value) (hs : List Ent) (e : Ent) (w : World) (H : Hid (HeapQ w g mp sl hs)) (he : Hid (w.heap[e.blk]? = some (.cells #[.int .i64 e.id, .int .i64 e.at_, p0] 57 (0, 0))))
    (hne : Hid (∀ j, j < hs.length → (gE hs j).blk ≠ e.blk)) (hn : hs.length < 8192) :
    Calls Try.prog 76 #[.pointer (some ⟨g, 0, none⟩), .iface 55 (.pointer (some ⟨e.blk, 0, none⟩))] w fun r w' => r = .returned (.tuple #[]) ∧
      ∃ sl', HeapQ w' g mp sl' (hs ++ [e]) ∧ Only (fun x => OwnQ g sl hs x ∨ x = e.blk) w w' ∧ (∀ x, OwnQ g sl' (hs ++ [e]) x → OwnQ g sl hs x ∨ x = e.blk ∨ w.heap.size ≤ x) := by
  obtain ⟨A, c, rfl, hnc, hc⟩ := own_form H.out.row
  have q0 := H.out.c0
  have f0 := H.out.f 0
  have p2 : w.cell? ⟨e.blk, 2, none⟩ = some p0 := by rw [cell_of_row _ _ _ _ _ _ he.out]; rfl
  have f2 : w.frozen? ⟨e.blk, 2, none⟩ = false := by simp [World.frozen?, he.out]
  have hge : g ≠ e.blk := by
    intro h1
    have h2 := he.out
    rw [← h1, H.out.q] at h2
    injection h2 with h2; injection h2 with _ h2 _
    exact absurd h2 (by decide)
  obtain ⟨n, hnn⟩ : ∃ n, n = hs.length := ⟨_, rfl⟩
  obtain ⟨x, hx⟩ : ∃ x, x = e.blk := ⟨_, rfl⟩
  have HN := Lib.hid hnn
  have HX := Lib.hid hx
  rw [← hnn] at q0 hnc hn
  rw [← hx] at p2 f2 hge
  have hown1 : (w.setCell ⟨x, 2, none⟩ (.int .i64 (n : Int))).ownsRow 0 55 1 (.slice A n c) n (hs.map ptrV) := by
    have h1 := H.out.row
    rw [← hnn] at h1
    refine h1.kept (row := some x) ⟨rfl, rfl, rfl, by simp [World.setCell], fun k _ hk => set_other (fun h1 => hk (by rw [h1]))⟩ ?_
    right
    intro h2
    obtain ⟨cur, hcc⟩ := own_block h1 h2
    rw [hx, he.out] at hcc
    injection hcc with hcc; injection hcc with _ hcc _
    exact absurd hcc (by decide)
  have HO := Lib.hid hown1
  have hone := Lib.hid (show ∀ u ∈ [Value.pointer (some ⟨x, 0, none⟩)], u.oneCell' = true by
    intro u hu
    simp only [List.mem_cons, List.not_mem_nil, or_false] at hu
    rw [hu]; rfl)
  rw [← hx, ← hnn]
  clear hown1 hnn hx
  have ta := fun W => type_ent x W
  have hsl := Sl.new (w.setCell ⟨x, 2, none⟩ (.int .i64 (n : Int))) 55 [Value.pointer (some ⟨x, 0, none⟩)] 1 1 rfl (by omega)
  rw [show (w.setCell ⟨x, 2, none⟩ (.int .i64 (n : Int))).heap.size = w.heap.size by simp [World.setCell]] at hsl
  have HSL := Lib.hid hsl
  clear hsl
  have elt : x < w.heap.size := World.block_lt_of_cell? w _ p2
  have glt : g < w.heap.size := World.block_lt_of_cell? w _ q0
  have hpost : ∀ v4 w4, w4.ownsRow 0 55 1 v4 (n + 1) (hs.map ptrV ++ [Value.pointer (some ⟨x, 0, none⟩)]) → ((w.setCell ⟨x, 2, none⟩ (.int .i64 (n : Int))).alloc (.cells #[.pointer (some ⟨x, 0, none⟩)] 55)).grownBy w4 (Value.slice A n c).ownBlock →
      (v4.ownBlock = (Value.slice A n c).ownBlock ∨ v4.ownBlock = some (w.heap.size + 1)) → ∃ A4 c4, v4 = .slice A4 (n + 1) c4 ∧ w4.cell? ⟨g, 0, none⟩ = some (.slice A n c) ∧ w4.frozen? ⟨g, 0, none⟩ = false ∧
      Hid (HeapQ (w4.setCell ⟨g, 0, none⟩ v4) g mp v4 (hs ++ [e]) ∧ Only (fun y => OwnQ g (.slice A n c) hs y ∨ y = x) w (w4.setCell ⟨g, 0, none⟩ v4) ∧ (∀ y, OwnQ g v4 (hs ++ [e]) y → OwnQ g (.slice A n c) hs y ∨ y = x ∨ w.heap.size ≤ y)) := by
    intro v4 w4 hown4 hg4 hat4
    have hr := H.out.rowne
    rw [← HN.out] at hr
    obtain ⟨A4, c4, e4, _, _⟩ := own_form hown4
    have hp := push_world (v4 := v4) (w4 := w4) H.out he.out hne.out (by rw [← HX.out, ← HN.out]; unfold ptrV; rw [← HX.out]; exact hg4)
      (by rw [← HN.out]; unfold ptrV; rw [← HX.out]; exact hown4) (by rw [← HN.out]; exact hat4)
    rw [← HX.out, ← HN.out] at hp
    refine ⟨A4, c4, e4, ?_, ?_, hp⟩
    · refine hg4.cell (a := ⟨g, 0, none⟩) ?_ ?_
      · rw [World.cell?_alloc_lt _ _ _ (by simpa [World.setCell] using glt)]
        rw [World.cell?_of_block (w := w) (w' := w.setCell _ _) (set_other hge)]
        exact q0
      · intro h
        exact hr h.symm
    · rw [World.frozen?_of_block (hg4.block g (by simp [World.setCell]; omega) (fun h => hr h.symm))]
      rw [World.frozen?_of_block (a := ⟨g, 0, none⟩) (Below.heap_alloc _ _ g (by simpa [World.setCell] using glt))]
      rw [World.frozen?_of_block (w := w) (w' := w.setCell _ _) (set_other hge)]
      exact f0
  have HPO := Lib.hid hpost
  clear hpost
  go_enter Try.func76, Try.ntmps76
  go_wp2_with (at_builtin; refine wpList_append_sl ety rfl (.tmp 17) (.tmp 19) rfl 0 rfl (by exact HO.out.alloc _) rfl (by exact HSL.out) hone.out (by omega) (by omega) (by omega) ?_; intro v4 w4 hown4 hg4 hat4; obtain ⟨A4, c4, rfl, q4, f4, HP⟩ := HPO.out v4 w4 hown4 hg4 (by rcases hat4 with h | h; exact .inl h; right; rw [h]; simp [World.setCell]); clear hown4 hg4 hat4 q0 f0 p2 f2)
  go_end0
  exact ⟨rfl, _, HP.out⟩
end Go.Proofs.Ytkcggnfbmbfciaa
