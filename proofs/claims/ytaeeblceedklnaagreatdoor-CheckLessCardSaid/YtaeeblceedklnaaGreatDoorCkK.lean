/- A net without one of its tasks, in memory. -/
import Derived.Test.YtaeeblceedklnaaGreatDoorCkX
import Derived.Test.YtaeeblceedklnaaGreatDoorShelfB
namespace Go.Proofs.YtaeeblceedklnaaGreatDoor
open Go.RowKit
theorem set_sameK {w : World} {g o t : Nat} {c : Array Value} {u : Value} (h : w.heap[g]? = some (.cells c t (0, 0))) : (w.setCell ⟨g, o, none⟩ u).heap[g]? = some (.cells (c.setIfInBounds o u) t (0, 0)) := by
  simp [World.setCell, Array.getElem?_modify, h]
theorem Sl.takeN {w : World} {A : Option Addr} {n c k size : Nat} {xs : List Value} (h : Sl w (.slice A n c) n size xs) (hk : k ≤ n) : Sl w (.slice A k c) k size (xs.take (k * size)) := by
  have hl := h.len
  obtain ⟨A', c', e, h1, h2, h3, h4⟩ := h
  injection e with e1 _ e3
  subst e1; subst e3
  have hm := Nat.mul_le_mul_right size hk
  refine ⟨A, c, rfl, by omega, h2, ?_, fun hn => ?_⟩
  · rw [List.length_take]; omega
  · obtain ⟨b, off, e, hc⟩ := h4 (by omega)
    refine ⟨b, off, e, fun j u hu => hc j u ?_⟩
    rw [List.getElem?_take] at hu
    split at hu
    · exact hu
    · cases hu
/-- Where the rest of a slice begins. -/
def dropN (A : Option Addr) (c k size : Nat) : Option Addr := if c = k then A else A.map (·.add (k * size))
theorem Sl.dropN {w : World} {A : Option Addr} {n c k size : Nat} {xs : List Value} (h : Sl w (.slice A n c) n size xs) (hk : k ≤ n) : Sl w (.slice (dropN A c k size) (n - k) (c - k)) (n - k) size (xs.drop (k * size)) := by
  have hl := h.len
  obtain ⟨A', c', e, h1, h2, h3, h4⟩ := h
  injection e with e1 _ e3
  subst e1; subst e3
  have hm := Nat.mul_le_mul_right size hk
  refine ⟨_, c - k, rfl, by omega, by omega, ?_, fun hn => ?_⟩
  · rw [List.length_drop, Nat.sub_mul]; omega
  · obtain ⟨b, off, rfl, hc⟩ := h4 (by omega)
    refine ⟨b, off + k * size, ?_, fun j u hu => ?_⟩
    · unfold Go.Proofs.YtaeeblceedklnaaGreatDoor.dropN; rw [if_neg (by omega)]; simp [Go.WideShapes.add_plain]
    · rw [List.getElem?_drop] at hu
      have := hc _ u hu
      rwa [← Nat.add_assoc] at this
theorem freshN (w : World) (base g : Nat) (t : TypeId) (size : Nat) (hg : g = w.heap.size) (hb : base ≤ g) : (w.alloc (.cells #[] t)).ownsRow base t size (.slice (some ⟨g, 0, none⟩) 0 0) 0 [] := by
  subst hg
  refine ⟨by simp, .inr ⟨w.heap.size, 0, #[], rfl, hb, heap_alloc_new w (.cells #[] t), Nat.le_refl _, by decide, ?_, ?_⟩⟩
  · simp
  · simp
theorem tasks_ty : SlTy Tryz.prog 24 53 14 200 := SlTy.mk (z := .agg #[.string ByteArray.empty, .slice none 0 0, .int .i64 0, .int .i64 0, .slice none 0 0, .int .i64 0, .int .i64 0, .slice none 0 0, .slice none 0 0, .slice none 0 0, .int .i64 0, .int .i64 0, .int .i64 0, .int .i64 0]) (by kernel_rfl) (by kernel_rfl) rfl (by decide)
theorem own_set {w : World} {base : Nat} {e : TypeId} {size n : Nat} {v : Value} {xs : List Value} (h : w.ownsRow base e size v n xs) {g : Nat} (hg : g < base) (o : Nat) (u : Value) : (w.setCell ⟨g, o, none⟩ u).ownsRow base e size v n xs := by
  have hne : ∀ k, v.ownBlock = some k → k ≠ g := fun k hk e => by have := (h.lt k hk).1; omega
  exact h.kept (w' := w.setCell ⟨g, o, none⟩ u) (row := some g) ⟨rfl, rfl, rfl, Nat.le_of_eq (by simp [World.setCell]), fun k _ hk => Below.heap_setCell w ⟨g, o, none⟩ u k (fun h1 => hk (congrArg some h1))⟩ (.inr fun e => hne g e rfl)
theorem own_formN {w : World} {base : Nat} {e : TypeId} {size n : Nat} {v : Value} {xs : List Value} (h : w.ownsRow base e size v n xs) : ∃ A c, v = .slice A n c := by
  rcases h.2 with ⟨rfl, rfl⟩ | ⟨g, cap, cur, rfl, _, _, hnc, hm, _⟩
  · exact ⟨none, 0, rfl⟩
  · exact ⟨_, cap, rfl⟩
/-- The cells of a task. -/
theorem TkAt.cells {w : World} {b o : Nat} {t : Tk} (h : TkAt w b o t) : ∀ j, j < 14 → ∃ v : Value, v.oneCell' = true ∧ w.cell? ⟨b, o + j, none⟩ = some v := by
  obtain ⟨Av, nv, cv, Ag, mg, cg, Ai, ni, ci, Ao, no, co, Ac, nc, cc, h⟩ := h
  intro j hj
  match j, hj with
  | 0, _ => exact ⟨_, rfl, h.c0⟩
  | 1, _ => exact ⟨_, rfl, h.c1⟩
  | 2, _ => exact ⟨_, rfl, h.c2⟩
  | 3, _ => exact ⟨_, rfl, h.c3⟩
  | 4, _ => exact ⟨_, rfl, h.c4⟩
  | 5, _ => exact ⟨_, rfl, h.c5⟩
  | 6, _ => exact ⟨_, rfl, h.c6⟩
  | 7, _ => exact ⟨_, rfl, h.c7⟩
  | 8, _ => exact ⟨_, rfl, h.c8⟩
  | 9, _ => exact ⟨_, rfl, h.c9⟩
  | 10, _ => exact ⟨_, rfl, h.c10⟩
  | 11, _ => exact ⟨_, rfl, h.c11⟩
  | 12, _ => exact ⟨_, rfl, h.c12⟩
  | 13, _ => exact ⟨_, rfl, h.c13⟩
  | n + 14, hn => omega
theorem TkAt.move {w w' : World} {b o b' o' : Nat} {t : Tk} (h : TkAt w b o t) (hb : Below w.heap.size w w') (hc : ∀ j, j < 14 → ∀ u, w.cell? ⟨b, o + j, none⟩ = some u → w'.cell? ⟨b', o' + j, none⟩ = some u) : TkAt w' b' o' t := by
  obtain ⟨Av, nv, cv, Ag, mg, cg, Ai, ni, ci, Ao, no, co, Ac, nc, cc, h⟩ := h
  have g := h.below hb
  exact ⟨Av, nv, cv, Ag, mg, cg, Ai, ni, ci, Ao, no, co, Ac, nc, cc, hc 0 (by omega) _ h.c0, hc 1 (by omega) _ h.c1, hc 2 (by omega) _ h.c2, hc 3 (by omega) _ h.c3, hc 4 (by omega) _ h.c4, hc 5 (by omega) _ h.c5, hc 6 (by omega) _ h.c6, hc 7 (by omega) _ h.c7, hc 8 (by omega) _ h.c8, hc 9 (by omega) _ h.c9, hc 10 (by omega) _ h.c10, hc 11 (by omega) _ h.c11, hc 12 (by omega) _ h.c12, hc 13 (by omega) _ h.c13,
    g.vars, g.guard, g.ins, g.outs, g.cancel, g.i5, g.i6, g.i9, g.i10, g.i11, g.i12, g.i13⟩
/-- The cells of a row of tasks. -/
theorem tk_row {w : World} {b off n c : Nat} {l : List Tk} (h : SlOf 14 TkAt w (some ⟨b, off, none⟩) n c l) (hn0 : 0 < n) : ∃ xs, Sl w (.slice (some ⟨b, off, none⟩) n c) n 14 xs ∧ ∀ u ∈ xs, u.oneCell' = true := by
  obtain ⟨hn, hc, hl, hat⟩ := h
  have each : ∀ i, i < n * 14 → ∃ v : Value, v.oneCell' = true ∧ w.cell? ⟨b, off + i, none⟩ = some v := by
    intro i hi
    obtain ⟨b2, off2, e, h2⟩ := hat hn0
    injection e with e
    injection e with e1 e2
    subst e1; subst e2
    have hd : i / 14 < n := by omega
    obtain ⟨v, h3, h4⟩ := (h2 _ hd).cells (i % 14) (by omega)
    refine ⟨v, h3, ?_⟩
    rw [← h4]
    congr 2
    omega
  obtain ⟨F, hF⟩ := _root_.Go.Deep.choose_lt each
  refine ⟨(List.range (n * 14)).map F, ⟨_, c, rfl, hn, hc, by simp, fun _ => ⟨b, off, rfl, fun j u hu => ?_⟩⟩, fun u hu => ?_⟩
  · rw [List.getElem?_map] at hu
    by_cases hj : j < n * 14
    · rw [List.getElem?_range hj] at hu
      injection hu with hu
      subst hu
      exact (hF j hj).2
    · rw [List.getElem?_eq_none (by simp; omega)] at hu
      cases hu
  · obtain ⟨i, hi, rfl⟩ := List.mem_map.1 hu
    exact (hF i (List.mem_range.1 hi)).1
/-- The row without one task. -/
theorem tk_less {w w' : World} {b off n c k m : Nat} {N : Nt} {xs : List Value} {A : Option Addr} {d : Nat} (h : SlOf 14 TkAt w (some ⟨b, off, none⟩) n c N.tks) (hk : k < n) (hx : Sl w (.slice (some ⟨b, off, none⟩) n c) n 14 xs) (hb : Below w.heap.size w w') (hm : m + 1 = n)
    (hs : Sl w' (.slice A m d) m 14 (xs.take (k * 14) ++ xs.drop ((k + 1) * 14))) : SlOf 14 TkAt w' A m d (lessT N k).tks := by
  obtain ⟨hn, hc, hl, hat⟩ := h
  have hxl := hx.len
  obtain ⟨A', c', e, h1, h2, h3, h4⟩ := hs
  injection e with e1 _ e3
  subst e1; subst e3
  have hkl : k < N.tks.length := by omega
  have hll := less_len hkl
  refine ⟨h1, h2, by omega, fun h0 => ?_⟩
  obtain ⟨b', off', rfl, hz⟩ := h4 h0
  refine ⟨b', off', rfl, fun j hj => ?_⟩
  obtain ⟨g1, g2⟩ := less_at (j := j) hkl (by omega)
  rw [g2]
  obtain ⟨b2, off2, e, hr⟩ := hat (by omega)
  injection e with e
  injection e with e1 e2
  subst e1; subst e2
  have hup : upT k j < n := by omega
  refine (hr _ hup).move hb fun i hi u hu => ?_
  have := hz (j * 14 + i) u ?_
  · rw [Nat.add_assoc]; exact this
  · obtain ⟨b3, off3, e, hcell⟩ := hx.at_ (by omega)
    injection e with e
    injection e with e1 e2
    subst e1; subst e2
    have hin : upT k j * 14 + i < xs.length := by omega
    have h5 := hcell (upT k j * 14 + i) _ (List.getElem?_eq_getElem hin)
    rw [← Nat.add_assoc, hu] at h5
    injection h5 with h5
    have htl : (xs.take (k * 14)).length = k * 14 := by rw [List.length_take]; omega
    by_cases hjk : j < k
    · have eu : upT k j = j := by unfold upT; rw [if_pos hjk]
      rw [List.getElem?_append_left (by omega), List.getElem?_take, if_pos (by omega), List.getElem?_eq_getElem (by omega)]
      rw [h5]
      simp only [eu]
    · have eu : upT k j = j + 1 := by unfold upT; rw [if_neg hjk]
      rw [List.getElem?_append_right (by omega), htl, List.getElem?_drop, List.getElem?_eq_getElem (by omega)]
      rw [h5]
      simp only [eu]
      congr 2
      omega
theorem NetFew.less {N : Nt} {k : Nat} (hk : k < N.tks.length) (h : NetFew N) : NetFew (lessT N k) := by
  have hl := less_len hk
  refine ⟨h.cols, h.pls, by have := h.tks; omega, fun j hj => ?_⟩
  obtain ⟨h1, h2⟩ := less_at hk hj
  rw [h2]
  exact h.each _ h1
/-- A box of a net whose tasks are set anew. -/
theorem NBox.set2 {w : World} {g : Nat} {A1 A2 A3 A4 : Option Addr} {n1 c1 n2 c2 n3 c3 n4 c4 : Nat} {a b : Int} {T : TypeId} (h : w.heap[g]? = some (.cells #[.slice A1 n1 c1, .slice A2 n2 c2, .slice A3 n3 c3, .int .i64 a, .int .i64 b] T (0, 0))) :
    NBox (w.setCell ⟨g, 2, none⟩ (.slice A4 n4 c4)) g A1 n1 c1 A2 n2 c2 A4 n4 c4 a b := by
  have h2 := set_sameK (o := 2) (u := .slice A4 n4 c4) h
  exact ⟨by rw [cell_of_row _ _ _ _ _ _ h2]; rfl, by rw [cell_of_row _ _ _ _ _ _ h2]; rfl, by rw [cell_of_row _ _ _ _ _ _ h2]; rfl, by rw [cell_of_row _ _ _ _ _ _ h2]; rfl, by rw [cell_of_row _ _ _ _ _ _ h2]; rfl⟩
end Go.Proofs.YtaeeblceedklnaaGreatDoor
