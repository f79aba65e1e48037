/- Contract of package token: Join. -/
import Derived.Test.YtcbmaclhocdejaaDoorTokH
namespace Go.Proofs.YtcbmaclhocdejaaDoor
open Go.RowKit
def strCells (l : List ByteArray) : List Value := l.map Value.string
def tokTexts (l : List Tok) : List ByteArray := l.map (·.text)
def joinL (l : List Tok) : List UInt8 := Lib.join ((tokTexts l).map (·.data.toList)) [32]
theorem toksCells_at (l : List Tok) : ∀ (k i : Nat) (h : k < l.length), i < 3 → (toksCells l)[k * 3 + i]? = (l[k].cells)[i]? := by
  induction l with
  | nil => intro k i h; exact absurd h (by simp)
  | cons t l ih =>
    intro k i h hi
    have e : toksCells (t :: l) = t.cells ++ toksCells l := by simp [toksCells]
    rw [e]
    have hc : t.cells.length = 3 := rfl
    rcases k with _ | k
    · rw [List.getElem?_append_left (by omega)]; simp
    · rw [List.getElem?_append_right (by omega), hc]
      have := ih k i (by simpa using h) hi
      rw [show (k + 1) * 3 + i - 3 = k * 3 + i by omega, this]; rfl
theorem Sl.tok {w : World} {A : Option Addr} {n c : Nat} {l : List Tok} (h : Sl w (.slice A n c) n 3 (toksCells l)) {k : Nat} (hk : k < l.length) :
    ∃ b off, A = some ⟨b, off, none⟩ ∧ b < w.heap.size ∧ w.cell? ⟨b, off + k * 3, none⟩ = some (.int .i64 l[k].kind) ∧ w.cell? ⟨b, off + k * 3 + 1, none⟩ = some (.string l[k].text) ∧ w.cell? ⟨b, off + k * 3 + 2, none⟩ = some (.int .i64 l[k].at_) := by
  have hn : l.length = n := by have := h.len; rw [toksCells_len] at this; omega
  obtain ⟨b, off, rfl, hc⟩ := h.at_ (by omega)
  have h0 := hc (k * 3 + 0) _ ((toksCells_at l k 0 hk (by omega)).trans rfl)
  have h1 := hc (k * 3 + 1) _ ((toksCells_at l k 1 hk (by omega)).trans rfl)
  have h2 := hc (k * 3 + 2) _ ((toksCells_at l k 2 hk (by omega)).trans rfl)
  exact ⟨b, off, rfl, World.block_lt_of_cell? w _ h0, h0, h1, h2⟩
theorem tokTexts_succ {l : List Tok} {k : Nat} (hk : k < l.length) : tokTexts (l.take (k + 1)) = tokTexts (l.take k) ++ [l[k].text] := by
  unfold tokTexts
  rw [List.take_add_one, List.map_append, List.getElem?_eq_getElem hk]; rfl
theorem strs_ty : SlTy Tryd.prog 39 9 1 16 := SlTy.mk (z := .string ByteArray.empty) Tryd.underlying39 (by kernel_rfl) rfl (by omega)
set_option maxHeartbeats 1000000 in
theorem tok_Join (v : Value) (l : List Tok) (w : World) (hv : Hid (Sl w v l.length 3 (toksCells l))) (hlen : Hid (l.length ≤ 1000000)) (HJ : Hid ((joinL l).length ≤ 140737488355328)) :
    Calls Tryd.prog 9 #[v] w fun e w' => e = .returned (.string ⟨(joinL l).toArray⟩) ∧ Below w.heap.size w w' := by
  obtain ⟨A, c, rfl, hnc, hc, hsl⟩ := hv.out.form
  have HS := Lib.hid hsl
  clear hsl hv
  obtain ⟨n, hn⟩ : ∃ n, n = l.length := ⟨_, rfl⟩
  rw [← hn] at hlen HS hnc ⊢
  have hle := hlen.out
  obtain ⟨B, hB⟩ : ∃ B, B = w.heap.size := ⟨_, rfl⟩
  have HBB := Lib.hid hB
  have HN := Lib.hid hn
  clear hB hn
  go_enter Tryd.func9, Tryd.ntmps9
  go_wp2_with fail
  go_loopg [3, 8] (n + 1) (fun f v3 v8 wr => ∃ k : Nat, k ≤ n ∧ v8 = .int .i64 k ∧ n < k + f ∧ wr.ownsRow B 9 1 v3 k (strCells (tokTexts (l.take k))) ∧ Below B w wr)
  case atStart => exact ⟨0, by omega, rfl, by omega, World.ownsRow_nil _ _ _ _, Below.refl _ _⟩
  case round =>
    obtain ⟨k, hk, rfl, hf, hown, hb⟩ := hrel
    obtain ⟨f, rfl⟩ : ∃ f, gk = f + 1 := ⟨gk - 1, by omega⟩
    have HO := Lib.hid hown
    have HB := Lib.hid hb
    clear hown hb
    by_cases hlt : k < n
    · have hlt2 : (k : Int) < (n : Int) := by omega
      have hkl : k < l.length := by rw [← HN.out]; exact hlt
      have hb0 : Below w.heap.size w wr := by rw [← HBB.out]; exact HB.out
      obtain ⟨b, off, rfl, hbs, h0, h1, h2⟩ := (HS.out.below hb0).tok (k := k) hkl
      have hk3 : off + k * 3 + 2 < off + k * 3 + 3 := by omega
      clear hb0 hbs
      have hBr : B ≤ wr.heap.size := by rw [HBB.out]; have := HB.out.size; rw [← HBB.out]; rw [HBB.out]; exact this
      have hone : ∀ u ∈ [Value.string l[k].text], u.oneCell' = true := by
        intro u hu
        simp only [List.mem_cons, List.not_mem_nil, or_false] at hu
        rw [hu]; rfl
      have HONE := Lib.hid hone
      have hnew : ∀ o, Sl ((wr.alloc o).alloc (.cells #[.string l[k].text] 9)) (.slice (some ⟨wr.heap.size + 1, 0, none⟩) 1 1) 1 1 [Value.string l[k].text] := by
        intro o
        have h := Sl.new (wr.alloc o) 9 [Value.string l[k].text] 1 1 rfl (by omega)
        rw [World.size_alloc] at h
        exact h
      have HNEW := Lib.hid hnew
      clear hnew
      clear hone
      go_wp2_with (at_builtin; go_loud (refine wpList_append_sl strs_ty rfl (.tmp 12) (.tmp 15) rfl B rfl (own_below HO.out (((Below.refl _ _).alloc (Nat.le_refl _) _).alloc (by simp) _)) rfl (HNEW.out _) HONE.out (by omega) (by omega) (by simp; omega) ?_); intro v4 w4 hown4 hg4 hat4)
      have hb4 : Below B w w4 := (HB.out.alloc hBr _ |>.alloc (by simp; omega) _).grown hg4 (by simp; omega) (fun q hq => (HO.out.lt q hq).1)
      have HB4 := Lib.hid hb4
      have ht : tokTexts (l.take (k + 1)) = tokTexts (l.take k) ++ [l[k].text] := tokTexts_succ hkl
      have hown5 : w4.ownsRow B 9 1 v4 (k + 1) (strCells (tokTexts (l.take (k + 1)))) := by
        rw [ht]; unfold strCells; rw [List.map_append]; exact hown4
      have HO5 := Lib.hid hown5
      clear hown4 hown5 hg4 hat4 hb4 ht
      go_wp2
      go_roundg f
      case measure => omega
      case rel => exact ⟨k + 1, by omega, rfl, by omega, HO5.out, HB4.out⟩
    · have hkn : k = n := by omega
      subst hkn
      have hge : (k : Int) ≤ (k : Int) := Int.le_refl _
      have htk : l.take k = l := by rw [HN.out, List.take_length]
      rw [htk] at HO
      have hfin : ∀ W, Below B w W → ∀ W', Below W.heap.size W W' → Below w.heap.size w W' := by
        intro W h1 W' h2
        have h3 : Below w.heap.size w W := by rw [← HBB.out]; exact h1
        exact below_then h3 h2
      have HFIN := Lib.hid hfin
      clear hfin
      have hcs := fun g (hg : u3.ownBlock = some g) => HO.out.cells (g := g) hg
      have hlen : (tokTexts l).length = k := by unfold tokTexts; rw [List.length_map, ← HN.out]
      rcases HO.out.2 with ⟨rfl, h0⟩ | ⟨g, cap, cur, rfl, hBg, hg, hnc2, hm, hx, hy⟩
      · have hl0 : l = [] := List.length_eq_zero_iff.1 (by rw [← HN.out]; exact h0)
        have hj0 : joinL l = [] := by rw [hl0]; rfl
        have HJ0 := Lib.hid hj0
        clear hcs hj0 hl0
        go_wp2_with (go_at_call 15; refine (Tryd.strings_Join_none none 0 ⟨#[32]⟩ _).mono ?_; rintro e w5 ⟨rfl, rfl⟩)
        go_ret
        rw [HJ0.out]
        exact ⟨rfl, HFIN.out _ HB.out _ (Below.refl _ _)⟩
      · have hcells : ∀ (j : Nat) x, (tokTexts l)[j]? = some x → wr.cell? ⟨g, 0 + j, none⟩ = some (.string x) := by
          intro j x hx
          have h1 := hcs g rfl j (.string x) (by unfold strCells; rw [List.getElem?_map, hx]; rfl)
          rw [Go.WideShapes.add_plain] at h1
          exact h1
        have hc2 := Tryd.strings_Join g 0 cap (tokTexts l) ⟨#[32]⟩ wr hcells (by have := (HO.out.lt g rfl).2; exact this) (by rw [hlen]; omega) (by rw [hlen]; exact hnc2) HJ.out
        rw [hlen] at hc2
        have HC2 := Lib.hid hc2
        clear hc2 hcells hcs
        go_wp2_with (go_at_call 15; refine HC2.out.mono ?_; rintro e w5 ⟨rfl, hb5⟩)
        go_ret
        exact ⟨rfl, HFIN.out _ HB.out _ hb5⟩
end Go.Proofs.YtcbmaclhocdejaaDoor
