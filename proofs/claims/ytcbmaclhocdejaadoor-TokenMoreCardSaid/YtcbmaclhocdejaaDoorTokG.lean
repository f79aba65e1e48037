/- Contract of package token: Lex. -/
import Derived.Test.YtcbmaclhocdejaaDoorTokF
import Derived.StillTailTactics
import Derived.Deep.RegionLaw
namespace Go.Proofs.YtcbmaclhocdejaaDoor
open Go.RowKit
structure Tok where
  kind : Int
  text : ByteArray
  at_ : Nat
def Tok.cells (t : Tok) : List Value := [.int .i64 t.kind, .string t.text, .int .i64 t.at_]
def toksCells (l : List Tok) : List Value := l.flatMap Tok.cells
theorem toksCells_len (l : List Tok) : (toksCells l).length = l.length * 3 := by
  induction l with
  | nil => rfl
  | cons t l ih => simp only [toksCells, List.flatMap_cons, List.length_append] at ih ⊢; simp only [ih, Tok.cells, List.length_cons, List.length_nil]; omega
theorem toksCells_snoc (l : List Tok) (t : Tok) : toksCells (l ++ [t]) = toksCells l ++ t.cells := by simp [toksCells]
theorem toks_one (l : List Tok) : ∀ u ∈ toksCells l, u.oneCell' = true := by
  intro u hu
  simp only [toksCells, List.mem_flatMap, Tok.cells, List.mem_cons, List.not_mem_nil, or_false] at hu
  obtain ⟨t, _, h⟩ := hu
  rcases h with rfl | rfl | rfl <;> rfl
def nextEnd (l : List UInt8) (k : Nat) : Nat := (nextV l k).toNat
def nextTok (l : List UInt8) (k : Nat) : Tok := ⟨nextK l k, ⟨((l.drop k).take (nextEnd l k - k)).toArray⟩, k⟩
/-- What is left to cut, from a token's place on: the tokens, the place, the error. -/
def lexF (l : List UInt8) : Nat → Nat → List Tok → List Tok × Nat × Int
  | 0, k, acc => (acc, k, 0)
  | f + 1, k, acc => if k < l.length then (if nextE l k = 0 then lexF l f (skipTo l (nextEnd l k)) (acc ++ [nextTok l k]) else ([], k, nextE l k)) else (acc, l.length, 0)
/-- Lex's answer. -/
def lexR (l : List UInt8) : List Tok × Nat × Int := if 16384 < l.length then ([], 0, 2) else lexF l (l.length + 1) (skipTo l 0) []
theorem sign_end {l : List UInt8} {k : Nat} (hk : k < l.length) (he : signE l k = 0) : ∃ n : Nat, signV l k = n ∧ k < n ∧ n ≤ l.length := by
  unfold signE at he
  unfold signV
  by_cases h1 : anyTwo (l.drop k) = true
  · refine ⟨k + 2, by simp [h1], by omega, ?_⟩
    obtain ⟨t, ht, hp⟩ := List.any_eq_true.1 h1
    have h2 : t.length = 2 := by
      simp only [twoSigns, List.mem_cons, List.not_mem_nil, or_false] at ht
      rcases ht with rfl | rfl | rfl | rfl | rfl | rfl <;> rfl
    have h3 : t.length ≤ (l.drop k).length := by
      have hp2 : t.isPrefixOf (l.drop k) = true := hp
      exact (List.isPrefixOf_iff_prefix.1 hp2).length_le
    rw [List.length_drop] at h3
    omega
  · have h1 : anyTwo (l.drop k) = false := by simpa using h1
    rw [h1, if_neg (by simp)] at he ⊢
    by_cases h2 : oneSigns.contains (l.getD k 0) = true
    · exact ⟨k + 1, by rw [if_pos h2]; rfl, by omega, by omega⟩
    · rw [if_neg h2] at he; cases he
theorem run_past {p : UInt8 → Bool} {l : List UInt8} {k : Nat} (hk : k < l.length) (h : p (l.getD k 0) = true) : k < runL p l k ∧ runL p l k ≤ l.length := by
  have hp : p l[k] = true := by rw [List.getD, List.getElem?_eq_getElem hk] at h; exact h
  have h1 := runL_step hk hp
  have h2 := runL_ge p l (k + 1)
  have h3 := runL_le p l k (by omega)
  omega
theorem next_end {l : List UInt8} {k : Nat} (hk : k < l.length) (he : nextE l k = 0) : nextV l k = nextEnd l k ∧ k < nextEnd l k ∧ nextEnd l k ≤ l.length := by
  have key : ∃ n : Nat, nextV l k = n ∧ k < n ∧ n ≤ l.length := by
    unfold nextE at he
    unfold nextV
    by_cases h1 : isLetter (l.getD k 0) = true
    · rw [if_pos h1] at he ⊢
      by_cases h2 : 32 < runL isNamed l k - k
      · rw [if_pos h2] at he; cases he
      · rw [if_neg h2]
        have := run_past (p := isNamed) hk (by unfold isNamed; rw [h1]; rfl)
        exact ⟨_, rfl, this.1, this.2⟩
    · rw [if_neg h1] at he ⊢
      by_cases h2 : isDigit (l.getD k 0) = true
      · rw [if_pos h2] at he ⊢
        have := run_past (p := isDigit) hk h2
        exact ⟨_, by unfold numberV; rw [if_pos he], this.1, this.2⟩
      · rw [if_neg h2] at he ⊢
        exact sign_end hk he
  obtain ⟨n, h1, h2, h3⟩ := key
  have h4 : nextEnd l k = n := by unfold nextEnd; rw [h1]; rfl
  rw [h4]
  exact ⟨h1, h2, h3⟩
theorem skipTo_bd {l : List UInt8} {k : Nat} (h : k ≤ l.length) : k ≤ skipTo l k ∧ skipTo l k ≤ l.length := by
  have := skipC_len false (l.drop k)
  rw [List.length_drop] at this
  unfold skipTo
  omega
theorem text_eq (s : ByteArray) (k e : Nat) : (⟨((s.data.toList.drop k).take (e - k)).toArray⟩ : ByteArray) = s.extract k e := by
  have h : (s.extract k e).data.toList = (s.data.toList.drop k).take (e - k) := Lib.extract_data s k e
  rw [← h]
theorem toks_ty : SlTy Tryd.prog 23 29 3 32 := SlTy.mk (z := .agg #[.int .i64 0, .string ByteArray.empty, .int .i64 0]) Tryd.underlying23 (by kernel_rfl) rfl (by omega)
/-- What Lex hands back. -/
def LexAns (r : List Tok × Nat × Int) (w : World) (e : Ending) (w' : World) : Prop :=
  ∃ v, e = .returned (.tuple #[v, .int .i64 r.2.1, .int .i64 r.2.2]) ∧ Sl w' v r.1.length 3 (toksCells r.1) ∧ Below w.heap.size w w'
set_option maxHeartbeats 1000000 in
theorem tok_Lex_long (s : ByteArray) (w : World) (h : 16384 < s.size) (hs : s.size ≤ 9223372036854775805) :
    Calls Tryd.prog 8 #[.string s] w (LexAns (lexR s.data.toList) w) := by
  have hr : lexR s.data.toList = ([], 0, 2) := by unfold lexR; rw [if_pos (by simpa using h)]
  rw [hr]
  have h2 : (16384 : Int) < (s.size : Int) := by omega
  go_enter Tryd.func8, Tryd.ntmps8
  go_wp2
  go_ret3
  exact ⟨.slice none 0 0, rfl, Sl.none_ _ _, Below.refl _ _⟩
set_option maxHeartbeats 1000000 in
theorem tok_Lex_short (s : ByteArray) (w : World) (h : s.size ≤ 16384) :
    Calls Tryd.prog 8 #[.string s] w (LexAns (lexR s.data.toList) w) := by
  have hl := Lib.hid (show s.data.toList.length = s.size by simp)
  have hL0 : Hid (LexAt (w.alloc (.cells #[.string s, .int .i64 0] 36)) w.heap.size s 0) := heap_alloc_new w _
  have hR : lexF s.data.toList (s.size + 1) (skipTo s.data.toList 0) [] = lexR s.data.toList := by
    unfold lexR; rw [if_neg (by rw [hl.out]; omega), hl.out]
  have HR := Lib.hid hR
  clear hR
  obtain ⟨R, hRR⟩ : ∃ R, R = lexR s.data.toList := ⟨_, rfl⟩
  rw [← hRR] at HR ⊢
  clear hRR
  go_enter Tryd.func8, Tryd.ntmps8
  go_wp2_with fail
  refine (tok_skip s 0 w.heap.size _ (by omega) (by omega) hL0).mono ?_
  rintro e w2 ⟨rfl, hL2, hg2⟩
  obtain ⟨g, hg⟩ : ∃ g, g = w.heap.size := ⟨_, rfl⟩
  have hb2 : Below w.heap.size w w2 := ((Below.refl w.heap.size w).alloc (Nat.le_refl _) _).grown hg2 (by simp) (fun k hk => by injection hk with hk; omega)
  rw [← hg] at hL2 hb2 ⊢
  have HB2 := Lib.hid hb2
  have HL2 := Lib.hid hL2
  have HG := Lib.hid hg
  clear hb2 hL2 hg2 hL0 hg
  go_wp2_with fail
  go_loopg [6] (s.size + 1) (fun f v wr => ∃ (k : Nat) (acc : List Tok), k ≤ s.size ∧ LexAt wr g s k ∧ wr.ownsRow (g + 1) 29 3 v acc.length (toksCells acc) ∧ acc.length ≤ k ∧ Below g w wr ∧ s.size < k + f ∧ lexF s.data.toList f k acc = R)
  case atStart => exact ⟨skipTo s.data.toList 0, [], by rw [← hl.out]; exact (skipTo_bd (by omega)).2, HL2.out, World.ownsRow_nil _ _ _ _, by simp, HB2.out, by omega, HR.out⟩
  case round =>
    obtain ⟨k, acc, hk, hL, hown, hacc, hb, hf, hR⟩ := hrel
    obtain ⟨f, rfl⟩ : ∃ f, gk = f + 1 := ⟨gk - 1, by omega⟩
    have h0 := hL.c0
    have h1 := hL.c1
    have HL := Lib.hid hL
    have HO := Lib.hid hown
    have HB := Lib.hid hb
    have HRk := Lib.hid hR
    have HF := Lib.hid hf
    clear hL hown hb hR hf
    by_cases hlt : k < s.size
    · have hlt2 : (k : Int) < (s.size : Int) := by omega
      go_wp2_with fail
      refine (tok_next s k g _ (by omega) hlt HL.out).mono ?_
      rintro e w3 ⟨rfl, hb3⟩
      have hL3 : LexAt w3 g s k := (hb3.block g HL.out.lt).trans HL.out
      have h03 := hL3.c0
      have h13 := hL3.c1
      have HL3 := Lib.hid hL3
      have HB3 := Lib.hid hb3
      clear hL3 hb3 h0 h1
      by_cases he : nextE s.data.toList k = 0
      · have he2 : (nextE s.data.toList k != 0) = false := by simpa using he
        obtain ⟨v1, v2, v3⟩ := next_end (l := s.data.toList) (k := k) (by rw [hl.out]; exact hlt) he
        have hR3 := HRk.out
        simp only [lexF] at hR3
        rw [if_pos (by rw [hl.out]; exact hlt), if_pos he] at hR3
        have HR3 := Lib.hid hR3
        rw [hl.out] at v3
        clear hR3
        obtain ⟨E, hE⟩ : ∃ E, E = nextEnd s.data.toList k := ⟨_, rfl⟩
        rw [← hE] at v1 v2 v3 HR3
        have HEE := Lib.hid hE
        clear hE
        go_wp2
        have hown3 := Lib.hid (own_below HO.out HB3.out)
        have nn : w3.heap.size ≠ g := by have := HL3.out.lt; omega
        have hkE : k ≤ E := by omega
        have hlg := HL3.out.lt
        have hone := Lib.hid (show ∀ u ∈ [Value.int .i64 (nextK s.data.toList k), .string (s.extract k E), .int .i64 k], u.oneCell' = true by
          intro u hu
          simp only [List.mem_cons, List.not_mem_nil, or_false] at hu
          rcases hu with rfl | rfl | rfl <;> rfl)
        go_region_law (first | (refine step_append_sl toks_ty rfl (.tmp 40) (.tmp 54) rfl (g + 1) rfl (by exact own_drew (hown3.out.alloc _)) rfl (by exact Sl.new _ _ [Value.int .i64 (nextK s.data.toList k), .string (s.extract k E), .int .i64 k] 1 3 rfl (by omega)) hone.out (by omega) (by omega) (by simp; omega) ?_; intro v4 w4 hown4 hg4 hat4))
        all_goals
          have hL4 : LexAt w4 g s k := by
            have hne : some g ≠ u6.ownBlock := by
              intro h
              have := (HO.out.lt g h.symm).1
              omega
            have h1 := hg4.block g (by simp; omega) hne
            exact h1.trans ((Below.heap_alloc w3 _ g hlg).trans HL3.out)
          have hb4 : Below g w w4 := by
            have h1 : Below g w w3 := HB.out.trans (HB3.out.mono (by have := HL.out.lt; omega))
            have h2 : Below g w (w3.alloc (.cells (List.toArray [Value.int .i64 (nextK s.data.toList k), .string (s.extract k E), .int .i64 k]) 29)).drew := (h1.alloc (by omega) _).drew
            exact h2.grown hg4 (by simp; omega) (fun q hq => by have := (HO.out.lt q hq).1; omega)
          have h04 := hL4.c0
          have h14 := hL4.c1
          have hf4 := hL4.f1
          have HL4 := Lib.hid hL4
          have HB4 := Lib.hid hb4
          have HO4 := Lib.hid hown4
          clear hL4 hb4 hown4 hg4 hat4 h03 h13 hone hown3
          go_wp2_with (go_at_call 13; refine (tok_skip s E g _ (by omega) (by omega) (HL4.out.store E)).mono ?_; rintro e w5 ⟨rfl, hL5, hg5⟩)
          go_roundg f
          case measure => omega
          case rel =>
            have hsk := skipTo_bd (l := s.data.toList) (k := E) (by rw [hl.out]; exact v3)
            have hl2 := hl.out
            have hf2 := HF.out
            have hown5 : w5.ownsRow (g + 1) 29 3 v4 (acc.length + 1) (toksCells acc ++ [Value.int .i64 (nextK s.data.toList k), .string (s.extract k E), .int .i64 k]) := by
              have h1 := ownsRow_setCell_below HO4.out (a := ⟨g, 1, none⟩) (by simp) (.int .i64 E)
              exact h1.kept hg5 (by right; intro h; have := (h1.lt g h).1; omega)
            have ht : (nextTok s.data.toList k).cells = [Value.int .i64 (nextK s.data.toList k), .string (s.extract k E), .int .i64 k] := by
              unfold nextTok Tok.cells
              rw [text_eq, ← HEE.out]
            refine ⟨skipTo s.data.toList E, acc ++ [nextTok s.data.toList k], by omega, hL5, ?_, by simp; omega, ?_, by omega, HR3.out⟩
            · rw [List.length_append, toksCells_snoc, ht]
              exact hown5
            · have h1 : Below g w (w4.setCell ⟨g, 1, none⟩ (.int .i64 E)) := HB4.out.setCell (by simp) _
              exact h1.grown hg5 (by have := HL4.out.lt; simp [World.setCell]; omega) (fun q hq => by injection hq with hq; omega)
      · have he2 : (nextE s.data.toList k != 0) = true := by simpa using he
        have hR3 := HRk.out
        simp only [lexF] at hR3
        rw [if_pos (by rw [hl.out]; exact hlt), if_neg he] at hR3
        have HR3 := Lib.hid hR3
        clear hR3
        go_wp2
        go_quiet (fail)
        go_wp2
        go_ret3
        rw [← HR3.out]
        refine ⟨.slice none 0 0, rfl, Sl.none_ _ _, ?_⟩
        rw [← HG.out]
        exact below_drewN' (HB.out.trans (HB3.out.mono (by have := HL.out.lt; omega))) _
    · have hge : (s.size : Int) ≤ (k : Int) := by omega
      have hR3 := HRk.out
      simp only [lexF] at hR3
      rw [if_neg (by rw [hl.out]; omega), hl.out] at hR3
      have HR3 := Lib.hid hR3
      clear hR3
      go_wp2
      go_ret3
      rw [← HR3.out]
      refine ⟨_, rfl, Sl.of_own HO.out, ?_⟩
      rw [← HG.out]
      exact HB.out
theorem tok_Lex (s : ByteArray) (w : World) (hs : s.size ≤ 9223372036854775805) :
    Calls Tryd.prog 8 #[.string s] w (LexAns (lexR s.data.toList) w) := by
  by_cases h : s.size ≤ 16384
  · exact tok_Lex_short s w h
  · exact tok_Lex_long s w (by omega) hs
end Go.Proofs.YtcbmaclhocdejaaDoor
