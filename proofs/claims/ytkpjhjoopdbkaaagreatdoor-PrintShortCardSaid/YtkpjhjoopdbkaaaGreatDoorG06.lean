/- Joined: Contracts of package token: the lexer's next. Contract of package token: Lex. Contract of package token: Join. What stays of memory, but for some blocks; the parser in memory. -/
import Derived.Test.YtkpjhjoopdbkaaaGreatDoorG05
import Derived.StillTailTactics
import Derived.Deep.RegionLaw
import Derived.Test.YtkpjhjoopdbkaaaGreatDoorG04
import Derived.Test.YtkpjhjoopdbkaaaGreatDoorG01
namespace Go.Proofs.YtkpjhjoopdbkaaaGreatDoor
open Go.RowKit
/-- The kind of the token that begins at k, where it ends, the error. -/
def nextK (l : List UInt8) (k : Nat) : Int :=
  if isLetter (l.getD k 0) then (if 32 < runL isNamed l k - k then 0 else 1) else if isDigit (l.getD k 0) then 2 else 3
def nextV (l : List UInt8) (k : Nat) : Int :=
  if isLetter (l.getD k 0) then (if 32 < runL isNamed l k - k then 0 else runL isNamed l k) else if isDigit (l.getD k 0) then numberV l k else signV l k
def nextE (l : List UInt8) (k : Nat) : Int :=
  if isLetter (l.getD k 0) then (if 32 < runL isNamed l k - k then 2 else 0) else if isDigit (l.getD k 0) then numberE l k else signE l k
set_option maxHeartbeats 2000000 in
theorem tok_next (s : ByteArray) (k g : Nat) (w : World) (hs : s.size ≤ 9223372036854775805) (hk : k < s.size) (hg : Hid (LexAt w g s k)) :
    Calls Tryz.prog 27 #[.pointer (some ⟨g, 0, none⟩)] w fun e w' => e = .returned (.tuple #[.int .i64 (nextK s.data.toList k), .int .i64 (nextV s.data.toList k), .int .i64 (nextE s.data.toList k)]) ∧ Below w.heap.size w w' := by
  have h0 := hg.out.c0
  have h1 := hg.out.c1
  have hl : s.data.toList.length = s.size := by simp
  have hk2 : (k : Int) < (s.size : Int) := by omega
  have hc : s[k] = s.data.toList.getD k 0 := by
    have hkl : k < s.data.toList.length := by omega
    rw [List.getD, List.getElem?_eq_getElem hkl]; rfl
  obtain ⟨c, hcc⟩ : ∃ c, s[k] = c := ⟨_, rfl⟩
  have HC := Lib.hid (hcc.symm.trans hc)
  have hm1 : k ≤ runL isNamed s.data.toList k := runL_ge _ _ _
  have hm2 : runL isNamed s.data.toList k ≤ s.size := by rw [← hl]; exact runL_le _ _ _ (by omega)
  obtain ⟨m, hm⟩ : ∃ m, m = runL isNamed s.data.toList k := ⟨_, rfl⟩
  have cn := fun W => Lib.hid (tok_run_named s k W (by omega) (by omega))
  rw [← hm] at cn hm1 hm2
  have HM := Lib.hid hm
  clear hm hc hl
  rcases hL : isLetter c with _ | _
  · rcases hD : isDigit c with _ | _
    · have e1 : nextK s.data.toList k = 3 ∧ nextV s.data.toList k = signV s.data.toList k ∧ nextE s.data.toList k = signE s.data.toList k := by
        unfold nextK nextV nextE; rw [← HC.out, hL, hD]; exact ⟨rfl, rfl, rfl⟩
      have HE := Lib.hid e1
      clear e1
      go_enter Tryz.func27, Tryz.ntmps27
      go_wp2
      go_quiet (fail)
      go_wp2_with (first | (go_at_call 58; refine (tok_letter _ _).mono ?_; rintro e w' ⟨rfl, rfl⟩) | (go_at_call 60; refine (tok_digit _ _).mono ?_; rintro e w' ⟨rfl, rfl⟩) | (go_at_call 62; refine (tok_sign s k g _ hs hk (hg.out.drewN _)).mono ?_; rintro e w2 ⟨rfl, hw2⟩))
      go_ret3
      refine ⟨ret3 HE.out.1.symm HE.out.2.1.symm HE.out.2.2.symm, ?_⟩
      exact (below_drewN' (Below.refl _ _) _).trans (hw2.mono (by simp))
    · have e1 : nextK s.data.toList k = 2 ∧ nextV s.data.toList k = numberV s.data.toList k ∧ nextE s.data.toList k = numberE s.data.toList k := by
        unfold nextK nextV nextE; rw [← HC.out, hL, hD]; exact ⟨rfl, rfl, rfl⟩
      have HE := Lib.hid e1
      clear e1
      go_enter Tryz.func27, Tryz.ntmps27
      go_wp2
      go_quiet (fail)
      go_wp2_with (first | (go_at_call 58; refine (tok_letter _ _).mono ?_; rintro e w' ⟨rfl, rfl⟩) | (go_at_call 60; refine (tok_digit _ _).mono ?_; rintro e w' ⟨rfl, rfl⟩) | (go_at_call 61; refine (tok_number s k g _ (by omega) hk (hg.out.drewN _)).mono ?_; rintro e w2 ⟨rfl, q, rfl⟩))
      go_ret3
      exact ⟨ret3 HE.out.1.symm HE.out.2.1.symm HE.out.2.2.symm, (by repeat (first | exact Below.refl _ _ | apply below_drewN'))⟩
  · by_cases h32 : 32 < m - k
    · have e1 : nextK s.data.toList k = 0 ∧ nextV s.data.toList k = 0 ∧ nextE s.data.toList k = 2 := by
        unfold nextK nextV nextE; rw [← HC.out, hL, ← HM.out]; simp [h32]
      have HE := Lib.hid e1
      clear e1
      have h33 : (32 : Int) < (m : Int) - (k : Int) := by omega
      go_enter Tryz.func27, Tryz.ntmps27
      go_wp2
      go_quiet (fail)
      go_wp2_with (go_at_call 58; refine (tok_letter _ _).mono ?_; rintro e w' ⟨rfl, rfl⟩)
      go_quiet ((go_at_call 55; exact quiet_pure (cn _).out ⟨_, rfl⟩))
      go_wp2
      go_ret3
      exact ⟨ret3 HE.out.1.symm HE.out.2.1.symm HE.out.2.2.symm, (by repeat (first | exact Below.refl _ _ | apply below_drewN'))⟩
    · have e1 : nextK s.data.toList k = 1 ∧ nextV s.data.toList k = m ∧ nextE s.data.toList k = 0 := by
        unfold nextK nextV nextE; rw [← HC.out, hL, ← HM.out]; simp [h32]
      have HE := Lib.hid e1
      clear e1
      have h33 : decide ((32 : Int) < (m : Int) - (k : Int)) = false := by simp; omega
      go_enter Tryz.func27, Tryz.ntmps27
      go_wp2
      go_quiet (fail)
      go_wp2_with (go_at_call 58; refine (tok_letter _ _).mono ?_; rintro e w' ⟨rfl, rfl⟩)
      go_quiet ((go_at_call 55; exact quiet_pure (cn _).out ⟨_, rfl⟩))
      go_wp2
      go_ret3
      exact ⟨ret3 HE.out.1.symm HE.out.2.1.symm HE.out.2.2.symm, (by repeat (first | exact Below.refl _ _ | apply below_drewN'))⟩
end Go.Proofs.YtkpjhjoopdbkaaaGreatDoor
namespace Go.Proofs.YtkpjhjoopdbkaaaGreatDoor
open Go.RowKit
structure Tok where
  kind : Int
  text : ByteArray
  at_ : Nat
def Tok.cells (t : Tok) : List Value := [.int .i64 t.kind, .string t.text, .int .i64 t.at_]
def toksCells (l : List Tok) : List Value := l.flatMap Tok.cells
theorem toksCells_len (l : List Tok) : (toksCells l).length = l.length * 3 := by
  induction l with
  | nil => rfl
  | cons t l ih => simp only [toksCells, List.flatMap_cons, List.length_append] at ih ⊢; simp only [ih, Tok.cells, List.length_cons, List.length_nil]; omega
theorem toksCells_snoc (l : List Tok) (t : Tok) : toksCells (l ++ [t]) = toksCells l ++ t.cells := by simp [toksCells]
def nextEnd (l : List UInt8) (k : Nat) : Nat := (nextV l k).toNat
def nextTok (l : List UInt8) (k : Nat) : Tok := ⟨nextK l k, ⟨((l.drop k).take (nextEnd l k - k)).toArray⟩, k⟩
/-- What is left to cut, from a token's place on: the tokens, the place, the error. -/
def lexF (l : List UInt8) : Nat → Nat → List Tok → List Tok × Nat × Int
  | 0, k, acc => (acc, k, 0)
  | f + 1, k, acc => if k < l.length then (if nextE l k = 0 then lexF l f (skipTo l (nextEnd l k)) (acc ++ [nextTok l k]) else ([], k, nextE l k)) else (acc, l.length, 0)
/-- Lex's answer. -/
def lexR (l : List UInt8) : List Tok × Nat × Int := if 16384 < l.length then ([], 0, 2) else lexF l (l.length + 1) (skipTo l 0) []
theorem sign_end {l : List UInt8} {k : Nat} (hk : k < l.length) (he : signE l k = 0) : ∃ n : Nat, signV l k = n ∧ k < n ∧ n ≤ l.length := by
  unfold signE at he
  unfold signV
  by_cases h1 : anyTwo (l.drop k) = true
  · refine ⟨k + 2, by simp [h1], by omega, ?_⟩
    obtain ⟨t, ht, hp⟩ := List.any_eq_true.1 h1
    have h2 : t.length = 2 := by
      simp only [twoSigns, List.mem_cons, List.not_mem_nil, or_false] at ht
      rcases ht with rfl | rfl | rfl | rfl | rfl | rfl <;> rfl
    have h3 : t.length ≤ (l.drop k).length := by
      have hp2 : t.isPrefixOf (l.drop k) = true := hp
      exact (List.isPrefixOf_iff_prefix.1 hp2).length_le
    rw [List.length_drop] at h3
    omega
  · have h1 : anyTwo (l.drop k) = false := by simpa using h1
    rw [h1, if_neg (by simp)] at he ⊢
    by_cases h2 : oneSigns.contains (l.getD k 0) = true
    · exact ⟨k + 1, by rw [if_pos h2]; rfl, by omega, by omega⟩
    · rw [if_neg h2] at he; cases he
theorem run_past {p : UInt8 → Bool} {l : List UInt8} {k : Nat} (hk : k < l.length) (h : p (l.getD k 0) = true) : k < runL p l k ∧ runL p l k ≤ l.length := by
  have hp : p l[k] = true := by rw [List.getD, List.getElem?_eq_getElem hk] at h; exact h
  have h1 := runL_step hk hp
  have h2 := runL_ge p l (k + 1)
  have h3 := runL_le p l k (by omega)
  omega
theorem next_end {l : List UInt8} {k : Nat} (hk : k < l.length) (he : nextE l k = 0) : nextV l k = nextEnd l k ∧ k < nextEnd l k ∧ nextEnd l k ≤ l.length := by
  have key : ∃ n : Nat, nextV l k = n ∧ k < n ∧ n ≤ l.length := by
    unfold nextE at he
    unfold nextV
    by_cases h1 : isLetter (l.getD k 0) = true
    · rw [if_pos h1] at he ⊢
      by_cases h2 : 32 < runL isNamed l k - k
      · rw [if_pos h2] at he; cases he
      · rw [if_neg h2]
        have := run_past (p := isNamed) hk (by unfold isNamed; rw [h1]; rfl)
        exact ⟨_, rfl, this.1, this.2⟩
    · rw [if_neg h1] at he ⊢
      by_cases h2 : isDigit (l.getD k 0) = true
      · rw [if_pos h2] at he ⊢
        have := run_past (p := isDigit) hk h2
        exact ⟨_, by unfold numberV; rw [if_pos he], this.1, this.2⟩
      · rw [if_neg h2] at he ⊢
        exact sign_end hk he
  obtain ⟨n, h1, h2, h3⟩ := key
  have h4 : nextEnd l k = n := by unfold nextEnd; rw [h1]; rfl
  rw [h4]
  exact ⟨h1, h2, h3⟩
theorem skipTo_bd {l : List UInt8} {k : Nat} (h : k ≤ l.length) : k ≤ skipTo l k ∧ skipTo l k ≤ l.length := by
  have := skipC_len false (l.drop k)
  rw [List.length_drop] at this
  unfold skipTo
  omega
theorem text_eq (s : ByteArray) (k e : Nat) : (⟨((s.data.toList.drop k).take (e - k)).toArray⟩ : ByteArray) = s.extract k e := by
  have h : (s.extract k e).data.toList = (s.data.toList.drop k).take (e - k) := Lib.extract_data s k e
  rw [← h]
theorem toks_ty : SlTy Tryz.prog 24 44 3 32 := SlTy.mk (z := .agg #[.int .i64 0, .string ByteArray.empty, .int .i64 0]) Tryz.underlying24 (by kernel_rfl) rfl (by omega)
/-- What Lex hands back. -/
def LexAns (r : List Tok × Nat × Int) (w : World) (e : Ending) (w' : World) : Prop :=
  ∃ v, e = .returned (.tuple #[v, .int .i64 r.2.1, .int .i64 r.2.2]) ∧ Sl w' v r.1.length 3 (toksCells r.1) ∧ Below w.heap.size w w'
set_option maxHeartbeats 1000000 in
theorem tok_Lex_long (s : ByteArray) (w : World) (h : 16384 < s.size) (hs : s.size ≤ 9223372036854775805) :
    Calls Tryz.prog 9 #[.string s] w (LexAns (lexR s.data.toList) w) := by
  have hr : lexR s.data.toList = ([], 0, 2) := by unfold lexR; rw [if_pos (by simpa using h)]
  rw [hr]
  have h2 : (16384 : Int) < (s.size : Int) := by omega
  go_enter Tryz.func9, Tryz.ntmps9
  go_wp2
  go_ret3
  exact ⟨.slice none 0 0, rfl, Sl.none_ _ _, Below.refl _ _⟩
set_option maxHeartbeats 1000000 in
theorem tok_Lex_short (s : ByteArray) (w : World) (h : s.size ≤ 16384) :
    Calls Tryz.prog 9 #[.string s] w (LexAns (lexR s.data.toList) w) := by
  have hl := Lib.hid (show s.data.toList.length = s.size by simp)
  have hL0 : Hid (LexAt (w.alloc (.cells #[.string s, .int .i64 0] 70)) w.heap.size s 0) := heap_alloc_new w _
  have hR : lexF s.data.toList (s.size + 1) (skipTo s.data.toList 0) [] = lexR s.data.toList := by
    unfold lexR; rw [if_neg (by rw [hl.out]; omega), hl.out]
  have HR := Lib.hid hR
  clear hR
  obtain ⟨R, hRR⟩ : ∃ R, R = lexR s.data.toList := ⟨_, rfl⟩
  rw [← hRR] at HR ⊢
  clear hRR
  go_enter Tryz.func9, Tryz.ntmps9
  go_wp2_with fail
  refine (tok_skip s 0 w.heap.size _ (by omega) (by omega) hL0).mono ?_
  rintro e w2 ⟨rfl, hL2, hg2⟩
  obtain ⟨g, hg⟩ : ∃ g, g = w.heap.size := ⟨_, rfl⟩
  have hb2 : Below w.heap.size w w2 := ((Below.refl w.heap.size w).alloc (Nat.le_refl _) _).grown hg2 (by simp) (fun k hk => by injection hk with hk; omega)
  rw [← hg] at hL2 hb2 ⊢
  have HB2 := Lib.hid hb2
  have HL2 := Lib.hid hL2
  have HG := Lib.hid hg
  clear hb2 hL2 hg2 hL0 hg
  go_wp2_with fail
  go_loopg [6] (s.size + 1) (fun f v wr => ∃ (k : Nat) (acc : List Tok), k ≤ s.size ∧ LexAt wr g s k ∧ wr.ownsRow (g + 1) 44 3 v acc.length (toksCells acc) ∧ acc.length ≤ k ∧ Below g w wr ∧ s.size < k + f ∧ lexF s.data.toList f k acc = R)
  case atStart => exact ⟨skipTo s.data.toList 0, [], by rw [← hl.out]; exact (skipTo_bd (by omega)).2, HL2.out, World.ownsRow_nil _ _ _ _, by simp, HB2.out, by omega, HR.out⟩
  case round =>
    obtain ⟨k, acc, hk, hL, hown, hacc, hb, hf, hR⟩ := hrel
    obtain ⟨f, rfl⟩ : ∃ f, gk = f + 1 := ⟨gk - 1, by omega⟩
    have h0 := hL.c0
    have h1 := hL.c1
    have HL := Lib.hid hL
    have HO := Lib.hid hown
    have HB := Lib.hid hb
    have HRk := Lib.hid hR
    have HF := Lib.hid hf
    clear hL hown hb hR hf
    by_cases hlt : k < s.size
    · have hlt2 : (k : Int) < (s.size : Int) := by omega
      go_wp2_with fail
      refine (tok_next s k g _ (by omega) hlt HL.out).mono ?_
      rintro e w3 ⟨rfl, hb3⟩
      have hL3 : LexAt w3 g s k := (hb3.block g HL.out.lt).trans HL.out
      have h03 := hL3.c0
      have h13 := hL3.c1
      have HL3 := Lib.hid hL3
      have HB3 := Lib.hid hb3
      clear hL3 hb3 h0 h1
      by_cases he : nextE s.data.toList k = 0
      · have he2 : (nextE s.data.toList k != 0) = false := by simpa using he
        obtain ⟨v1, v2, v3⟩ := next_end (l := s.data.toList) (k := k) (by rw [hl.out]; exact hlt) he
        have hR3 := HRk.out
        simp only [lexF] at hR3
        rw [if_pos (by rw [hl.out]; exact hlt), if_pos he] at hR3
        have HR3 := Lib.hid hR3
        rw [hl.out] at v3
        clear hR3
        obtain ⟨E, hE⟩ : ∃ E, E = nextEnd s.data.toList k := ⟨_, rfl⟩
        rw [← hE] at v1 v2 v3 HR3
        have HEE := Lib.hid hE
        clear hE
        go_wp2
        have hown3 := Lib.hid (own_below HO.out HB3.out)
        have nn : w3.heap.size ≠ g := by have := HL3.out.lt; omega
        have hkE : k ≤ E := by omega
        have hlg := HL3.out.lt
        have hone := Lib.hid (show ∀ u ∈ [Value.int .i64 (nextK s.data.toList k), .string (s.extract k E), .int .i64 k], u.oneCell' = true by
          intro u hu
          simp only [List.mem_cons, List.not_mem_nil, or_false] at hu
          rcases hu with rfl | rfl | rfl <;> rfl)
        go_region_law (first | (refine step_append_sl toks_ty rfl (.tmp 40) (.tmp 54) rfl (g + 1) rfl (by exact own_drew (hown3.out.alloc _)) rfl (by exact Sl.new _ _ [Value.int .i64 (nextK s.data.toList k), .string (s.extract k E), .int .i64 k] 1 3 rfl (by omega)) hone.out (by omega) (by omega) (by simp; omega) ?_; intro v4 w4 hown4 hg4 hat4))
        all_goals
          have hL4 : LexAt w4 g s k := by
            have hne : some g ≠ u6.ownBlock := by
              intro h
              have := (HO.out.lt g h.symm).1
              omega
            have h1 := hg4.block g (by simp; omega) hne
            exact h1.trans ((Below.heap_alloc w3 _ g hlg).trans HL3.out)
          have hb4 : Below g w w4 := by
            have h1 : Below g w w3 := HB.out.trans (HB3.out.mono (by have := HL.out.lt; omega))
            have h2 : Below g w (w3.alloc (.cells (List.toArray [Value.int .i64 (nextK s.data.toList k), .string (s.extract k E), .int .i64 k]) 44)).drew := (h1.alloc (by omega) _).drew
            exact h2.grown hg4 (by simp; omega) (fun q hq => by have := (HO.out.lt q hq).1; omega)
          have h04 := hL4.c0
          have h14 := hL4.c1
          have hf4 := hL4.f1
          have HL4 := Lib.hid hL4
          have HB4 := Lib.hid hb4
          have HO4 := Lib.hid hown4
          clear hL4 hb4 hown4 hg4 hat4 h03 h13 hone hown3
          go_wp2_with (go_at_call 26; refine (tok_skip s E g _ (by omega) (by omega) (HL4.out.store E)).mono ?_; rintro e w5 ⟨rfl, hL5, hg5⟩)
          go_roundg f
          case measure => omega
          case rel =>
            have hsk := skipTo_bd (l := s.data.toList) (k := E) (by rw [hl.out]; exact v3)
            have hl2 := hl.out
            have hf2 := HF.out
            have hown5 : w5.ownsRow (g + 1) 44 3 v4 (acc.length + 1) (toksCells acc ++ [Value.int .i64 (nextK s.data.toList k), .string (s.extract k E), .int .i64 k]) := by
              have h1 := ownsRow_setCell_below HO4.out (a := ⟨g, 1, none⟩) (by simp) (.int .i64 E)
              exact h1.kept hg5 (by right; intro h; have := (h1.lt g h).1; omega)
            have ht : (nextTok s.data.toList k).cells = [Value.int .i64 (nextK s.data.toList k), .string (s.extract k E), .int .i64 k] := by
              unfold nextTok Tok.cells
              rw [text_eq, ← HEE.out]
            refine ⟨skipTo s.data.toList E, acc ++ [nextTok s.data.toList k], by omega, hL5, ?_, by simp; omega, ?_, by omega, HR3.out⟩
            · rw [List.length_append, toksCells_snoc, ht]
              exact hown5
            · have h1 : Below g w (w4.setCell ⟨g, 1, none⟩ (.int .i64 E)) := HB4.out.setCell (by simp) _
              exact h1.grown hg5 (by have := HL4.out.lt; simp [World.setCell]; omega) (fun q hq => by injection hq with hq; omega)
      · have he2 : (nextE s.data.toList k != 0) = true := by simpa using he
        have hR3 := HRk.out
        simp only [lexF] at hR3
        rw [if_pos (by rw [hl.out]; exact hlt), if_neg he] at hR3
        have HR3 := Lib.hid hR3
        clear hR3
        go_wp2
        go_quiet (fail)
        go_wp2
        go_ret3
        rw [← HR3.out]
        refine ⟨.slice none 0 0, rfl, Sl.none_ _ _, ?_⟩
        rw [← HG.out]
        exact below_drewN' (HB.out.trans (HB3.out.mono (by have := HL.out.lt; omega))) _
    · have hge : (s.size : Int) ≤ (k : Int) := by omega
      have hR3 := HRk.out
      simp only [lexF] at hR3
      rw [if_neg (by rw [hl.out]; omega), hl.out] at hR3
      have HR3 := Lib.hid hR3
      clear hR3
      go_wp2
      go_ret3
      rw [← HR3.out]
      refine ⟨_, rfl, Sl.of_own HO.out, ?_⟩
      rw [← HG.out]
      exact HB.out
theorem tok_Lex (s : ByteArray) (w : World) (hs : s.size ≤ 9223372036854775805) :
    Calls Tryz.prog 9 #[.string s] w (LexAns (lexR s.data.toList) w) := by
  by_cases h : s.size ≤ 16384
  · exact tok_Lex_short s w h
  · exact tok_Lex_long s w (by omega) hs
end Go.Proofs.YtkpjhjoopdbkaaaGreatDoor
namespace Go.Proofs.YtkpjhjoopdbkaaaGreatDoor
open Go.RowKit
def tokTexts (l : List Tok) : List ByteArray := l.map (·.text)
def joinL (l : List Tok) : List UInt8 := Lib.join ((tokTexts l).map (·.data.toList)) [32]
theorem toksCells_at (l : List Tok) : ∀ (k i : Nat) (h : k < l.length), i < 3 → (toksCells l)[k * 3 + i]? = (l[k].cells)[i]? := by
  induction l with
  | nil => intro k i h; exact absurd h (by simp)
  | cons t l ih =>
    intro k i h hi
    have e : toksCells (t :: l) = t.cells ++ toksCells l := by simp [toksCells]
    rw [e]
    have hc : t.cells.length = 3 := rfl
    rcases k with _ | k
    · rw [List.getElem?_append_left (by omega)]; simp
    · rw [List.getElem?_append_right (by omega), hc]
      have := ih k i (by simpa using h) hi
      rw [show (k + 1) * 3 + i - 3 = k * 3 + i by omega, this]; rfl
theorem Sl.tok {w : World} {A : Option Addr} {n c : Nat} {l : List Tok} (h : Sl w (.slice A n c) n 3 (toksCells l)) {k : Nat} (hk : k < l.length) :
    ∃ b off, A = some ⟨b, off, none⟩ ∧ b < w.heap.size ∧ w.cell? ⟨b, off + k * 3, none⟩ = some (.int .i64 l[k].kind) ∧ w.cell? ⟨b, off + k * 3 + 1, none⟩ = some (.string l[k].text) ∧ w.cell? ⟨b, off + k * 3 + 2, none⟩ = some (.int .i64 l[k].at_) := by
  have hn : l.length = n := by have := h.len; rw [toksCells_len] at this; omega
  obtain ⟨b, off, rfl, hc⟩ := h.at_ (by omega)
  have h0 := hc (k * 3 + 0) _ ((toksCells_at l k 0 hk (by omega)).trans rfl)
  have h1 := hc (k * 3 + 1) _ ((toksCells_at l k 1 hk (by omega)).trans rfl)
  have h2 := hc (k * 3 + 2) _ ((toksCells_at l k 2 hk (by omega)).trans rfl)
  exact ⟨b, off, rfl, World.block_lt_of_cell? w _ h0, h0, h1, h2⟩
theorem strs_ty : SlTy Tryz.prog 23 9 1 16 := SlTy.mk (z := .string ByteArray.empty) Tryz.underlying23 (by kernel_rfl) rfl (by omega)
end Go.Proofs.YtkpjhjoopdbkaaaGreatDoor
namespace Go.Proofs.YtkpjhjoopdbkaaaGreatDoor
open Go.RowKit
/-- But for the blocks of H nothing that was there has turned. -/
structure AgH (H : Nat → Prop) (w w' : World) : Prop where
  os : w'.os = w.os
  tape : w'.tape = w.tape
  output : w'.output = w.output
  size : w.heap.size ≤ w'.heap.size
  block : ∀ k, k < w.heap.size → ¬ H k → w'.heap[k]? = w.heap[k]?
theorem AgH.refl (H : Nat → Prop) (w : World) : AgH H w w := ⟨rfl, rfl, rfl, Nat.le_refl _, fun _ _ _ => rfl⟩
/-- One step more; what it may turn beside H is new. -/
theorem AgH.then_ {H H' : Nat → Prop} {a b c : World} (h : AgH H a b) (k : AgH H' b c) (hH : ∀ i, i < a.heap.size → H' i → H i) : AgH H a c :=
  ⟨k.os.trans h.os, k.tape.trans h.tape, k.output.trans h.output, Nat.le_trans h.size k.size, fun i hi hn => (k.block i (Nat.lt_of_lt_of_le hi h.size) fun e => hn (hH i hi e)).trans (h.block i hi hn)⟩
theorem AgH.trans {H : Nat → Prop} {a b c : World} (h : AgH H a b) (k : AgH H b c) : AgH H a c := h.then_ k fun _ _ e => e
theorem AgH.mono {H H' : Nat → Prop} {a b : World} (h : AgH H a b) (hH : ∀ i, i < a.heap.size → H i → H' i) : AgH H' a b :=
  ⟨h.os, h.tape, h.output, h.size, fun i hi hn => h.block i hi fun e => hn (hH i hi e)⟩
theorem AgH.of_below {H : Nat → Prop} {a b : World} (h : Below a.heap.size a b) : AgH H a b := ⟨h.os, h.tape, h.output, h.size, fun i hi _ => h.block i hi⟩
theorem AgH.below {H : Nat → Prop} {B : Nat} {a b : World} (h : AgH H a b) (hB : B ≤ a.heap.size) (hH : ∀ i, i < B → ¬ H i) : Below B a b :=
  ⟨h.os, h.tape, h.output, h.size, fun i hi => h.block i (Nat.lt_of_lt_of_le hi hB) (hH i hi)⟩
theorem AgH.drewN {H : Nat → Prop} {a b : World} (h : AgH H a b) (n : Nat) : AgH H a (b.drewN n) := ⟨h.os, h.tape, h.output, h.size, h.block⟩
theorem AgH.drew {H : Nat → Prop} {a b : World} (h : AgH H a b) : AgH H a b.drew := h.drewN 1
theorem AgH.alloc {H : Nat → Prop} {a b : World} (h : AgH H a b) (o : Obj) : AgH H a (b.alloc o) :=
  h.trans (AgH.of_below ((Below.refl _ b).alloc (Nat.le_refl _) o))
theorem AgH.setCell {H : Nat → Prop} {a b : World} (h : AgH H a b) {p : Addr} (hp : H p.block ∨ a.heap.size ≤ p.block) (u : Value) : AgH H a (b.setCell p u) :=
  h.then_ (H' := fun k => k = p.block) ⟨rfl, rfl, rfl, by simp [World.setCell], fun k _ hk => Below.heap_setCell _ _ _ _ hk⟩ fun i hi e => by
    subst e
    rcases hp with hp | hp
    · exact hp
    · omega
theorem AgH.grown {H : Nat → Prop} {a b c : World} {row : Option Nat} (h : AgH H a b) (hg : b.grownBy c row) (hr : ∀ k, row = some k → k < a.heap.size → H k) : AgH H a c :=
  h.then_ (H' := fun k => row = some k) ⟨hg.os, hg.tape, hg.output, hg.size, fun k hk hn => hg.block k hk fun e => hn e.symm⟩ fun i hi e => hr i e hi
/-- Said of all worlds that turn nothing but H's blocks. -/
def HeldH (H : Nat → Prop) (w : World) (Q : World → Prop) : Prop := ∀ W, AgH H w W → Q W
theorem HeldH.now {H : Nat → Prop} {w : World} {Q : World → Prop} (h : HeldH H w Q) : Q w := h w (AgH.refl _ _)
theorem HeldH.keep {H H' : Nat → Prop} {w W : World} {Q : World → Prop} (h : HeldH H w Q) (k : AgH H' w W) (hH : ∀ i, i < w.heap.size → H' i → H i) : HeldH H W Q := by
  intro W' h'
  exact h W' ((k.mono hH).trans h')
theorem HeldH.go {H : Nat → Prop} {w W : World} {Q : World → Prop} (h : HeldH H w Q) (k : AgH H w W) : HeldH H W Q := h.keep k fun _ _ e => e
theorem HeldH.mono {H H' : Nat → Prop} {w : World} {Q : World → Prop} (h : HeldH H w Q) (hH : ∀ i, i < w.heap.size → H' i → H i) : HeldH H' w Q := fun W h' => h W (h'.mono hH)
theorem HeldH.imp {H : Nat → Prop} {w : World} {Q R : World → Prop} (h : HeldH H w Q) (hQ : ∀ W, Q W → R W) : HeldH H w R := fun W h' => hQ W (h W h')
theorem HeldH.of_below {H : Nat → Prop} {B : Nat} {w : World} {Q : World → Prop} (hB : B ≤ w.heap.size) (hH : ∀ i, i < B → ¬ H i) (h : ∀ W, Below B w W → Q W) : HeldH H w Q := fun W k => h W (k.below hB hH)
/-- Only the block g. -/
abbrev only (g : Nat) : Nat → Prop := fun k => k = g
/-- Nothing new. -/
abbrev under (B : Nat) : Nat → Prop := fun k => k < B
/-- The parser's slices, and where the net begins and ends. -/
structure Hs where
  A1 : Option Addr
  n1 : Nat
  c1 : Nat
  A2 : Option Addr
  n2 : Nat
  c2 : Nat
  A3 : Option Addr
  n3 : Nat
  c3 : Nat
  f : Int
  t : Int
  A4 : Option Addr
  n4 : Nat
  c4 : Nat
abbrev Hs.cells (h : Hs) (A : Option Addr) (n c : Nat) (k en er pl : Int) : Array Value :=
  #[.slice A n c, .int .i64 k, .int .i64 en, .int .i64 er, .int .i64 pl, .slice h.A1 h.n1 h.c1, .slice h.A2 h.n2 h.c2, .slice h.A3 h.n3 h.c3, .int .i64 h.f, .int .i64 h.t, .slice h.A4 h.n4 h.c4]
def PBlk (w : World) (g : Nat) (A : Option Addr) (n c : Nat) (k en er pl : Int) (h : Hs) : Prop := w.heap[g]? = some (.cells (h.cells A n c k en er pl) 75 (0, 0))
section
variable {w : World} {g : Nat} {A : Option Addr} {n c : Nat} {k en er pl : Int} {h : Hs}
theorem PBlk.lt (b : PBlk w g A n c k en er pl h) : g < w.heap.size := (Array.getElem?_eq_some_iff.1 b).1
theorem PBlk.at_ (b : PBlk w g A n c k en er pl h) (j : Nat) (u : Value) (hu : (h.cells A n c k en er pl)[j]? = some u) : w.cell? ⟨g, j, none⟩ = some u := by
  rw [cell_of_row _ _ _ _ _ _ b]; exact hu
theorem PBlk.c0 (b : PBlk w g A n c k en er pl h) : w.cell? ⟨g, 0, none⟩ = some (.slice A n c) := b.at_ 0 _ rfl
theorem PBlk.c1 (b : PBlk w g A n c k en er pl h) : w.cell? ⟨g, 1, none⟩ = some (.int .i64 k) := b.at_ 1 _ rfl
theorem PBlk.c2 (b : PBlk w g A n c k en er pl h) : w.cell? ⟨g, 2, none⟩ = some (.int .i64 en) := b.at_ 2 _ rfl
theorem PBlk.c3 (b : PBlk w g A n c k en er pl h) : w.cell? ⟨g, 3, none⟩ = some (.int .i64 er) := b.at_ 3 _ rfl
theorem PBlk.c4 (b : PBlk w g A n c k en er pl h) : w.cell? ⟨g, 4, none⟩ = some (.int .i64 pl) := b.at_ 4 _ rfl
theorem PBlk.c5 (b : PBlk w g A n c k en er pl h) : w.cell? ⟨g, 5, none⟩ = some (.slice h.A1 h.n1 h.c1) := b.at_ 5 _ rfl
theorem PBlk.c6 (b : PBlk w g A n c k en er pl h) : w.cell? ⟨g, 6, none⟩ = some (.slice h.A2 h.n2 h.c2) := b.at_ 6 _ rfl
theorem PBlk.c7 (b : PBlk w g A n c k en er pl h) : w.cell? ⟨g, 7, none⟩ = some (.slice h.A3 h.n3 h.c3) := b.at_ 7 _ rfl
theorem PBlk.c8 (b : PBlk w g A n c k en er pl h) : w.cell? ⟨g, 8, none⟩ = some (.int .i64 h.f) := b.at_ 8 _ rfl
theorem PBlk.c9 (b : PBlk w g A n c k en er pl h) : w.cell? ⟨g, 9, none⟩ = some (.int .i64 h.t) := b.at_ 9 _ rfl
theorem PBlk.c10 (b : PBlk w g A n c k en er pl h) : w.cell? ⟨g, 10, none⟩ = some (.slice h.A4 h.n4 h.c4) := b.at_ 10 _ rfl
theorem PBlk.froz (b : PBlk w g A n c k en er pl h) (o : Nat) : w.frozen? ⟨g, o, none⟩ = false := by
  have b' : w.heap[g]? = some (.cells (h.cells A n c k en er pl) 75 (0, 0)) := b
  simp [World.frozen?, b']
theorem PBlk.put (b : PBlk w g A n c k en er pl h) (o : Nat) (u : Value) : (w.setCell ⟨g, o, none⟩ u).heap[g]? = some (.cells ((h.cells A n c k en er pl).setIfInBounds o u) 75 (0, 0)) := by
  have b' : w.heap[g]? = some (.cells (h.cells A n c k en er pl) 75 (0, 0)) := b
  simp only [World.setCell, Array.getElem?_modify, if_pos, b', Option.map_some]
  rfl
theorem PBlk.set1 (b : PBlk w g A n c k en er pl h) (x : Int) : PBlk (w.setCell ⟨g, 1, none⟩ (.int .i64 x)) g A n c x en er pl h := b.put 1 _
theorem PBlk.set3 (b : PBlk w g A n c k en er pl h) (x : Int) : PBlk (w.setCell ⟨g, 3, none⟩ (.int .i64 x)) g A n c k en x pl h := b.put 3 _
theorem PBlk.set4 (b : PBlk w g A n c k en er pl h) (x : Int) : PBlk (w.setCell ⟨g, 4, none⟩ (.int .i64 x)) g A n c k en er x h := b.put 4 _
theorem PBlk.set5 (b : PBlk w g A n c k en er pl h) (B : Option Addr) (m d : Nat) : PBlk (w.setCell ⟨g, 5, none⟩ (.slice B m d)) g A n c k en er pl { h with A1 := B, n1 := m, c1 := d } := b.put 5 _
theorem PBlk.set6 (b : PBlk w g A n c k en er pl h) (B : Option Addr) (m d : Nat) : PBlk (w.setCell ⟨g, 6, none⟩ (.slice B m d)) g A n c k en er pl { h with A2 := B, n2 := m, c2 := d } := b.put 6 _
theorem PBlk.set7 (b : PBlk w g A n c k en er pl h) (B : Option Addr) (m d : Nat) : PBlk (w.setCell ⟨g, 7, none⟩ (.slice B m d)) g A n c k en er pl { h with A3 := B, n3 := m, c3 := d } := b.put 7 _
theorem PBlk.set8 (b : PBlk w g A n c k en er pl h) (x : Int) : PBlk (w.setCell ⟨g, 8, none⟩ (.int .i64 x)) g A n c k en er pl { h with f := x } := b.put 8 _
theorem PBlk.set9 (b : PBlk w g A n c k en er pl h) (x : Int) : PBlk (w.setCell ⟨g, 9, none⟩ (.int .i64 x)) g A n c k en er pl { h with t := x } := b.put 9 _
theorem PBlk.set10 (b : PBlk w g A n c k en er pl h) (B : Option Addr) (m d : Nat) : PBlk (w.setCell ⟨g, 10, none⟩ (.slice B m d)) g A n c k en er pl { h with A4 := B, n4 := m, c4 := d } := b.put 10 _
theorem PBlk.keep {w' : World} {H : Nat → Prop} (b : PBlk w g A n c k en er pl h) (a : AgH H w w') (hg : ¬ H g) : PBlk w' g A n c k en er pl h := (a.block g b.lt hg).trans b
theorem PBlk.below {w' : World} (b : PBlk w g A n c k en er pl h) (a : Below w.heap.size w w') : PBlk w' g A n c k en er pl h := (a.block g b.lt).trans b
end
/-- The kinds and texts of tokens. -/
def ktOf (T : List Tok) : List Kt := T.map fun t => (t.kind, t.text)
/-- Where a token begins; behind the last one the end. -/
def hereT (T : List Tok) (en : Int) (k : Nat) : Int := if h : k < T.length then (T[k].at_ : Int) else en
def placeT (T : List Tok) (en : Int) (s : Ps) : Int := if s.err = 0 then 0 else hereT T en s.ep
/-- Tokens that are not too many, nor too long. -/
structure TokS (T : List Tok) : Prop where
  len : T.length ≤ 1000000
  text : ∀ t ∈ T, t.text.size ≤ 1000000
/-- The parser at the block g: the tokens are read, and the variables. -/
structure PAt (T : List Tok) (en : Int) (g : Nat) (A : Option Addr) (c : Nat) (h : Hs) (s : Ps) (w : World) : Prop where
  blk : PBlk w g A T.length c s.at_ en s.err (placeT T en s) h
  at_ : s.at_ ≤ T.length
  small : TokS T
  toks : HeldH (only g) w fun W => Sl W (.slice A T.length c) T.length 3 (toksCells T)
  tab : HeldH (only g) w TabOk
  vars : HeldH (only g) w fun W => Sl W (.slice h.A4 h.n4 h.c4) h.n4 1 (strCells s.vars)
section
variable {T : List Tok} {en : Int} {g : Nat} {A : Option Addr} {c : Nat} {h : Hs} {s : Ps} {w w' : World}
theorem PAt.keep {H : Nat → Prop} (p : PAt T en g A c h s w) (a : AgH H w w') (hH : ∀ i, i < w.heap.size → ¬ H i) : PAt T en g A c h s w' :=
  ⟨p.blk.keep a (hH g p.blk.lt), p.at_, p.small, p.toks.keep a fun i hi e => absurd e (hH i hi), p.tab.keep a fun i hi e => absurd e (hH i hi), p.vars.keep a fun i hi e => absurd e (hH i hi)⟩
theorem PAt.below (p : PAt T en g A c h s w) (a : Below w.heap.size w w') : PAt T en g A c h s w' := p.keep (H := fun _ => False) (AgH.of_below a) fun _ _ e => e
theorem PAt.drewN (p : PAt T en g A c h s w) (n : Nat) : PAt T en g A c h s (w.drewN n) := p.below (below_drewN' (Below.refl _ _) n)
/-- A call that turned the parser alone. -/
theorem PAt.turn {s' : Ps} (p : PAt T en g A c h s w) (a : AgH (only g) w w') (b : PBlk w' g A T.length c s'.at_ en s'.err (placeT T en s') h) (hv : s'.vars = s.vars) (ha : s'.at_ ≤ T.length) : PAt T en g A c h s' w' :=
  ⟨b, ha, p.small, p.toks.go a, p.tab.go a, by rw [hv]; exact p.vars.go a⟩
theorem PAt.tok (p : PAt T en g A c h s w) {k : Nat} (hk : k < T.length) : ∃ b off, A = some ⟨b, off, none⟩ ∧ w.cell? ⟨b, off + k * 3, none⟩ = some (.int .i64 T[k].kind) ∧ w.cell? ⟨b, off + k * 3 + 1, none⟩ = some (.string T[k].text) ∧ w.cell? ⟨b, off + k * 3 + 2, none⟩ = some (.int .i64 T[k].at_) := by
  obtain ⟨b, off, e, _, h0, h1, h2⟩ := p.toks.now.tok hk
  exact ⟨b, off, e, h0, h1, h2⟩
end
theorem ktOf_at (T : List Tok) (k : Nat) (h : k < T.length) : (ktOf T).getD k (0, ByteArray.empty) = (T[k].kind, T[k].text) := by
  unfold ktOf
  rw [List.getD, List.getElem?_map, List.getElem?_eq_getElem h]; rfl
theorem ktOf_end (T : List Tok) (k : Nat) (h : T.length ≤ k) : (ktOf T).getD k (0, ByteArray.empty) = (0, ByteArray.empty) := by
  unfold ktOf
  rw [List.getD, List.getElem?_eq_none (by simpa using h)]; rfl
theorem ktOf_len (T : List Tok) : (ktOf T).length = T.length := by unfold ktOf; rw [List.length_map]
end Go.Proofs.YtkpjhjoopdbkaaaGreatDoor
