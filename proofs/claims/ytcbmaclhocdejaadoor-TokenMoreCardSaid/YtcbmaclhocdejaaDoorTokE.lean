/- Contracts of package token: the signs. -/
import Derived.Test.YtcbmaclhocdejaaDoorTokD
import Derived.Test.YtcbmaclhocdejaaDoorShelf
import Derived.Deep.DeepMust
namespace Go.Proofs.YtcbmaclhocdejaaDoor
open Go.RowKit
/-- The signs of two bytes. -/
def twoSigns : List (List UInt8) := [[46, 46], [61, 61], [33, 61], [60, 61], [38, 38], [124, 124]]
def twoStrs : List ByteArray := twoSigns.map fun l => ⟨l.toArray⟩
def twoCells : Array Value := (twoStrs.map Value.string).toArray
def oneSigns : List UInt8 := [59, 58, 61, 44, 40, 41, 123, 125, 42, 43, 45, 47, 37, 60, 33]
set_option maxHeartbeats 400000 in
theorem tok_twos (w : World) :
    Calls Tryd.prog 35 #[] w fun e w' => e = .returned (.slice (some ⟨w.heap.size, 0, none⟩) 6 6) ∧ w.alloc (.cells twoCells 9) = w' := by
  go_enter Tryd.func35, Tryd.ntmps35
  go_wp2
  go_ret
  exact ⟨rfl, rfl⟩
set_option maxHeartbeats 400000 in
theorem tok_two (r t : ByteArray) (b : Nat) (w : World) (hc : w.cell? ⟨b, 0, none⟩ = some (.string r)) :
    Calls Tryd.prog 32 #[.string t, .pointer (some ⟨b, 0, none⟩)] w fun e w' => e = .returned (.bool (Lib.hasPrefix r.data.toList t.data.toList)) ∧ w = w' := by
  go_enter Tryd.func32, Tryd.ntmps32
  go_wp2_with (go_at_call 33; refine (Tryd.strings_HasPrefix _ _ _).mono ?_; rintro e w' ⟨rfl, hw⟩; have hw2 := hw.symm; subst hw2; clear hw)
  go_ret
  exact ⟨rfl, rfl⟩
def anyTwo (l : List UInt8) : Bool := twoSigns.any fun t => Lib.hasPrefix l t
theorem two_at {k : Nat} (h : k < 6) : twoCells[k]? = some (.string (twoStrs.getD k ByteArray.empty)) := by
  have : k = 0 ∨ k = 1 ∨ k = 2 ∨ k = 3 ∨ k = 4 ∨ k = 5 := by omega
  rcases this with h | h | h | h | h | h <;> subst h <;> rfl
theorem two_data {k : Nat} (h : k < 6) : (twoStrs.getD k ByteArray.empty).data.toList = twoSigns.getD k [] := by
  have : k = 0 ∨ k = 1 ∨ k = 2 ∨ k = 3 ∨ k = 4 ∨ k = 5 := by omega
  rcases this with h | h | h | h | h | h <;> subst h <;> rfl
/-- An index that tells whether there is one. -/
def IdxAns (b : Bool) (w : World) (e : Ending) (w' : World) : Prop := ∃ i : Int, e = .returned (.int .i64 i) ∧ decide (0 ≤ i) = b ∧ w = w'
theorem any_hit {α : Type} {l : List α} {f : α → Bool} {k : Nat} (h : k < l.length) (hf : f l[k] = true) : l.any f = true := List.any_eq_true.2 ⟨_, List.getElem_mem h, hf⟩
theorem any_miss {α : Type} {l : List α} {f : α → Bool} (d : α) (h : ∀ k, k < l.length → f (l.getD k d) = false) : l.any f = false := by
  rw [Bool.eq_false_iff]
  intro ha
  obtain ⟨x, hx, hf⟩ := List.any_eq_true.1 ha
  obtain ⟨k, hk, rfl⟩ := List.getElem_of_mem hx
  have := h k hk
  rw [List.getD, List.getElem?_eq_getElem hk] at this
  rw [Option.getD_some, hf] at this
  cases this
set_option maxHeartbeats 1000000 in
theorem tok_IndexFunc (r : ByteArray) (b c : Nat) (w : World) (hc : w.cell? ⟨b, 0, none⟩ = some (.string r)) (hcc : Hid (∀ k, k < 6 → w.cell? ⟨c, k, none⟩ = some (.string (twoStrs.getD k ByteArray.empty)))) :
    Calls Tryd.prog 42 #[.slice (some ⟨c, 0, none⟩) 6 6, .func (.func 32) #[] #[.pointer (some ⟨b, 0, none⟩)]] w (IdxAns (anyTwo r.data.toList) w) := by
  go_enter Tryd.func42, Tryd.ntmps42
  go_wp2
  go_loop [8] (fun i => ∃ k : Nat, k ≤ 6 ∧ i = .int .i64 k ∧ Hid (∀ j, j < k → Lib.hasPrefix r.data.toList (twoSigns.getD j []) = false)) (fun i => 6 - (intOf i).toNat)
  case atStart => exact ⟨0, by omega, rfl, fun j hj => by omega⟩
  case round =>
    obtain ⟨k, hk, rfl, hno⟩ := hrel
    by_cases hlt : k < 6
    · have hcell := hcc.out k hlt
      have hd := two_data hlt
      obtain ⟨z, hz⟩ : ∃ z, z = twoStrs.getD k ByteArray.empty := ⟨_, rfl⟩
      rw [← hz] at hcell hd
      have HD := Lib.hid hd
      clear hd hz
      go_wp2_with (go_at_call 32; refine (tok_two _ _ _ _ hc).mono ?_; rintro e w' ⟨rfl, rfl⟩)
      · go_ret
        have hh := ‹Lib.hasPrefix r.data.toList z.data.toList = true›
        rw [HD.out] at hh
        refine ⟨k, rfl, ?_, rfl⟩
        have h2 : anyTwo r.data.toList = true := any_hit (l := twoSigns) (k := k) (f := fun t => Lib.hasPrefix r.data.toList t) (by exact hlt) (by rw [List.getD, List.getElem?_eq_getElem (by exact hlt)] at hh; exact hh)
        rw [h2]; simp
      · have hh := ‹Lib.hasPrefix r.data.toList z.data.toList = false›
        rw [HD.out] at hh
        have HH := Lib.hid hh
        clear hh
        go_round
        case rel =>
          refine ⟨k + 1, by omega, by go_num, fun j hj => ?_⟩
          by_cases h : j < k
          · exact hno.out j h
          · have : j = k := by omega
            subst this; exact HH.out
        case measure => simp [intOf]; omega
    · go_wp2
      go_ret
      refine ⟨-1, rfl, ?_, rfl⟩
      have h2 : anyTwo r.data.toList = false := any_miss (l := twoSigns) (f := fun t => Lib.hasPrefix r.data.toList t) [] (fun j hj => hno.out j (by have : twoSigns.length = 6 := rfl; omega))
      rw [h2]; rfl
set_option maxHeartbeats 1000000 in
theorem tok_ContainsFunc (r : ByteArray) (b c : Nat) (w : World) (hc : w.cell? ⟨b, 0, none⟩ = some (.string r)) (hcc : Hid (∀ k, k < 6 → w.cell? ⟨c, k, none⟩ = some (.string (twoStrs.getD k ByteArray.empty)))) :
    Calls Tryd.prog 34 #[.slice (some ⟨c, 0, none⟩) 6 6, .func (.func 32) #[] #[.pointer (some ⟨b, 0, none⟩)]] w fun e w' => e = .returned (.bool (anyTwo r.data.toList)) ∧ w = w' := by
  go_enter Tryd.func34, Tryd.ntmps34
  go_wp2_with (go_at_call 42; refine (tok_IndexFunc r b c _ hc hcc).mono ?_; rintro e w' ⟨i, rfl, hi, rfl⟩)
  go_ret
  exact ⟨rfl, rfl⟩
theorem indexByte_has (l : List UInt8) (c : UInt8) : -1 ≤ Lib.indexByte l c ∧ decide (0 ≤ Lib.indexByte l c) = l.contains c := by
  induction l with
  | nil => simp [Lib.indexByte]
  | cons b l ih =>
    obtain ⟨h1, h2⟩ := ih
    by_cases hb : b = c
    · subst hb; simp [Lib.indexByte]
    · have hcb : ¬ c = b := fun h => hb h.symm
      have hb2 : (b == c) = false := by simpa using hb
      have hcb2 : (c == b) = false := by simpa using hcb
      simp only [Lib.indexByte, hb2, Bool.false_eq_true, if_false, List.contains_cons, hcb2, Bool.false_or]
      rw [← h2]
      by_cases hm : Lib.indexByte l c = -1
      · simp [hm]
      · have hm2 : (Lib.indexByte l c == -1) = false := by simpa using hm
        rw [hm2]
        simp only [Bool.false_eq_true, if_false]
        refine ⟨by omega, ?_⟩
        rw [Bool.eq_iff_iff]; simp only [decide_eq_true_eq]; omega
theorem tok_ones (c : UInt8) (w : World) :
    Calls Tryd.prog 36 #[.string ⟨#[59, 58, 61, 44, 40, 41, 123, 125, 42, 43, 45, 47, 37, 60, 33]⟩, .int .u8 c.toNat] w (IdxAns (oneSigns.contains c) w) :=
  (Tryd.strings_IndexByte _ _ _).mono fun e w' ⟨he, hw⟩ => ⟨_, he, by
    have h := (indexByte_has oneSigns c).2
    have hc : ((c.toNat : Int).toNat).toUInt8 = c := by simp
    rw [hc]
    exact h, hw.symm⟩
/-- Where the sign that begins at k ends; the error. -/
def signE (l : List UInt8) (k : Nat) : Int := if anyTwo (l.drop k) then 0 else if oneSigns.contains (l.getD k 0) then 0 else 4
def signV (l : List UInt8) (k : Nat) : Int := if anyTwo (l.drop k) then k + 2 else if oneSigns.contains (l.getD k 0) then k + 1 else 0
set_option maxHeartbeats 1000000 in
theorem tok_sign (s : ByteArray) (k g : Nat) (w : World) (hs : s.size ≤ 9223372036854775805) (hk : k < s.size) (hg : Hid (LexAt w g s k)) :
    Calls Tryd.prog 26 #[.pointer (some ⟨g, 0, none⟩)] w fun e w' => e = .returned (.tuple #[.int .i64 (signV s.data.toList k), .int .i64 (signE s.data.toList k)]) ∧ Below w.heap.size w w' := by
  have h0 := hg.out.c0
  have h1 := hg.out.c1
  have hlt := hg.out.lt
  have hkle : k ≤ s.size := by omega
  have n0 := World.new_ne w _ h0
  have n1 := World.new_ne w _ h1
  have a0 : ∀ o, (w.alloc o).cell? ⟨g, 0, none⟩ = some (.string s) := fun o => by rw [World.cell?_alloc_lt w o _ hlt]; exact h0
  have a1 : ∀ o, (w.alloc o).cell? ⟨g, 1, none⟩ = some (.int .i64 k) := fun o => by rw [World.cell?_alloc_lt w o _ hlt]; exact h1
  obtain ⟨r, hr⟩ : ∃ r, s.extract k s.size = r := ⟨_, rfl⟩
  have hrd : r.data.toList = s.data.toList.drop k := by rw [← hr, Lib.extract_to_end]
  have hl : s.data.toList.length = s.size := by simp
  have hrs : r.size = s.size - k := by rw [Lib.size_eq, hrd, List.length_drop, hl]
  have hr0 : 0 < r.size := by omega
  have hrl : 0 < r.data.toList.length := by rw [← Lib.size_eq]; exact hr0
  have hr1 : r[0] = s.data.toList.getD k 0 := by
    have h : r.data.toList[0] = s.data.toList.getD k 0 := by
      have h2 : r.data.toList[0]? = s.data.toList[k]? := by rw [hrd, List.getElem?_drop]; rfl
      rw [List.getElem?_eq_getElem hrl] at h2
      rw [List.getD, ← h2]; rfl
    exact h
  have HRD := Lib.hid hrd
  have HR1 := Lib.hid hr1
  have hr2 : (0 : Int) < (r.size : Int) := by omega
  have nn : w.heap.size + 1 ≠ g := by omega
  clear hrd hr1 hrs hl
  go_enter Tryd.func26, Tryd.ntmps26
  go_wp2
  go_cut [4] (fun v wx => v = .pointer (some ⟨w.heap.size, 0, none⟩) ∧ wx = (w.alloc (.cells #[.string r] 9)).drew)
  case first =>
    go_region
    all_goals (go_wp2_with fail; go_meet; exact ⟨rfl, by first | rfl | rw [hr]⟩)
  case rest =>
    obtain ⟨rfl, rfl⟩ := hcut
    clear hr
    have hcr : (((w.alloc (.cells #[.string r] 9)).alloc (.cells twoCells 9)).drew).cell? ⟨w.heap.size, 0, none⟩ = some (.string r) := by
      show ((w.alloc (.cells #[.string r] 9)).alloc (.cells twoCells 9)).cell? _ = _
      rw [World.cell?_alloc_lt _ _ _ (by simp), cell_of_row _ _ _ _ _ _ (heap_alloc_new w _)]
      rfl
    have hct : Hid (∀ k, k < 6 → (((w.alloc (.cells #[.string r] 9)).alloc (.cells twoCells 9)).drew).cell? ⟨w.heap.size + 1, k, none⟩ = some (.string (twoStrs.getD k ByteArray.empty))) := by
      intro j hj
      show ((w.alloc (.cells #[.string r] 9)).alloc (.cells twoCells 9)).cell? _ = _
      have hn := heap_alloc_new (w.alloc (.cells #[.string r] 9)) (.cells twoCells 9)
      rw [show (w.alloc (.cells #[.string r] 9)).heap.size = w.heap.size + 1 by simp] at hn
      rw [cell_of_row _ _ _ _ _ _ hn]
      exact two_at hj
    have HCR := Lib.hid hcr
    clear hcr
    go_wp2_with fail
    refine (tok_twos _).mono ?_
    rintro e w2 ⟨rfl, rfl⟩
    go_wp2_with fail
    refine (tok_ContainsFunc r _ _ _ HCR.out hct).mono ?_
    rintro e w2 ⟨rfl, rfl⟩
    have hbw : Below w.heap.size w ((w.alloc (.cells #[.string r] 9)).alloc (.cells twoCells 9)).drew :=
      (((Below.refl _ _).alloc (Nat.le_refl _) _).alloc (by simp) _).drew
    have HB := Lib.hid hbw
    clear hbw
    rcases hb : anyTwo r.data.toList with _ | _
    · go_wp2_with fail
      refine (tok_ones _ _).mono ?_
      rintro e w2 ⟨i, rfl, hi, rfl⟩
      rcases ho : oneSigns.contains r[0] with _ | _
      all_goals
        rw [ho] at hi
        have e1 : anyTwo (s.data.toList.drop k) = false := by rw [← HRD.out]; exact hb
        have HE1 := Lib.hid e1
        have HO := Lib.hid ho
        clear ho e1
        go_wp2
        go_ret2
        have e2 : oneSigns.contains (s.data.toList.getD k 0) = oneSigns.contains r[0] := by rw [HR1.out]
        have e3 := e2.trans HO.out
        exact ⟨ret2 (by simp only [signV, HE1.out, e3]; rfl) (by simp only [signE, HE1.out, e3]; rfl), HB.out⟩
    · have e1 : anyTwo (s.data.toList.drop k) = true := by rw [← HRD.out]; exact hb
      have HE1 := Lib.hid e1
      clear e1
      go_wp2
      go_ret2
      exact ⟨ret2 (by simp only [signV, HE1.out]; rfl) (by simp only [signE, HE1.out]; rfl), HB.out⟩
end Go.Proofs.YtcbmaclhocdejaaDoor
