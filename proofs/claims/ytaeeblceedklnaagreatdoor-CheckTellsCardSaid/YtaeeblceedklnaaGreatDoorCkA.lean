/- Package check: free, among, first. Printed by gen_ckA.py. -/
import Derived.Test.YtaeeblceedklnaaGreatDoorCkP
import Derived.Deep.RegionHeld3
import Derived.Laws.EntriesVeiled
import Derived.Shelf.Abstract
namespace Go.Proofs.YtaeeblceedklnaaGreatDoor
open Go.RowKit
set_option maxHeartbeats 1000000 in
theorem ck_free (s : ByteArray) (w : World) (ht : Hid (TabOk w)) : Calls Tryz.prog 40 #[.string s] w fun e w' => e = .returned (.bool (freeB s)) ∧ Below w.heap.size w w' := by
  have hx := Lib.hid (show freeB s = (nameOk s.data.toList && !isWord s) from rfl)
  obtain ⟨x, hx1⟩ : ∃ x, x = nameOk s.data.toList := ⟨_, rfl⟩
  have cN := fun W => Lib.hid (col_Name' s W)
  rw [← hx1] at hx cN
  clear hx1
  obtain ⟨y, hy1⟩ : ∃ y, y = isWord s := ⟨_, rfl⟩
  have cW := Lib.hid (tok_Word s w ht)
  rw [← hy1] at hx cW
  clear hy1
  cases x
  · go_enter Tryz.func40, Tryz.ntmps40
    go_wp2_with (go_at_call 18; refine (cN _).out.mono ?_; rintro e w2 ⟨rfl, rfl⟩)
    go_ret
    exact ⟨by rw [hx.out]; rfl, Below.refl _ _⟩
  · go_enter Tryz.func40, Tryz.ntmps40
    go_wp2_with (first
      | (go_at_call 18; refine (cN _).out.mono ?_; rintro e w2 ⟨rfl, rfl⟩)
      | (go_at_call 19; refine cW.out.mono ?_; rintro e w3 ⟨rfl, hb⟩; have HB := Lib.hid hb; clear hb))
    go_ret
    exact ⟨by rw [hx.out]; rfl, HB.out⟩
theorem ck_among_pl (A : Option Addr) (n c : Nat) (k : Int) (w : World) (_hn : n ≤ 9223372036854775807) : Calls Tryz.prog 29 #[.slice A n c, .int .i64 k] w fun e w' => e = .returned (.bool (amongB n k)) ∧ w = w' := by
  unfold amongB
  by_cases h0 : 0 ≤ k
  · have d0 := decide_eq_true h0
    by_cases h1 : k < (n : Int)
    all_goals
      go_enter Tryz.func29, Tryz.ntmps29
      go_wp2
      go_ret
      exact ⟨ret1b (by simp [h0, h1]), rfl⟩
  · have d0 := decide_eq_false h0
    go_enter Tryz.func29, Tryz.ntmps29
    go_wp2
    go_ret
    exact ⟨rfl, rfl⟩
theorem ck_among_col (A : Option Addr) (n c : Nat) (k : Int) (w : World) (_hn : n ≤ 9223372036854775807) : Calls Tryz.prog 44 #[.slice A n c, .int .i64 k] w fun e w' => e = .returned (.bool (amongB n k)) ∧ w = w' := by
  unfold amongB
  by_cases h0 : 0 ≤ k
  · have d0 := decide_eq_true h0
    by_cases h1 : k < (n : Int)
    all_goals
      go_enter Tryz.func44, Tryz.ntmps44
      go_wp2
      go_ret
      exact ⟨ret1b (by simp [h0, h1]), rfl⟩
  · have d0 := decide_eq_false h0
    go_enter Tryz.func44, Tryz.ntmps44
    go_wp2
    go_ret
    exact ⟨rfl, rfl⟩
theorem ck_among_tk (A : Option Addr) (n c : Nat) (k : Int) (w : World) (_hn : n ≤ 9223372036854775807) : Calls Tryz.prog 55 #[.slice A n c, .int .i64 k] w fun e w' => e = .returned (.bool (amongB n k)) ∧ w = w' := by
  unfold amongB
  by_cases h0 : 0 ≤ k
  · have d0 := decide_eq_true h0
    by_cases h1 : k < (n : Int)
    all_goals
      go_enter Tryz.func55, Tryz.ntmps55
      go_wp2
      go_ret
      exact ⟨ret1b (by simp [h0, h1]), rfl⟩
  · have d0 := decide_eq_false h0
    go_enter Tryz.func55, Tryz.ntmps55
    go_wp2
    go_ret
    exact ⟨rfl, rfl⟩
/-- A question: whom to ask, with what, the error, the answer. -/
structure Qn where
  f : FuncId
  caps : Array Value
  err : Int
  ans : Bool
instance : Inhabited Qn := ⟨⟨0, #[], 0, true⟩⟩
/-- The blocks from one on are as they were. -/
def KeptFrom (base : Nat) (W w' : World) : Prop := ∀ b, base ≤ b → b < W.heap.size → w'.heap[b]? = W.heap[b]?
theorem kept_of {base : Nat} {W w' : World} (h : Below W.heap.size W w') : KeptFrom base W w' := fun b _ hlt => h.block b hlt
/-- The questions from the i-th on can be asked. -/
def Asks (I : Nat → World → Prop) (base g : Nat) : Nat → List Qn → Prop
  | _, [] => True
  | i, q :: r => Enters Tryz.prog q.f ∧ (∀ W, I i W → W.cell? ⟨g, i * 2, none⟩ = some (.func (.func q.f) #[] q.caps) ∧ W.cell? ⟨g, i * 2 + 1, none⟩ = some (.int .i64 q.err)) ∧
      (∀ W, I i W → Calls Tryz.prog q.f q.caps W fun e w' => e = .returned (.bool q.ans) ∧ I (i + 1) w' ∧ KeptFrom base W w') ∧ Asks I base g (i + 1) r
/-- How far it is asked. -/
def stopQ : Nat → List Qn → Nat
  | i, [] => i
  | i, q :: r => if q.ans then stopQ (i + 1) r else i + 1
def firstQ : List Qn → Int
  | [] => 0
  | q :: r => if q.ans then firstQ r else q.err
set_option maxRecDepth 100000 in
set_option maxHeartbeats 2000000 in
theorem ck_first (I : Nat → World → Prop) (base g n c : Nat) (L : List Qn) (w : World) (hL : L.length = n) (hn : n ≤ 1000) (hI : Hid (I 0 w)) (hA : Hid (Asks I base g 0 L)) (hsz : Hid (∀ i W, I i W → base ≤ W.heap.size)) (hal : Hid (∀ i W o, I i W → I i (W.alloc o))) :
    Calls Tryz.prog 26 #[.slice (some ⟨g, 0, none⟩) n c] w fun e w' => e = .returned (.int .i64 (firstQ L)) ∧ I (stopQ 0 L) w' := by
  have HL := Lib.hid hL
  clear hL
  obtain ⟨R, hR⟩ : ∃ R, R = firstQ L := ⟨_, rfl⟩
  obtain ⟨S, hS⟩ : ∃ S, S = stopQ 0 L := ⟨_, rfl⟩
  rw [← hR, ← hS]
  have HR := Lib.hid hR.symm
  have HS := Lib.hid hS.symm
  clear hR hS
  go_enter Tryz.func26, Tryz.ntmps26
  go_wp2
  go_loopw [7] (fun v7 wr => ∃ (k : Nat) (r : List Qn), Hid (k + r.length = n) ∧ v7 = .int .i64 (k : Int) ∧ Hid (Asks I base g k r) ∧ Hid (I k wr) ∧ Hid (firstQ r = R) ∧ Hid (stopQ k r = S)) (fun v7 _ => n - (intOf v7).toNat)
  case atStart => exact ⟨0, L, Lib.hid (by rw [HL.out]; omega), rfl, hA, hI, HR, HS⟩
  case round =>
    obtain ⟨k, r, hk, rfl, hK, hIk, hr, hs⟩ := hrel
    cases r with
    | nil =>
      have hkn : n = k := by have := hk.out; simp at this; omega
      have h1 := hr.out
      have h2 := hs.out
      rw [firstQ] at h1
      rw [stopQ] at h2
      subst h1
      subst h2
      subst hkn
      go_wp2
      go_ret
      exact ⟨rfl, hIk.out⟩
    | cons q r =>
      have hlt : k < n := by have := hk.out; simp at this; omega
      have hk2 := Lib.hid (show k + 1 + r.length = n by have := hk.out; simp at this; omega)
      obtain ⟨hent, hc, hq, hrest⟩ := hK.out
      obtain ⟨c0, c1⟩ := hc _ hIk.out
      obtain ⟨F, C, E, ans⟩ := q
      simp only at c0 c1 hent
      have eF : ∀ args w, (callFunc F args).run Tryz.prog w = .ok (.enter F args) w := hent
      have HREST := Lib.hid hrest
      have CQ := Lib.hid (hq _ (hal.out _ _ (.cells #[.func (.func F) #[] C, .int .i64 E] 68) hIk.out))
      have QQ := Lib.hid (show ∀ W', KeptFrom base (wr.alloc (.cells #[.func (.func F) #[] C, .int .i64 E] 68)) W' → W'.cell? ⟨wr.heap.size, 1, none⟩ = some (.int .i64 E) from fun W' h => by
        have h1 := h wr.heap.size (hsz.out _ _ hIk.out) (by rw [World.size_alloc]; omega)
        rw [World.cell?_of_block (a := ⟨wr.heap.size, 1, none⟩) h1]
        exact cell_new wr _ _ 1 _ rfl)
      have hlt2 : (k : Int) < (n : Int) := by omega
      have hk0 : (0 : Int) ≤ (k : Int) := by omega
      clear hc hq hrest hK hk hent
      have h1 := hr.out
      have h2 := hs.out
      rw [firstQ] at h1
      rw [stopQ] at h2
      have H1 := Lib.hid h1
      have H2 := Lib.hid h2
      clear h1 h2 hr hs
      cases ans with
      | false =>
        go_wp2_with (go_at_fn F; refine CQ.out.mono ?_; rintro e w5 ⟨rfl, hI5, hK5⟩; have HI5 := Lib.hid hI5; have q1 := QQ.out _ hK5; clear hI5 hK5)
        go_ret
        exact ⟨ret1 H1.out, (show k + 1 = S from H2.out) ▸ HI5.out⟩
      | true =>
        go_wp2_with (go_at_fn F; refine CQ.out.mono ?_; rintro e w5 ⟨rfl, hI5, hK5⟩; have HI5 := Lib.hid hI5; have q1 := QQ.out _ hK5; clear hI5 hK5)
        go_roundw
        case rel => exact ⟨k + 1, r, hk2, by go_num, HREST, HI5, Lib.hid H1.out, Lib.hid H2.out⟩
        case measure => simp [intOf]; omega
end Go.Proofs.YtaeeblceedklnaaGreatDoor
