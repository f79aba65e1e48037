/- The document's queue of layer 14: Due. -/
import Derived.Test.YtkcggnfbmbfciaaTimRc
import Derived.Deep.LoopGhost
namespace Go.Proofs.Ytkcggnfbmbfciaa
open Go.RowKit
/-- The relation of Due's loop. -/
structure DueR (w wr : World) (y base : Nat) (A : Option Addr) (c : Nat) (S : List (Int × Int)) (now : Int) (A1 : Option Addr) (c1 : Nat) (T : List (Int × Int)) (v : Value) (l : List Int) : Prop where
  q : RQ wr y base A1 c1 T
  frs : ∀ k, (Value.slice A1 T.length c1).ownBlock = some k → (Value.slice A S.length c).ownBlock = some k ∨ w.heap.size ≤ k
  out : wr.ownsRow w.heap.size 3 1 v l.length (intCells l)
  apt : ∀ k, v.ownBlock = some k → (Value.slice A1 T.length c1).ownBlock ≠ some k
  due : l ++ dueP now T = dueP now S
  left : leftP now T = leftP now S
  only : Only (fun k => k = y) w wr
  len : T.length + l.length = S.length
/-- What Due leaves. -/
def DueRQ (w : World) (y base : Nat) (A : Option Addr) (c : Nat) (S : List (Int × Int)) (now : Int) (e : Ending) (w' : World) : Prop :=
  ∃ B d A' c', e = .returned (.slice B (dueP now S).length d) ∧ w'.ownsRow w.heap.size 3 1 (.slice B (dueP now S).length d) (dueP now S).length (intCells (dueP now S)) ∧ RQ w' y base A' c' (leftP now S) ∧
    (∀ k, (Value.slice A' (leftP now S).length c').ownBlock = some k → (Value.slice A S.length c).ownBlock = some k ∨ w.heap.size ≤ k) ∧ (∀ k, (Value.slice B (dueP now S).length d).ownBlock = some k → (Value.slice A' (leftP now S).length c').ownBlock ≠ some k) ∧ Only (fun k => k = y) w w'
theorem DueR.done {w wr : World} {y base c c1 d : Nat} {A A1 B : Option Addr} {S T : List (Int × Int)} {now : Int} {l : List Int} (h : DueR w wr y base A c S now A1 c1 T (.slice B l.length d) l) (ht : dueP now T = [] ∧ leftP now T = T) :
    DueRQ w y base A c S now (.returned (.slice B l.length d)) wr := by
  have h1 := h.due
  rw [ht.1, List.append_nil] at h1
  have h2 := h.left
  rw [ht.2] at h2
  refine ⟨B, d, A1, c1, by rw [← h1], ?_, ?_, ?_, ?_, h.only⟩
  · rw [← h1]; exact h.out
  · rw [← h2]; exact h.q
  · rw [← h2]; exact h.frs
  · rw [← h2, ← h1]; exact h.apt
theorem DueR.app {w wr w4 : World} {y base c c1 : Nat} {A A1 : Option Addr} {S T : List (Int × Int)} {now i : Int} {v v4 : Value} {l : List Int} (h : DueR w wr y base A c S now A1 c1 T v l) (hy : y < w.heap.size)
    (hg : (wr.alloc (.cells #[.int .i64 i] 3)).grownBy w4 v.ownBlock) (hloc : v4.ownBlock = v.ownBlock ∨ v4.ownBlock = some (wr.heap.size + 1)) :
    RQ w4 y base A1 c1 T ∧ Only (fun k => k = y) w w4 ∧ ∀ k, v4.ownBlock = some k → (Value.slice A1 T.length c1).ownBlock ≠ some k := by
  have hs := h.only.size
  have hgs := hg.size
  simp at hgs
  refine ⟨⟨?_, ?_, h.q.ne⟩, ⟨hg.os.trans h.only.os, hg.tape.trans h.only.tape, hg.output.trans h.only.output, by omega, fun k hk hn => ?_⟩, fun k hk => ?_⟩
  · rw [hg.block y (by simp; omega) (fun e => by have := (h.out.lt y e.symm).1; omega), Below.heap_alloc _ _ _ (by omega)]
    exact h.q.q
  · refine (h.q.row.alloc _).kept hg ?_
    rcases hv : (Value.slice A1 T.length c1).ownBlock with _ | k
    · exact .inl rfl
    · exact .inr fun e => h.apt k e.symm hv
  · rw [hg.block k (by simp; omega) (fun e => by have := (h.out.lt k e.symm).1; omega), Below.heap_alloc _ _ _ (by omega)]
    exact h.only.block k hk hn
  · rcases hloc with e | e
    · exact h.apt k (e ▸ hk)
    · rw [e] at hk
      injection hk with hk
      intro e2
      have := (h.q.row.lt k e2).2
      omega
theorem DueR.next {w wr w4 w6 : World} {y base c c1 c6 : Nat} {A A1 A6 : Option Addr} {S T : List (Int × Int)} {now i t : Int} {v v4 : Value} {l : List Int} (h : DueR w wr y base A c S now A1 c1 ((i, t) :: T) v l) (ht : t ≤ now) (hy : y < w.heap.size)
    (ho4 : Only (fun k => k = y) w w4) (hown : w4.ownsRow w.heap.size 3 1 v4 (l.length + 1) (intCells l ++ [.int .i64 i])) (hq : RQ w6 y base A6 c6 T) (ho6 : Only (fun k => k = y) w4 w6) (hf : ∀ k, (Value.slice A6 T.length c6).ownBlock = some k → w4.heap.size ≤ k) :
    DueR w w6 y base A c S now A6 c6 T v4 (l ++ [i]) := by
  obtain ⟨e1, e2⟩ := due_cons (now := now) (i := i) (T := T) ht
  have e3 : (l ++ [i]).length = l.length + 1 := by simp
  have e4 : intCells (l ++ [i]) = intCells l ++ [.int .i64 i] := by simp [intCells]
  have h4 := ho4.size
  refine ⟨hq, fun k hk => .inr (by have := hf k hk; omega), ?_, fun k hk e => ?_, ?_, ?_, ho4.trans (ho6.mono fun _ _ h => h), ?_⟩
  · rw [e3, e4]
    exact own_only hown ho6 (fun x hx hn => by omega)
  · have h1 := hf k e
    have h2 := (hown.lt k hk).2
    omega
  · rw [← h.due, e1]; simp
  · rw [← h.left, e2]
  · have := h.len
    simp at this ⊢
    omega
theorem RQ.rest {w : World} {y base c n : Nat} {A : Option Addr} {p : Int × Int} {T : List (Int × Int)} (h : RQ w y base A c (p :: T)) (hn : n = T.length) : Sl w (.slice (dropA A c 1) n (c - 1)) n 2 (pairCells T) := by
  have h1 := (Sl.of_own h.row).drop_ (k := 1) (by simp)
  rw [List.drop_succ_cons, List.drop_zero, List.length_cons, Nat.add_sub_cancel, ← hn] at h1
  exact h1
set_option maxRecDepth 100000 in
set_option maxHeartbeats 2000000 in
theorem ref_Due (y base c : Nat) (A : Option Addr) (S : List (Int × Int)) (now : Int) (w : World) (H : Hid (RQ w y base A c S)) (hn : S.length < 8192) (hbase : base ≤ w.heap.size) :
    Calls Try.prog 22 #[.pointer (some ⟨y, 0, none⟩), .int .i64 now] w (DueRQ w y base A c S now) := by
  have hy := Lib.hid H.out.lt
  obtain ⟨n0, hn0⟩ : ∃ n, n = S.length := ⟨_, rfl⟩
  have HN0 := Lib.hid hn0
  rw [← hn0] at hn
  clear hn0
  go_enter Try.func22, Try.ntmps22
  go_wp2_with fail
  go_loopg [5] n0 (fun n v5 wr => ∃ T l B d A1 c1, n = T.length ∧ v5 = .slice B l.length d ∧ Hid (DueR w wr y base A c S now A1 c1 T (.slice B l.length d) l))
  case atStart => exact ⟨S, [], none, 0, A, c, HN0.out, rfl, H.out, fun k hk => .inl hk, World.ownsRow_nil _ _ _ _, (fun k hk => by cases hk), rfl, rfl, Only.refl _ _, by simp⟩
  case round =>
    obtain ⟨T, l, B, d, A1, c1, rfl, rfl, hD⟩ := hrel
    cases T with
    | nil =>
      have q0 := hD.out.q.cell
      go_wp2
      go_ret
      exact hD.out.done ⟨rfl, rfl⟩
    | cons p T' =>
      obtain ⟨i, t⟩ := p
      have q0 := hD.out.q.cell
      have f0 := hD.out.q.fro
      have hS := Sl.of_own hD.out.q.row
      have hlen := hD.out.len
      rw [← HN0.out] at hlen
      simp only [List.length_cons] at hlen q0 hS
      obtain ⟨n, hnn⟩ : ∃ n, n = T'.length := ⟨_, rfl⟩
      have HN := Lib.hid hnn
      rw [← hnn] at hlen q0 hS
      obtain ⟨b, off, rfl, c0, c2⟩ := hS.pair_at (k := 0) (by omega)
      simp only [Nat.zero_mul, Nat.add_zero, List.getD_cons_zero] at c0 c2
      obtain ⟨D, hD1, hD2⟩ : ∃ D, (if c1 = 1 then some ⟨b, off, none⟩ else some ⟨b, off + 2, none⟩) = D ∧ dropA (some ⟨b, off, none⟩) c1 1 = D := ⟨_, rfl, by unfold dropA; simp [Go.WideShapes.add_plain]⟩
      have HD2 := Lib.hid hD2
      have hnc : n + 1 ≤ c1 := by
        obtain ⟨_, _, e, h1, h2, _⟩ := hS
        injection e with _ _ e
        omega
      have d0 : (0 : Int) < (n : Int) + 1 := by omega
      clear hnn hS hD2
      by_cases ht : t ≤ now
      · have hcl := own_form hD.out.out
        obtain ⟨ln, hlnn⟩ : ∃ ln, ln = l.length := ⟨_, rfl⟩
        have hout := hD.out.out
        rw [← hlnn] at hout hcl hlen
        have hcc : ln ≤ d := by
          obtain ⟨_, _, e1, h1, _⟩ := hcl
          injection e1 with _ _ e1
          omega
        have hsz := hD.out.only.size
        have HOUT := Lib.hid hout
        have HLN := Lib.hid hlnn
        have hone := Lib.hid (show ∀ u ∈ [Value.int .i64 i], u.oneCell' = true by
          intro u hu
          simp only [List.mem_cons, List.not_mem_nil, or_false] at hu
          rw [hu]; rfl)
        have HAP := fun v4 w4 => Lib.hid (hD.out.app (w4 := w4) (v4 := v4) (i := i) hy.out)
        rw [← hlnn] at HAP
        rw [← hlnn]
        clear hout hlnn hcl
        go_wp2_with (first
          | (at_builtin; refine wpList_append_sl ints_ty rfl (.tmp 23) (.tmp 31) rfl w.heap.size rfl (by exact HOUT.out.alloc _) rfl (by exact Sl.new _ _ [Value.int .i64 i] 1 1 rfl (by omega)) hone.out (by omega) (by omega) (by simp; omega) ?_; intro v4 w4 hown4 hg4 hat4; obtain ⟨A4, c4, rfl, _, _⟩ := own_form hown4; have HP := Lib.hid ((HAP _ w4).out hg4 (by rcases hat4 with h | h; exact .inl h; right; rw [h]; simp)); have HO4 := Lib.hid hown4; have q4 := HP.out.1.cell; have f4 := HP.out.1.fro; have hy4 := HP.out.1.lt; rw [List.length_cons, ← HN.out] at q4; have T4 := Lib.hid (HP.out.1.rest HN.out); rw [HD2.out] at T4; have hs4 := HP.out.2.1.size; clear hat4 hg4 hown4 HAP q0 f0 c0 c2)
          | (at_builtin; refine wpList_append_sl rpairs_ty rfl (.tmp 34) (.tmp 39) rfl w4.heap.size rfl (by exact own_fresh _ _ _ _ rfl (Nat.le_refl _)) rfl (by exact T4.out.below ((Below.refl _ w4).alloc (Nat.le_refl _) _)) (pair_one _) (by omega) (by omega) (by simp) ?_; intro v6 w6 hown6 hg6 hat6; have hb6 : Below w4.heap.size w4 w6 := ((Below.refl _ w4).alloc (Nat.le_refl _) _).grown hg6 (by simp) (fun q hq => by cases hq; exact Nat.le_refl _); obtain ⟨A6, c6, rfl, _, _⟩ := own_form hown6; have HB6 := Lib.hid hb6; have q6 := cell_kept hb6 q4; have f6 : w6.frozen? ⟨y, 0, none⟩ = false := (hb6.frozen HP.out.1.lt).trans f4; have HO6 := Lib.hid hown6; clear hown6 hg6 hat6 hb6))
        have ho6 := HO6.out
        rw [List.nil_append, Nat.zero_add] at ho6
        obtain ⟨A7, c7, r1, r2, r3⟩ := rq_store HP.out.1 HB6.out (Nat.le_trans hbase hs4) HN.out ho6
        have HD7 := Lib.hid (hD.out.next ht hy.out HP.out.2.1 (by rw [← HLN.out]; exact HO4.out) r1 r2 r3)
        clear ho6 r1 r2 r3
        have HL7 : Hid ((l ++ [i]).length = ln + 1) := by
          show _ = _
          rw [HLN.out]; simp
        go_roundg T'.length
        case measure => simp only [List.length_cons]; omega
        case rel => exact ⟨T', l ++ [i], A4, c4, A7, c7, rfl, by rw [HL7.out], by rw [HL7.out]; exact HD7⟩
      · have ht2 : now < t := by omega
        have ht3 : decide (t ≤ now) = false := by simpa using ht
        clear ht
        go_wp2
        go_ret
        exact hD.out.done (due_stop ht2)
end Go.Proofs.Ytkcggnfbmbfciaa
