/- Contracts of package timer: Due. -/
import Derived.Test.YtkcggnfbmbfciaaTimJ
import Derived.Deep.LoopGhost
namespace Go.Proofs.Ytkcggnfbmbfciaa
open Go.RowKit
theorem ints_ty : SlTy Try.prog 33 3 1 8 := SlTy.mk (z := .int .i64 0) (by kernel_rfl) (by kernel_rfl) rfl (by decide)
/-- What Due leaves. -/
def DueQ (w : World) (g : Nat) (own : Nat → Prop) (S : List (Int × Int)) (now : Int) (e : Ending) (w' : World) : Prop :=
  ∃ A c, e = .returned (.slice A (dueP now S).length c) ∧ w'.ownsRow w.heap.size 3 1 (.slice A (dueP now S).length c) (dueP now S).length (intCells (dueP now S)) ∧ QAt w' g own (leftP now S) ∧ Only own w w'
theorem due_cons {now i t : Int} {T : List (Int × Int)} (h : t ≤ now) : dueP now ((i, t) :: T) = i :: dueP now T ∧ leftP now ((i, t) :: T) = leftP now T := by
  unfold dueP leftP
  rw [List.takeWhile_cons_of_pos (by simpa using h), List.dropWhile_cons_of_pos (by simpa using h)]
  exact ⟨rfl, rfl⟩
theorem due_stop {now i t : Int} {T : List (Int × Int)} (h : now < t) : dueP now ((i, t) :: T) = [] ∧ leftP now ((i, t) :: T) = (i, t) :: T := by
  unfold dueP leftP
  rw [List.takeWhile_cons_of_neg (by simpa using h), List.dropWhile_cons_of_neg (by simpa using h)]
  exact ⟨rfl, rfl⟩
theorem own_only {w w' : World} {base : Nat} {e : TypeId} {size n : Nat} {v : Value} {xs : List Value} {own : Nat → Prop} (h : w.ownsRow base e size v n xs) (ho : Only own w w') (hn : ∀ x, base ≤ x → ¬ own x) : w'.ownsRow base e size v n xs := by
  refine ⟨h.1, ?_⟩
  rcases h.2 with h1 | ⟨b, cap, cur, rfl, hb, hgg, rest⟩
  · exact .inl h1
  · exact .inr ⟨b, cap, cur, rfl, hb, (ho.block b (Array.getElem?_eq_some_iff.1 hgg).1 (hn b hb)).trans hgg, rest⟩
/-- The relation of the loop. -/
structure DueL (w wr : World) (g : Nat) (own : Nat → Prop) (S T : List (Int × Int)) (now : Int) (v : Value) (l : List Int) : Prop where
  q : QAt wr g (fun x => own x ∧ x < w.heap.size) T
  out : wr.ownsRow w.heap.size 3 1 v l.length (intCells l)
  due : l ++ dueP now T = dueP now S
  left : leftP now T = leftP now S
  only : Only (fun x => own x ∧ x < w.heap.size) w wr
  len : T.length + l.length = S.length
  sub : ∀ p ∈ T, p ∈ S
theorem DueL.done {w wr : World} {g : Nat} {own : Nat → Prop} {S T : List (Int × Int)} {now : Int} {A : Option Addr} {c : Nat} {l : List Int} (h : DueL w wr g own S T now (.slice A l.length c) l) (ht : dueP now T = [] ∧ leftP now T = T) : DueQ w g own S now (.returned (.slice A l.length c)) wr := by
  have h1 := h.due
  rw [ht.1, List.append_nil] at h1
  have h2 := h.left
  rw [ht.2] at h2
  refine ⟨A, c, by rw [← h1], ?_, ?_, h.only.mono fun x _ hx => hx.1⟩
  · rw [← h1]; exact h.out
  · rw [← h2]; exact h.q.mono fun x _ hx => hx.1
/-- Behind the append. -/
theorem DueL.app {w wr w4 : World} {g : Nat} {own : Nat → Prop} {S T : List (Int × Int)} {now i : Int} {A : Option Addr} {c : Nat} {l : List Int} {v4 : Value} (h : DueL w wr g own S T now (.slice A l.length c) l)
    (ho : w4.ownsRow w.heap.size 3 1 v4 (l.length + 1) (intCells l ++ [.int .i64 i])) (hg : (wr.alloc (.cells #[.int .i64 i] 3)).grownBy w4 (Value.slice A l.length c).ownBlock) :
    QAt w4 g (fun x => own x ∧ x < w.heap.size) T ∧ Only (fun x => own x ∧ x < w.heap.size) w w4 ∧ w4.ownsRow w.heap.size 3 1 v4 (l ++ [i]).length (intCells (l ++ [i])) := by
  have hs := h.only.size
  have hb : ∀ x, x < w.heap.size → w4.heap[x]? = wr.heap[x]? := by
    intro x hx
    rw [hg.block x (by simp; omega) (fun e => by have := (h.out.lt x e.symm).1; omega), Below.heap_alloc _ _ _ (by omega)]
  refine ⟨h.q.kept fun x hx => hb x hx.2, ⟨hg.os.trans h.only.os, hg.tape.trans h.only.tape, hg.output.trans h.only.output, ?_, fun k hk hn => (hb k hk).trans (h.only.block k hk hn)⟩, ?_⟩
  · have := hg.size
    simp at this
    omega
  · have e1 : (l ++ [i]).length = l.length + 1 := by simp
    have e2 : intCells (l ++ [i]) = intCells l ++ [.int .i64 i] := by simp [intCells]
    rw [e1, e2]; exact ho
theorem DueL.next {w w4 w6 : World} {g : Nat} {own : Nat → Prop} {S T : List (Int × Int)} {now i t : Int} {A A4 : Option Addr} {c c4 : Nat} {l : List Int} {wr : World} (h : DueL w wr g own S ((i, t) :: T) now (.slice A l.length c) l) (ht : t ≤ now)
    (h4 : Only (fun x => own x ∧ x < w.heap.size) w w4 ∧ w4.ownsRow w.heap.size 3 1 (.slice A4 (l.length + 1) c4) (l ++ [i]).length (intCells (l ++ [i]))) (hq : QAt w6 g (fun x => own x ∧ x < w.heap.size) T) (ho : Only (fun x => own x ∧ x < w.heap.size) w4 w6) (n : Nat) :
    DueL w (w6.drewN n) g own S T now (.slice A4 (l ++ [i]).length c4) (l ++ [i]) := by
  obtain ⟨e1, e2⟩ := due_cons (now := now) (i := i) (T := T) ht
  have e3 : (l ++ [i]).length = l.length + 1 := by simp
  refine ⟨hq.drewN n, ?_, ?_, ?_, (h4.1.trans ho).drewN n, ?_, ?_⟩
  · rw [e3]
    rw [e3] at h4
    exact own_only h4.2 (ho.drewN n) (fun x hx hn => by omega)
  · rw [← h.due, e1]; simp
  · rw [← h.left, e2]
  · have := h.len
    simp at this ⊢
    omega
  · exact fun p hp => h.sub p (by simp [hp])
set_option maxRecDepth 100000 in
set_option maxHeartbeats 2000000 in
theorem tim_Due (g : Nat) (own : Nat → Prop) (S : List (Int × Int)) (now : Int) (w : World) (H : Hid (QAt w g own S)) (hn : S.length < 8192) (hi : Hid (∀ p ∈ S, I64 p.1)) :
    Calls Try.prog 14 #[.pointer (some ⟨g, 0, none⟩), .int .i64 now] w (DueQ w g own S now) := by
  have glt := H.out.lt
  have cN := fun W T (h : QAt W g (fun x => own x ∧ x < w.heap.size) T) => Lib.hid (tim_Next g _ T W (Lib.hid h))
  have HQ0 : Hid (QAt w g (fun x => own x ∧ x < w.heap.size) S) := H.out.mono fun x hx ho => ⟨ho, hx⟩
  obtain ⟨n0, hn0⟩ : ∃ n, n = S.length := ⟨_, rfl⟩
  have HN0 := Lib.hid hn0
  rw [← hn0] at hn
  clear hn0
  go_enter Try.func14, Try.ntmps14
  go_wp2_with fail
  refine (cN w S HQ0.out).out.mono ?_
  rintro e w1 ⟨rfl, q1, rfl⟩
  go_wp2_with fail
  go_loopg [5, 6, 7, 8] n0 (fun n v5 v6 v7 v8 wr => ∃ T l A c, n = T.length ∧ v5 = .slice A l.length c ∧ v6 = .int .i64 ((T.head?.map (·.1)).getD 0) ∧ v7 = .int .i64 ((T.head?.map (·.2)).getD 0) ∧ v8 = .bool (!T.isEmpty) ∧ Hid (DueL w wr g own S T now (.slice A l.length c) l))
  case atStart => exact ⟨S, [], none, 0, HN0.out, rfl, rfl, rfl, rfl, HQ0.out.drewN q1, World.ownsRow_nil _ _ _ _, rfl, rfl, (Only.refl _ _).drewN _, by simp, fun _ h => h⟩
  case round =>
    obtain ⟨T, l, A, c, rfl, rfl, rfl, rfl, rfl, hD⟩ := hrel
    cases T with
    | nil =>
      go_wp2
      go_ret
      exact hD.out.done ⟨rfl, rfl⟩
    | cons p T' =>
      obtain ⟨i, t⟩ := p
      by_cases ht : t ≤ now
      · have hlen := hD.out.len
        rw [← HN0.out] at hlen
        simp only [List.length_cons] at hlen
        have hln : l.length < 8192 := by omega
        have hTl : T'.length < 8191 := by omega
        have hsrt : SrtP ((i, t) :: T') := by
          obtain ⟨_, _, _, _, _, _, h3, _⟩ := hD.out.q
          exact h3.2
        have hwi : Hid (I64 i) := hi.out (i, t) (hD.out.sub _ (by simp))
        obtain ⟨ln, hlnn⟩ : ∃ ln, ln = l.length := ⟨_, rfl⟩
        have hout := hD.out.out
        rw [← hlnn] at hln hout
        have hcl := own_form hout
        have hcc : ln ≤ c := by
          obtain ⟨_, _, e1, h1, _⟩ := hcl
          injection e1 with _ _ e1
          omega
        have hsz := hD.out.only.size
        have HOUT := Lib.hid hout
        have HLN := Lib.hid hlnn
        have HS := Lib.hid hsrt
        have hone := Lib.hid (show ∀ u ∈ [Value.int .i64 i], u.oneCell' = true by
          intro u hu
          simp only [List.mem_cons, List.not_mem_nil, or_false] at hu
          rw [hu]; rfl)
        have HAP := fun v4 w4 (a : World.ownsRow w4 w.heap.size 3 1 v4 (l.length + 1) (intCells l ++ [.int .i64 i])) b => Lib.hid (hD.out.app (w4 := w4) (v4 := v4) (i := i) a b)
        rw [← hlnn] at HAP
        rw [← hlnn]
        clear hout hlnn hsrt hcl hlen
        go_wp2_with (at_builtin; refine wpList_append_sl ints_ty rfl (.tmp 27) (.tmp 29) rfl w.heap.size rfl (by exact HOUT.out.alloc _) rfl (by exact Sl.new _ _ [Value.int .i64 i] 1 1 rfl (by omega)) hone.out (by omega) (by omega) (by simp; omega) ?_; intro v4 w4 hown4 hg4 hat4; obtain ⟨A4, c4, rfl, _, _⟩ := own_form hown4; have HP := HAP _ w4 hown4 hg4; clear hown4 hg4 hat4)
        have HP1 := Lib.hid HP.out.1
        have HP2 := Lib.hid HP.out.2
        clear HP HAP
        obtain ⟨m, A', c', hs, D, h1, hl, h2, h3, h4, h5, h6, h7⟩ := HP1.out.open_
        have h0 : 0 < hs.length := by rw [hl]; simp
        obtain ⟨_, hS⟩ := h3.head h2 h0
        injection hS with hS hS2
        clear hS2
        have hid : Hid ((gE hs 0).id = i) := by
          have : (i, t).1 = (pr (gE hs 0)).1 := by rw [hS]
          exact this.symm
        have hR := Lib.hid (tim_hPop g (.map (some m)) _ hs w4 (Lib.hid h1) (Lib.hid h0) (by rw [hl]; simp only [List.length_cons]; omega) (Lib.hid h2))
        have H1 := Lib.hid h1
        have H3 := Lib.hid h3
        have H4 := Lib.hid h4
        have H5 := Lib.hid h5
        have H6 := Lib.hid h6
        have H7 := Lib.hid h7
        clear h1 h2 h3 h4 h5 h6 h7 hS hl h0
        refine hR.out.mono ?_
        rintro r w5 ⟨v, sl', hs', rfl, hT⟩
        have HT : Hid (TookW g (.map (some m)) _ hs (gE hs 0) w4 w5) := ⟨sl', hs', hT⟩
        have q1c : w5.cell? ⟨g, 1, none⟩ = some (.map (some m)) := hT.1.c1
        have hoc : w5.ownsMap Try.prog 3 ptrElem m hs.length D := ownsMap_same H4.out (hT.2.2.2.1.block m H4.out.lt (map_apart H1.out H4.out))
        have HC := Lib.hid hoc
        clear hoc hT hR
        go_wp2_with (at_delete; refine wpList_delete_own _ rfl _ _ 50 3 rfl 55 keyI Try.underlying50 ptrElem m hs.length D rfl HC.out _ _ rfl (keyOfI hwi.out) ?_; intro w6 hown6 hturn6; have HO6 := Lib.hid hown6; have HT6 := Lib.hid hturn6; clear hown6 hturn6)
        have hq := took_q H3.out H5.out H6.out H7.out HT.out HC.out (by rw [hid.out]; exact HO6.out) HT6.out
        rw [hid.out, show delP i ((i, t) :: T') = T' from delP_head (x := (i, t)) HS.out] at hq
        have HQ6 := Lib.hid hq
        clear hq q1c
        go_wp2_with fail
        refine (cN w6 T' HQ6.out.1).out.mono ?_
        rintro e w7 ⟨rfl, q2, rfl⟩
        have HD7 := Lib.hid (hD.out.next (A4 := A4) (c4 := c4) ht (by rw [← HLN.out]; exact HP2.out) HQ6.out.1 HQ6.out.2.2 q2)
        have HL7 : Hid ((l ++ [i]).length = ln + 1) := by
          show _ = _
          rw [HLN.out]; simp
        go_wp2_with fail
        go_roundg T'.length
        case measure => simp only [List.length_cons]; omega
        case rel =>
          exact ⟨T', l ++ [i], A4, c4, rfl, by rw [HL7.out], rfl, rfl, rfl, HD7⟩
      · have ht2 : now < t := by omega
        have ht3 : decide (t ≤ now) = false := by simpa using ht
        clear ht
        go_wp2
        go_ret
        exact hD.out.done (due_stop ht2)
end Go.Proofs.Ytkcggnfbmbfciaa
