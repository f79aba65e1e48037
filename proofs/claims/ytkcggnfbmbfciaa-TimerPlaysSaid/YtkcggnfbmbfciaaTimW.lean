/- The law TimerOrder: two queues side by side. -/
import Derived.Test.YtkcggnfbmbfciaaTimN
import Derived.Test.YtkcggnfbmbfciaaTimU
namespace Go.Proofs.Ytkcggnfbmbfciaa
open Go.RowKit
theorem QAt.other {w w' : World} {g : Nat} {own o : Nat → Prop} {S : List (Int × Int)} (h : QAt w g own S) (hlt : ∀ k, own k → k < w.heap.size) (ho : Only o w w') (hd : ∀ k, own k → ¬ o k) : QAt w' g own S :=
  h.kept fun x hx => ho.block x (hlt x hx) (hd x hx)
theorem own_off {w w' : World} {base : Nat} {e : TypeId} {size n : Nat} {v : Value} {xs : List Value} {o : Nat → Prop} (h : w.ownsRow base e size v n xs) (ho : Only o w w') (hn : ∀ x, v.ownBlock = some x → ¬ o x) : w'.ownsRow base e size v n xs := by
  refine ⟨h.1, ?_⟩
  rcases h.2 with h1 | ⟨b, cap, cur, rfl, hb, hgg, rest⟩
  · exact .inl h1
  · exact .inr ⟨b, cap, cur, rfl, hb, (ho.block b (Array.getElem?_eq_some_iff.1 hgg).1 (hn b rfl)).trans hgg, rest⟩
/-- Two queues and a row of pairs, each in blocks of its own. -/
structure Two (w0 wr : World) (x y : Nat) (ox oy : Nat → Prop) (Sx Sy : List (Int × Int)) (v : Value) (l : List (Int × Int)) : Prop where
  qx : QAt wr x ox Sx
  qy : QAt wr y oy Sy
  lx : ∀ k, ox k → w0.heap.size ≤ k ∧ k < wr.heap.size
  ly : ∀ k, oy k → w0.heap.size ≤ k ∧ k < wr.heap.size
  dis : ∀ k, ox k → ¬ oy k
  row : wr.ownsRow w0.heap.size 28 2 v l.length (pairCells l)
  rx : ∀ k, v.ownBlock = some k → ¬ ox k ∧ ¬ oy k
  bel : Below w0.heap.size w0 wr
theorem Two.addx {w0 wr w' : World} {x y : Nat} {ox oy : Nat → Prop} {Sx Sx' Sy : List (Int × Int)} {v : Value} {l : List (Int × Int)} (h : Two w0 wr x y ox oy Sx Sy v l) (hq : QAt w' x (fun k => ox k ∨ wr.heap.size ≤ k) Sx') (ho : Only ox wr w') :
    Two w0 w' x y (fun k => (ox k ∨ wr.heap.size ≤ k) ∧ k < w'.heap.size) oy Sx' Sy v l := by
  have hs := h.bel.size
  have hw := ho.size
  refine ⟨hq.mono fun k hk ho => ⟨ho, hk⟩, h.qy.other (fun k hk => (h.ly k hk).2) ho (fun k hk hx => h.dis k hx hk), fun k hk => ?_, fun k hk => ?_, fun k hk hy => ?_, own_off h.row ho (fun k hk => (h.rx k hk).1), fun k hk => ?_, h.bel.trans (ho.below (fun k hk hx => by have := (h.lx k hx).1; omega) hs)⟩
  · rcases hk with ⟨hk | hk, h2⟩
    · have := h.lx k hk; exact ⟨this.1, h2⟩
    · exact ⟨by omega, h2⟩
  · have := h.ly k hk; exact ⟨this.1, by omega⟩
  · rcases hk with ⟨hk | hk, _⟩
    · exact h.dis k hk hy
    · have := h.ly k hy; omega
  · have h1 := h.rx k hk
    have h2 := (h.row.lt k hk).2
    refine ⟨?_, h1.2⟩
    rintro ⟨hx | hx, _⟩
    · exact h1.1 hx
    · omega
theorem Two.swap {w0 wr : World} {x y : Nat} {ox oy : Nat → Prop} {Sx Sy : List (Int × Int)} {v : Value} {l : List (Int × Int)} (h : Two w0 wr x y ox oy Sx Sy v l) : Two w0 wr y x oy ox Sy Sx v l :=
  ⟨h.qy, h.qx, h.ly, h.lx, fun k hk hx => h.dis k hx hk, h.row, fun k hk => ⟨(h.rx k hk).2, (h.rx k hk).1⟩, h.bel⟩
theorem Two.turnx {w0 wr w' : World} {x y : Nat} {ox oy : Nat → Prop} {Sx Sx' Sy : List (Int × Int)} {v : Value} {l : List (Int × Int)} (h : Two w0 wr x y ox oy Sx Sy v l) (hq : QAt w' x ox Sx') (ho : Only ox wr w') : Two w0 w' x y ox oy Sx' Sy v l := by
  have hw := ho.size
  exact ⟨hq, h.qy.other (fun k hk => (h.ly k hk).2) ho (fun k hk hx => h.dis k hx hk), fun k hk => ⟨(h.lx k hk).1, by have := (h.lx k hk).2; omega⟩, fun k hk => ⟨(h.ly k hk).1, by have := (h.ly k hk).2; omega⟩, h.dis, own_off h.row ho (fun k hk => (h.rx k hk).1), h.rx,
    h.bel.trans (ho.below (fun k hk hx => by have := (h.lx k hx).1; omega) h.bel.size)⟩
/-- Memory beside them turns. -/
theorem Two.beside {w0 wr w' : World} {x y : Nat} {ox oy : Nat → Prop} {Sx Sy : List (Int × Int)} {v : Value} {l : List (Int × Int)} (h : Two w0 wr x y ox oy Sx Sy v l) (hb : Below wr.heap.size wr w') : Two w0 w' x y ox oy Sx Sy v l := by
  have hw := hb.size
  exact ⟨h.qx.kept fun k hk => hb.block k (h.lx k hk).2, h.qy.kept fun k hk => hb.block k (h.ly k hk).2, fun k hk => ⟨(h.lx k hk).1, by have := (h.lx k hk).2; omega⟩, fun k hk => ⟨(h.ly k hk).1, by have := (h.ly k hk).2; omega⟩, h.dis, own_below h.row hb, h.rx, below_then h.bel hb⟩
theorem Two.drewN {w0 wr : World} {x y : Nat} {ox oy : Nat → Prop} {Sx Sy : List (Int × Int)} {v : Value} {l : List (Int × Int)} (h : Two w0 wr x y ox oy Sx Sy v l) (n : Nat) : Two w0 (wr.drewN n) x y ox oy Sx Sy v l := h.beside (below_drewN' (Below.refl _ _) n)
/-- One more pair. -/
theorem Two.app {w0 wr w4 : World} {x y : Nat} {ox oy : Nat → Prop} {Sx Sy : List (Int × Int)} {v v4 : Value} {l : List (Int × Int)} {p : Int × Int} (h : Two w0 wr x y ox oy Sx Sy v l)
    (hown : w4.ownsRow w0.heap.size 28 2 v4 (l.length + 1) (pairCells l ++ [.int .i64 p.1, .int .i64 p.2])) (hg : (wr.alloc (.cells #[.int .i64 p.1, .int .i64 p.2] 28)).grownBy w4 v.ownBlock)
    (hloc : v4.ownBlock = v.ownBlock ∨ v4.ownBlock = some (wr.heap.size + 1)) : Two w0 w4 x y ox oy Sx Sy v4 (l ++ [p]) := by
  have hs := hg.size
  simp at hs
  have keep : ∀ k, k < wr.heap.size → v.ownBlock ≠ some k → w4.heap[k]? = wr.heap[k]? := fun k hk hn => by
    rw [hg.block k (by simp; omega) (fun e => hn e.symm), Below.heap_alloc _ _ _ hk]
  refine ⟨h.qx.kept fun k hk => keep k (h.lx k hk).2 fun e => (h.rx k e).1 hk, h.qy.kept fun k hk => keep k (h.ly k hk).2 fun e => (h.rx k e).2 hk, fun k hk => ⟨(h.lx k hk).1, by have := (h.lx k hk).2; omega⟩, fun k hk => ⟨(h.ly k hk).1, by have := (h.ly k hk).2; omega⟩, h.dis, ?_, fun k hk => ?_, ?_⟩
  · have e1 : (l ++ [p]).length = l.length + 1 := by simp
    rw [e1, pairCells_app]; exact hown
  · rcases hloc with e | e
    · exact h.rx k (e ▸ hk)
    · rw [e] at hk
      injection hk with hk
      exact ⟨fun hx => by have := (h.lx k hx).2; omega, fun hy => by have := (h.ly k hy).2; omega⟩
  · exact ⟨hg.os.trans h.bel.os, hg.tape.trans h.bel.tape, hg.output.trans h.bel.output, by have := h.bel.size; omega, fun k hk => (keep k (by have := h.bel.size; omega) fun e => by have := (h.row.lt k e).1; omega).trans (h.bel.block k hk)⟩
theorem two_Add {w0 wr : World} {x y : Nat} {ox oy : Nat → Prop} {Sx Sy : List (Int × Int)} {v : Value} {l : List (Int × Int)} {id at_ : Int} (H : Hid (Two w0 wr x y ox oy Sx Sy v l)) (hi : I64 id) (hn : Sx.length < 4096) :
    Calls Try.prog 10 #[.pointer (some ⟨x, 0, none⟩), .int .i64 id, .int .i64 at_] wr fun e w' => e = .returned (.int .i64 (addE id Sx)) ∧ ∃ ox', Two w0 w' x y ox' oy (addP id at_ Sx) Sy v l := by
  refine (tim_Add x ox Sx id at_ wr (Lib.hid H.out.qx) hi hn).mono ?_
  rintro e w' ⟨rfl, h1, h2⟩
  exact ⟨rfl, _, H.out.addx h1 h2⟩
theorem two_All {w0 wr : World} {x y : Nat} {ox oy : Nat → Prop} {Sx Sy : List (Int × Int)} {v : Value} {l : List (Int × Int)} (H : Hid (Two w0 wr x y ox oy Sx Sy v l)) (hn : Sx.length < 8192) :
    Calls Try.prog 15 #[.pointer (some ⟨x, 0, none⟩)] wr fun e w' => ∃ A c, e = .returned (.slice A Sx.length c) ∧ Hid (Sl w' (.slice A Sx.length c) Sx.length 2 (pairCells Sx)) ∧ Hid (Two w0 w' x y ox oy Sx Sy v l) ∧ Hid (Below wr.heap.size wr w') := by
  refine (tim_All x ox Sx wr (Lib.hid H.out.qx) hn).mono ?_
  rintro e w' ⟨A, c, rfl, h1, h2⟩
  exact ⟨A, c, rfl, Sl.of_own h1, H.out.beside h2, h2⟩
theorem two_Due {w0 wr : World} {x y : Nat} {ox oy : Nat → Prop} {Sx Sy : List (Int × Int)} {v : Value} {l : List (Int × Int)} {now : Int} (H : Hid (Two w0 wr x y ox oy Sx Sy v l)) (hn : Sx.length < 8192) (hi : Hid (∀ p ∈ Sx, I64 p.1)) :
    Calls Try.prog 14 #[.pointer (some ⟨x, 0, none⟩), .int .i64 now] wr fun e w' => ∃ A c, e = .returned (.slice A (dueP now Sx).length c) ∧ Hid (w'.ownsRow wr.heap.size 3 1 (.slice A (dueP now Sx).length c) (dueP now Sx).length (intCells (dueP now Sx))) ∧ Hid (Two w0 w' x y ox oy (leftP now Sx) Sy v l) ∧ Hid (Only ox wr w') := by
  refine (tim_Due x ox Sx now wr (Lib.hid H.out.qx) hn hi).mono ?_
  rintro e w' ⟨A, c, rfl, h1, h2, h3⟩
  exact ⟨A, c, rfl, h1, H.out.turnx h2 h3, h3⟩
theorem two_start {w0 w1 w2 : World} {x y : Nat} (h0 : w0.heap.size ≤ w1.heap.size) (hx : QAt w1 x (fun k => w0.heap.size ≤ k) []) (hb : Below w0.heap.size w0 w1) (hy : QAt w2 y (fun k => w1.heap.size ≤ k) []) (hb2 : Below w1.heap.size w1 w2) :
    Two w0 w2 x y (fun k => w0.heap.size ≤ k ∧ k < w1.heap.size) (fun k => w1.heap.size ≤ k ∧ k < w2.heap.size) [] [] (.slice none 0 0) [] := by
  have hs := hb2.size
  refine ⟨?_, hy.mono fun k hk h => ⟨h, hk⟩, fun k hk => ⟨hk.1, by omega⟩, fun k hk => ⟨by omega, hk.2⟩, fun k hk hy => by omega, World.ownsRow_nil _ _ _ _, (fun k hk => by cases hk), below_then hb hb2⟩
  exact (hx.mono (own' := fun k => w0.heap.size ≤ k ∧ k < w1.heap.size) fun k hk h => ⟨h, hk⟩).kept fun k hk => hb2.block k hk.2
theorem due_len (now : Int) (S : List (Int × Int)) : (dueP now S).length + (leftP now S).length = S.length := by
  unfold dueP leftP
  have h := congrArg List.length (List.takeWhile_append_dropWhile (p := fun p : Int × Int => decide (p.2 ≤ now)) (l := S))
  rw [List.length_append] at h
  rw [List.length_map]; exact h
/-- What was added is, in some order, the row. -/
theorem perm_add {l S : List (Int × Int)} {p : Int × Int} (h : l.Perm S) (hh : hasP p.1 S = false) : (l ++ [p]).Perm (addP p.1 p.2 S) := by
  unfold addP
  rw [hh]
  simp only [Bool.false_eq_true, if_false]
  exact (List.perm_append_comm.trans (h.cons p)).trans (insP_perm _ _).symm
theorem ids_nodup {l S : List (Int × Int)} (h : l.Perm S) (hs : SrtP S) : (l.map (·.1)).Nodup := ((h.map (·.1)).nodup_iff).2 hs.2
theorem back_no {l T : List (Int × Int)} {j : Nat} (hn : (l.map (·.1)).Nodup) (hj : j < l.length) (hT : T.Perm (l.drop (j + 1))) : hasP (l.getD j (0, 0)).1 T = false := by
  rw [has_false]
  intro p hp e
  have hp2 := hT.mem_iff.1 hp
  have e1 : l.drop j = l.getD j (0, 0) :: l.drop (j + 1) := by rw [List.drop_eq_getElem_cons hj, List.getD, List.getElem?_eq_getElem hj]; rfl
  have h1 : ((l.drop j).map (·.1)).Nodup := hn.sublist ((List.drop_sublist j l).map _)
  rw [e1, List.map_cons, List.nodup_cons] at h1
  exact h1.1 (List.mem_map.2 ⟨p, hp2, e⟩)
theorem back_step {l T : List (Int × Int)} {j : Nat} (hj : j < l.length) (hT : T.Perm (l.drop (j + 1))) (hh : hasP (l.getD j (0, 0)).1 T = false) : (addP (l.getD j (0, 0)).1 (l.getD j (0, 0)).2 T).Perm (l.drop j) := by
  have e1 : l.drop j = l.getD j (0, 0) :: l.drop (j + 1) := by rw [List.drop_eq_getElem_cons hj, List.getD, List.getElem?_eq_getElem hj]; rfl
  rw [e1]
  unfold addP
  rw [hh]
  simp only [Bool.false_eq_true, if_false]
  exact (insP_perm _ _).trans (hT.cons _)
end Go.Proofs.Ytkcggnfbmbfciaa
