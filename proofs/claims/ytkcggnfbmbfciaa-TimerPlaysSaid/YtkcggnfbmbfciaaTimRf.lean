/- The law TimerPlays: the queue and the document's queue side by side. -/
import Derived.Test.YtkcggnfbmbfciaaTimRd
import Derived.Test.YtkcggnfbmbfciaaTimRe
import Derived.Test.YtkcggnfbmbfciaaTimW
namespace Go.Proofs.Ytkcggnfbmbfciaa
open Go.RowKit
/-- Both queues, and the step's row of three. -/
structure Pl (w0 wr : World) (x y g : Nat) (cs : Array Value) (ox : Nat → Prop) (A : Option Addr) (c : Nat) (Sx Sy : List (Int × Int)) : Prop where
  qx : QAt wr x ox Sx
  lx : ∀ k, ox k → w0.heap.size ≤ k ∧ k < wr.heap.size
  qy : RQ wr y w0.heap.size A c Sy
  ly : w0.heap.size ≤ y
  dy : ¬ ox y
  da : ∀ k, (Value.slice A Sy.length c).ownBlock = some k → ¬ ox k
  bel : Below w0.heap.size w0 wr
  sg : wr.heap[g]? = some (.cells cs 46 (0, 0))
  ng : ¬ ox g
  gy : g ≠ y
/-- .. before the first step, and between steps. -/
structure Pl0 (w0 wr : World) (x y : Nat) (ox : Nat → Prop) (A : Option Addr) (c : Nat) (Sx Sy : List (Int × Int)) : Prop where
  qx : QAt wr x ox Sx
  lx : ∀ k, ox k → w0.heap.size ≤ k ∧ k < wr.heap.size
  qy : RQ wr y w0.heap.size A c Sy
  ly : w0.heap.size ≤ y
  dy : ¬ ox y
  da : ∀ k, (Value.slice A Sy.length c).ownBlock = some k → ¬ ox k
  bel : Below w0.heap.size w0 wr
theorem RQ.other {w w' : World} {y base c : Nat} {A : Option Addr} {S : List (Int × Int)} {o : Nat → Prop} (h : RQ w y base A c S) (ho : Only o w w') (hy : ¬ o y) (ha : ∀ k, (Value.slice A S.length c).ownBlock = some k → ¬ o k) : RQ w' y base A c S :=
  ⟨(ho.block y h.lt hy).trans h.q, own_off h.row ho ha, h.ne⟩
theorem Pl.base {w0 wr : World} {x y g c : Nat} {cs : Array Value} {ox : Nat → Prop} {A : Option Addr} {Sx Sy : List (Int × Int)} (h : Pl w0 wr x y g cs ox A c Sx Sy) : Pl0 w0 wr x y ox A c Sx Sy := ⟨h.qx, h.lx, h.qy, h.ly, h.dy, h.da, h.bel⟩
theorem Pl0.step {w0 wr : World} {x y c : Nat} {ox : Nat → Prop} {A : Option Addr} {Sx Sy : List (Int × Int)} (h : Pl0 w0 wr x y ox A c Sx Sy) (cs : Array Value) : Pl w0 (wr.alloc (.cells cs 46)) x y wr.heap.size cs ox A c Sx Sy := by
  have hb : Below wr.heap.size wr (wr.alloc (.cells cs 46)) := (Below.refl _ _).alloc (Nat.le_refl _) _
  have hz := h.qy.lt
  refine ⟨h.qx.kept fun k hk => hb.block k (h.lx k hk).2, fun k hk => ⟨(h.lx k hk).1, by have := (h.lx k hk).2; simp; omega⟩, ⟨(hb.block y hz).trans h.qy.q, h.qy.row.alloc _, h.qy.ne⟩, h.ly, h.dy, h.da, below_then h.bel hb, heap_alloc_new wr _, fun hx => ?_, by omega⟩
  have := (h.lx _ hx).2
  omega
theorem Pl0.beside {w0 wr w' : World} {x y c : Nat} {ox : Nat → Prop} {A : Option Addr} {Sx Sy : List (Int × Int)} (h : Pl0 w0 wr x y ox A c Sx Sy) (hb : Below wr.heap.size wr w') : Pl0 w0 w' x y ox A c Sx Sy := by
  have hw := hb.size
  exact ⟨h.qx.kept fun k hk => hb.block k (h.lx k hk).2, fun k hk => ⟨(h.lx k hk).1, by have := (h.lx k hk).2; omega⟩, ⟨(hb.block y h.qy.lt).trans h.qy.q, own_below h.qy.row hb, h.qy.ne⟩, h.ly, h.dy, h.da, below_then h.bel hb⟩
section
variable {w0 wr w' : World} {x y g c : Nat} {cs : Array Value} {ox : Nat → Prop} {A : Option Addr} {Sx Sy : List (Int × Int)}
theorem Pl.cell {a b d : Int} (h : Pl w0 wr x y g #[.int .i64 a, .int .i64 b, .int .i64 d] ox A c Sx Sy) : wr.cell? ⟨g, 0, none⟩ = some (.int .i64 a) ∧ wr.cell? ⟨g, 1, none⟩ = some (.int .i64 b) ∧ wr.cell? ⟨g, 2, none⟩ = some (.int .i64 d) := by
  refine ⟨?_, ?_, ?_⟩ <;> (rw [cell_of_row _ _ _ _ _ _ h.sg]; rfl)
theorem Pl.beside (h : Pl w0 wr x y g cs ox A c Sx Sy) (hb : Below wr.heap.size wr w') : Pl w0 w' x y g cs ox A c Sx Sy := by
  have h1 := h.base.beside hb
  exact ⟨h1.qx, h1.lx, h1.qy, h1.ly, h1.dy, h1.da, h1.bel, (hb.block g (Array.getElem?_eq_some_iff.1 h.sg).1).trans h.sg, h.ng, h.gy⟩
theorem Pl.drewN (h : Pl w0 wr x y g cs ox A c Sx Sy) (n : Nat) : Pl w0 (wr.drewN n) x y g cs ox A c Sx Sy := h.beside (below_drewN' (Below.refl _ _) n)
theorem Pl.turnx {Sx' : List (Int × Int)} (h : Pl w0 wr x y g cs ox A c Sx Sy) (hq : QAt w' x ox Sx') (ho : Only ox wr w') : Pl w0 w' x y g cs ox A c Sx' Sy := by
  have hw := ho.size
  exact ⟨hq, fun k hk => ⟨(h.lx k hk).1, by have := (h.lx k hk).2; omega⟩, h.qy.other ho h.dy h.da, h.ly, h.dy, h.da, h.bel.trans (ho.below (fun k hk hx => by have := (h.lx k hx).1; omega) h.bel.size), (ho.block g (Array.getElem?_eq_some_iff.1 h.sg).1 h.ng).trans h.sg, h.ng, h.gy⟩
theorem Pl.addx {Sx' : List (Int × Int)} (h : Pl w0 wr x y g cs ox A c Sx Sy) (hq : QAt w' x (fun k => ox k ∨ wr.heap.size ≤ k) Sx') (ho : Only ox wr w') : Pl w0 w' x y g cs (fun k => (ox k ∨ wr.heap.size ≤ k) ∧ k < w'.heap.size) A c Sx' Sy := by
  have hs := h.bel.size
  have hw := ho.size
  have hy := h.qy.lt
  have hg := (Array.getElem?_eq_some_iff.1 h.sg).1
  refine ⟨hq.mono fun k hk ho => ⟨ho, hk⟩, fun k hk => ?_, h.qy.other ho h.dy h.da, h.ly, ?_, fun k hk => ?_, h.bel.trans (ho.below (fun k hk hx => by have := (h.lx k hx).1; omega) h.bel.size), (ho.block g hg h.ng).trans h.sg, ?_, h.gy⟩
  · rcases hk with ⟨hk | hk, h2⟩
    · exact ⟨(h.lx k hk).1, h2⟩
    · exact ⟨by omega, h2⟩
  · rintro ⟨hk | hk, _⟩
    · exact h.dy hk
    · omega
  · have h2 := (h.qy.row.lt k hk).2
    rintro ⟨h3 | h3, _⟩
    · exact h.da k hk h3
    · omega
  · rintro ⟨hk | hk, _⟩
    · exact h.ng hk
    · omega
theorem Pl.turny {Sy' : List (Int × Int)} {A' : Option Addr} {c' : Nat} (h : Pl w0 wr x y g cs ox A c Sx Sy) (hq : RQ w' y w0.heap.size A' c' Sy') (ho : Only (fun k => k = y) wr w')
    (hf : ∀ k, (Value.slice A' Sy'.length c').ownBlock = some k → (Value.slice A Sy.length c).ownBlock = some k ∨ wr.heap.size ≤ k) : Pl w0 w' x y g cs ox A' c' Sx Sy' := by
  have hw := ho.size
  have hl := h.ly
  refine ⟨h.qx.other (fun k hk => (h.lx k hk).2) ho (fun k hk e => h.dy (e ▸ hk)), fun k hk => ⟨(h.lx k hk).1, by have := (h.lx k hk).2; omega⟩, hq, h.ly, h.dy, fun k hk => ?_, h.bel.trans (ho.below (fun k hk e => by omega) h.bel.size), (ho.block g (Array.getElem?_eq_some_iff.1 h.sg).1 h.gy).trans h.sg, h.ng, h.gy⟩
  rcases hf k hk with h1 | h1
  · exact h.da k h1
  · intro h2
    have := (h.lx k h2).2
    omega
theorem pl_AddX {id at_ : Int} (H : Hid (Pl w0 wr x y g cs ox A c Sx Sy)) (hi : I64 id) (hn : Sx.length < 4096) :
    Calls Try.prog 10 #[.pointer (some ⟨x, 0, none⟩), .int .i64 id, .int .i64 at_] wr fun e w' => e = .returned (.int .i64 (addE id Sx)) ∧ ∃ ox', Pl w0 w' x y g cs ox' A c (addP id at_ Sx) Sy := by
  refine (tim_Add x ox Sx id at_ wr (Lib.hid H.out.qx) hi hn).mono ?_
  rintro e w' ⟨rfl, h1, h2⟩
  exact ⟨rfl, _, H.out.addx h1 h2⟩
theorem pl_AddY {id at_ : Int} (H : Hid (Pl w0 wr x y g cs ox A c Sx Sy)) (hn : Sy.length < 4096) :
    Calls Try.prog 20 #[.pointer (some ⟨y, 0, none⟩), .int .i64 id, .int .i64 at_] wr fun e w' => e = .returned (.int .i64 (addE id Sy)) ∧ ∃ A' c', Pl w0 w' x y g cs ox A' c' Sx (addP id at_ Sy) := by
  refine (ref_Add y w0.heap.size c A Sy id at_ wr (Lib.hid H.out.qy) hn H.out.bel.size).mono ?_
  rintro e w' ⟨rfl, A', c', h1, h2, h3⟩
  exact ⟨rfl, A', c', H.out.turny h1 h2 h3⟩
theorem pl_CancelX {id : Int} (H : Hid (Pl w0 wr x y g cs ox A c Sx Sy)) (hi : I64 id) (hn : Sx.length < 8192) :
    Calls Try.prog 13 #[.pointer (some ⟨x, 0, none⟩), .int .i64 id] wr fun e w' => e = .returned (.int .i64 (canE id Sx)) ∧ Pl w0 w' x y g cs ox A c (delP id Sx) Sy := by
  refine (tim_Cancel x ox Sx id wr (Lib.hid H.out.qx) hi hn).mono ?_
  rintro e w' ⟨rfl, h1, h2⟩
  exact ⟨rfl, H.out.turnx h1 h2⟩
theorem pl_CancelY {id : Int} (H : Hid (Pl w0 wr x y g cs ox A c Sx Sy)) (hs : Hid (SrtP Sy)) (hn : Sy.length < 8192) :
    Calls Try.prog 21 #[.pointer (some ⟨y, 0, none⟩), .int .i64 id] wr fun e w' => e = .returned (.int .i64 (canE id Sy)) ∧ ∃ A' c', Pl w0 w' x y g cs ox A' c' Sx (delP id Sy) := by
  refine (ref_Cancel y w0.heap.size c A Sy id wr (Lib.hid H.out.qy) hs hn H.out.bel.size).mono ?_
  rintro e w' ⟨rfl, A', c', h1, h2, h3⟩
  exact ⟨rfl, A', c', H.out.turny h1 h2 h3⟩
theorem pl_DueX {now : Int} (H : Hid (Pl w0 wr x y g cs ox A c Sx Sy)) (hn : Sx.length < 8192) (hi : Hid (∀ p ∈ Sx, I64 p.1)) :
    Calls Try.prog 14 #[.pointer (some ⟨x, 0, none⟩), .int .i64 now] wr fun e w' => ∃ B d, e = .returned (.slice B (dueP now Sx).length d) ∧ Hid (w'.ownsRow wr.heap.size 3 1 (.slice B (dueP now Sx).length d) (dueP now Sx).length (intCells (dueP now Sx))) ∧ Hid (Pl w0 w' x y g cs ox A c (leftP now Sx) Sy) ∧ y < wr.heap.size := by
  refine (tim_Due x ox Sx now wr (Lib.hid H.out.qx) hn hi).mono ?_
  rintro e w' ⟨B, d, rfl, h1, h2, h3⟩
  exact ⟨B, d, rfl, h1, H.out.turnx h2 h3, H.out.qy.lt⟩
theorem pl_DueY {now : Int} {base : Nat} {n : Nat} {v : Value} {l : List Int} (H : Hid (Pl w0 wr x y g cs ox A c Sx Sy)) (hn : Sy.length < 8192) (hv : Hid (wr.ownsRow base 3 1 v n (intCells l))) (hb : y < base) :
    Calls Try.prog 22 #[.pointer (some ⟨y, 0, none⟩), .int .i64 now] wr fun e w' => ∃ B d, e = .returned (.slice B (dueP now Sy).length d) ∧ Hid (Sl w' (.slice B (dueP now Sy).length d) (dueP now Sy).length 1 (intCells (dueP now Sy))) ∧ Hid (Sl w' v n 1 (intCells l)) ∧ ∃ A' c', Hid (Pl w0 w' x y g cs ox A' c' Sx (leftP now Sy)) := by
  refine (ref_Due y w0.heap.size c A Sy now wr (Lib.hid H.out.qy) hn H.out.bel.size).mono ?_
  rintro e w' ⟨B, d, A', c', rfl, h1, h2, h3, h4, h5⟩
  exact ⟨B, d, rfl, Sl.of_own h1, Sl.of_own (own_off hv.out h5 fun k hk e => by have := (hv.out.lt k hk).1; omega), A', c', H.out.turny h2 h5 h3⟩
theorem pl_All (H : Hid (Pl w0 wr x y g cs ox A c Sx Sy)) (hn : Sx.length < 8192) :
    Calls Try.prog 15 #[.pointer (some ⟨x, 0, none⟩)] wr fun e w' => ∃ B d, e = .returned (.slice B Sx.length d) ∧ Hid (Sl w' (.slice B Sx.length d) Sx.length 2 (pairCells Sx)) ∧ Hid (Pl w0 w' x y g cs ox A c Sx Sy) := by
  refine (tim_All x ox Sx wr (Lib.hid H.out.qx) hn).mono ?_
  rintro e w' ⟨B, d, rfl, h1, h2⟩
  exact ⟨B, d, rfl, Sl.of_own h1, H.out.beside h2⟩
end
/-- What is known of the row behind k steps. -/
def Sp (S : List (Int × Int)) (k : Nat) : Prop := SrtP S ∧ (∀ p ∈ S, I64 p.1) ∧ S.length ≤ k
theorem sp_add {S : List (Int × Int)} {k : Nat} {id at_ : Int} (h : Sp S k) (hi : I64 id) : Sp (addP id at_ S) (k + 1) := by
  unfold addP
  rcases hh : hasP id S with _ | _
  · refine ⟨h.1.ins hh, fun p hp => ?_, ?_⟩
    · rcases List.mem_cons.1 ((insP_perm _ _).mem_iff.1 hp) with rfl | hp
      · exact hi
      · exact h.2.1 p hp
    · have := (insP_perm (id, at_) S).length_eq
      have h3 := h.2.2
      simp only [Bool.false_eq_true, if_false]
      rw [this, List.length_cons]; omega
  · exact ⟨h.1, h.2.1, by have := h.2.2; simp; omega⟩
theorem sp_sub {S T : List (Int × Int)} {k : Nat} (h : Sp S k) (ht : T.Sublist S) : Sp T (k + 1) :=
  ⟨⟨h.1.1.sublist ht, h.1.2.sublist (ht.map _)⟩, fun p hp => h.2.1 p (ht.subset hp), by have := ht.length_le; have := h.2.2; omega⟩
theorem sp_del {S : List (Int × Int)} {k : Nat} {id : Int} (h : Sp S k) : Sp (delP id S) (k + 1) := sp_sub h List.filter_sublist
theorem sp_left {S : List (Int × Int)} {k : Nat} {now : Int} (h : Sp S k) : Sp (leftP now S) (k + 1) := sp_sub h (List.dropWhile_sublist _)
theorem sp_same {S : List (Int × Int)} {k : Nat} (h : Sp S k) : Sp S (k + 1) := ⟨h.1, h.2.1, by have := h.2.2; omega⟩
theorem pl_start {w0 w1 w2 w3 : World} {x : Nat} (h0 : w0.heap.size ≤ w1.heap.size) (hb1 : Below w0.heap.size w0 w1) (hx : QAt w2 x (fun k => w1.heap.size ≤ k) []) (hb2 : Below w1.heap.size w1 w2) (hy : RQ w3 w2.heap.size w2.heap.size none 0 []) (hb3 : Below w2.heap.size w2 w3) :
    Pl0 w0 w3 x w2.heap.size (fun k => w1.heap.size ≤ k ∧ k < w2.heap.size) none 0 [] [] := by
  have h2 := hb2.size
  have h3 := hb3.size
  refine ⟨(hx.mono (own' := fun k => w1.heap.size ≤ k ∧ k < w2.heap.size) fun k hk h => ⟨h, hk⟩).kept fun k hk => hb3.block k hk.2, fun k hk => ⟨by omega, by omega⟩, ⟨hy.q, World.ownsRow_nil _ _ _ _, hy.ne⟩, by omega, fun h => by omega, (fun k hk => by cases hk), below_then (below_then hb1 hb2) hb3⟩
end Go.Proofs.Ytkcggnfbmbfciaa
