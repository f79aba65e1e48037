/- Package check: Reached. Printed by gen_ckC.py. -/
import Derived.Test.YtaeeblceedklnaaGreatDoorCkV
import Derived.Deep.LoopGhost
import Derived.Deep.DeepCutAuto
namespace Go.Proofs.YtaeeblceedklnaaGreatDoor
open Go.RowKit
/-- What is known in the midst: what is marked, done, waits; the takers that are left of a place. -/
structure RInv (N : Nt) (M D W ts : List Int) : Prop where
  r1 : ∀ x ∈ M, ReachP N x
  r1' : ∀ x ∈ W, ReachP N x
  r2 : N.from_ ∈ M ∨ N.from_ ∈ W
  r2' : ∀ k : Nat, k < N.pls.length → (N.pls.getD k default).first ≠ [] → (k : Int) ∈ M ∨ (k : Int) ∈ W
  r3 : ∀ m ∈ M, ∀ k : Nat, k < N.tks.length → takersB N m k = true → (k : Int) ∈ D ∨ (k : Int) ∈ ts
  r4 : ∀ k ∈ D, ReachT N k ∧ ∀ j : Nat, k = j → ∀ c ∈ (N.tks.getD j default).outs, c.place ∈ M ∨ c.place ∈ W
  r5 : ∀ k ∈ ts, ReachT N k
theorem hasA_iff {l : List Ar} {x : Int} : hasA l x = true ↔ ∃ a ∈ l, a.place = x := by unfold hasA; simp
theorem mem_drop {α : Type} {a x : α} {M W : List α} (hx : x ∈ M) (h : a ∈ M ∨ a ∈ x :: W) : a ∈ M ∨ a ∈ W := by
  rcases h with h | h
  · exact .inl h
  · rcases List.mem_cons.1 h with rfl | h
    · exact .inl hx
    · exact .inr h
theorem RInv.skip {N : Nt} {M D W : List Int} {x : Int} (h : RInv N M D (x :: W) []) (hx : x ∈ M) : RInv N M D W [] :=
  ⟨h.r1, fun y hy => h.r1' y (List.mem_cons_of_mem _ hy), mem_drop hx h.r2, fun k hk hf => mem_drop hx (h.r2' k hk hf), h.r3, fun k hk => ⟨(h.r4 k hk).1, fun j e c hc => mem_drop hx ((h.r4 k hk).2 j e c hc)⟩, h.r5⟩
theorem mem_move {α : Type} {a x : α} {M W : List α} (h : a ∈ M ∨ a ∈ x :: W) : a ∈ x :: M ∨ a ∈ W := by
  rcases h with h | h
  · exact .inl (List.mem_cons_of_mem _ h)
  · rcases List.mem_cons.1 h with rfl | h
    · exact .inl (by simp)
    · exact .inr h
theorem RInv.mark {N : Nt} {M D W : List Int} {x : Int} (h : RInv N M D (x :: W) []) : RInv N (x :: M) D W (usersK (takersB N x) N.tks.length) := by
  have hx := h.r1' x (by simp)
  refine ⟨fun y hy => ?_, fun y hy => h.r1' y (List.mem_cons_of_mem _ hy), mem_move h.r2, fun k hk hf => mem_move (h.r2' k hk hf), fun m hm k hk ht => ?_, fun k hk => ⟨(h.r4 k hk).1, fun j e c hc => mem_move ((h.r4 k hk).2 j e c hc)⟩, fun k hk => ?_⟩
  · rcases List.mem_cons.1 hy with rfl | hy
    · exact hx
    · exact h.r1 y hy
  · rcases List.mem_cons.1 hm with rfl | hm
    · exact .inr ((usersK_mem _ _ _).2 ⟨k, rfl, hk, ht⟩)
    · rcases h.r3 m hm k hk ht with h1 | h1
      · exact .inl h1
      · cases h1
  · obtain ⟨j, e, hj, ht⟩ := (usersK_mem _ _ _).1 hk
    obtain ⟨a, ha, he⟩ := hasA_iff.1 ht
    exact ⟨j, e, hj, a, ha, by rw [he]; exact hx⟩
theorem RInv.pass {N : Nt} {M D W ts : List Int} {k : Int} (h : RInv N M D W (k :: ts)) (hk : k ∈ D) : RInv N M D W ts :=
  ⟨h.r1, h.r1', h.r2, h.r2', fun m hm j hj ht => by
    rcases h.r3 m hm j hj ht with h1 | h1
    · exact .inl h1
    · rcases List.mem_cons.1 h1 with e | h1
      · exact .inl (e ▸ hk)
      · exact .inr h1, h.r4, fun j hj => h.r5 j (List.mem_cons_of_mem _ hj)⟩
theorem RInv.doit {N : Nt} {M D W ts : List Int} {k : Nat} (h : RInv N M D W ((k : Int) :: ts)) : RInv N M ((k : Int) :: D) (W ++ (N.tks.getD k default).outs.map Ar.place) ts := by
  have hk := h.r5 k (by simp)
  obtain ⟨i, ei, hi, a, ha, hr⟩ := hk
  have eki : k = i := by omega
  subst eki
  have up : ∀ {y : Int}, y ∈ M ∨ y ∈ W → y ∈ M ∨ y ∈ W ++ (N.tks.getD k default).outs.map Ar.place := fun hy => hy.imp id fun h => List.mem_append_left _ h
  refine ⟨h.r1, fun y hy => ?_, up h.r2, fun j hj hf => up (h.r2' j hj hf), fun m hm j hj ht => ?_, fun j hj => ?_, fun j hj => h.r5 j (List.mem_cons_of_mem _ hj)⟩
  · rcases List.mem_append.1 hy with hy | hy
    · exact h.r1' y hy
    · obtain ⟨c, hc, rfl⟩ := List.mem_map.1 hy
      exact .step k hi a ha hr c hc
  · rcases h.r3 m hm j hj ht with h1 | h1
    · exact .inl (List.mem_cons_of_mem _ h1)
    · rcases List.mem_cons.1 h1 with e | h1
      · exact .inl (by rw [e]; simp)
      · exact .inr h1
  · rcases List.mem_cons.1 hj with rfl | hj
    · refine ⟨⟨k, rfl, hi, a, ha, hr⟩, fun j e c hc => .inr (List.mem_append_right _ ?_)⟩
      have : k = j := by omega
      subst this
      exact List.mem_map.2 ⟨c, hc, rfl⟩
    · exact ⟨(h.r4 j hj).1, fun i e c hc => up ((h.r4 j hj).2 i e c hc)⟩
theorem RInv.ends {N : Nt} {M D : List Int} (h : RInv N M D [] []) : (∀ x, x ∈ M ↔ ReachP N x) ∧ ∀ x, x ∈ D ↔ ReachT N x := by
  have hm : ∀ x, ReachP N x → x ∈ M := by
    intro x hx
    induction hx with
    | from_ => rcases h.r2 with h1 | h1; exact h1; cases h1
    | first k hk hf => rcases h.r2' k hk hf with h1 | h1; exact h1; cases h1
    | step k hk a ha _ c hc ih =>
      have hd : (k : Int) ∈ D := by
        rcases h.r3 _ ih k hk (hasA_iff.2 ⟨a, ha, rfl⟩) with h1 | h1
        · exact h1
        · cases h1
      rcases (h.r4 _ hd).2 k rfl c hc with h1 | h1
      · exact h1
      · cases h1
  refine ⟨fun x => ⟨h.r1 x, hm x⟩, fun x => ⟨fun hx => (h.r4 x hx).1, ?_⟩⟩
  rintro ⟨k, rfl, hk, a, ha, hr⟩
  rcases h.r3 _ (hm _ hr) k hk (hasA_iff.2 ⟨a, ha, rfl⟩) with h1 | h1
  · exact h1
  · cases h1
/-- What the tasks that are not done can give yet. -/
def leftO (N : Nt) (D : List Int) : Nat → Nat
  | 0 => 0
  | k + 1 => leftO N D k + if D.contains (k : Int) then 0 else (N.tks.getD k default).outs.length + 1
theorem leftO_far {N : Nt} {D : List Int} {k : Nat} : ∀ {n : Nat}, n ≤ k → leftO N ((k : Int) :: D) n = leftO N D n
  | 0, _ => rfl
  | n + 1, h => by
    rw [leftO, leftO, leftO_far (by omega)]
    have : ((k : Int) :: D).contains (n : Int) = D.contains (n : Int) := by
      rw [List.contains_cons]
      have : ((n : Int) == (k : Int)) = false := by simp; omega
      rw [this]; rfl
    rw [this]
theorem leftO_put {N : Nt} {D : List Int} {k : Nat} (hd : D.contains (k : Int) = false) : ∀ {n : Nat}, k < n → leftO N ((k : Int) :: D) n + ((N.tks.getD k default).outs.length + 1) = leftO N D n
  | 0, h => by omega
  | n + 1, h => by
    rw [leftO, leftO]
    by_cases e : k = n
    · subst e
      rw [leftO_far (Nat.le_refl _), hd]
      simp
    · have h1 := leftO_put (N := N) hd (n := n) (by omega)
      have : ((k : Int) :: D).contains (n : Int) = D.contains (n : Int) := by
        rw [List.contains_cons]
        have : ((n : Int) == (k : Int)) = false := by simp; omega
        rw [this]; rfl
      rw [this]
      omega
def firstB (N : Nt) (k : Nat) : Bool := !(N.pls.getD k default).first.isEmpty
theorem RInv.start (N : Nt) : RInv N [] [] (N.from_ :: usersK (firstB N) N.pls.length) [] := by
  refine ⟨(fun x hx => by cases hx), fun x hx => ?_, .inr (by simp), fun k hk hf => .inr ?_, (fun m hm => by cases hm), (fun k hk => by cases hk), (fun k hk => by cases hk)⟩
  · rcases List.mem_cons.1 hx with rfl | hx
    · exact .from_
    · obtain ⟨k, rfl, hk, hf⟩ := (usersK_mem _ _ _).1 hx
      refine .first k hk fun e => ?_
      unfold firstB at hf
      rw [e] at hf
      cases hf
  · refine List.mem_cons_of_mem _ ((usersK_mem _ _ _).2 ⟨k, rfl, hk, ?_⟩)
    unfold firstB
    cases hq : (N.pls.getD k default).first with
    | nil => exact absurd hq hf
    | cons a l => rfl
section
variable {A1 A2 A3 : Option Addr} {n1 c1 n2 c2 n3 c3 : Nat} {N : Nt}
/-- The memory in the midst. -/
structure RSt (A1 : Option Addr) (n1 c1 : Nat) (A2 : Option Addr) (n2 c2 : Nat) (A3 : Option Addr) (n3 c3 : Nat) (a b : Int) (w wr : World) (M D W : List Int) (nM nD : Nat) (DM DD : DataW Unit) (g off cap : Nat) : Prop where
  bel : Below w.heap.size w wr
  box : NBox wr w.heap.size A1 n1 c1 A2 n2 c2 A3 n3 c3 a b
  m1 : OwnB wr (w.heap.size + 1) nM DM
  h1 : HadI DM M
  m2 : OwnB wr (w.heap.size + 1 + 1) nD DD
  h2 : HadI DD D
  q : Que (w.heap.size + 1 + 1 + 1) wr g off cap W
  i : ∀ x ∈ W, I64 x
section
variable {a b : Int} {w wr : World} {M D W : List Int} {nM nD : Nat} {DM DD : DataW Unit} {g off cap : Nat}
theorem RSt.sz (h : RSt A1 n1 c1 A2 n2 c2 A3 n3 c3 a b w wr M D W nM nD DM DD g off cap) : w.heap.size + 1 + 1 + 1 < wr.heap.size := Nat.lt_of_le_of_lt h.q.base h.q.lt
theorem RSt.below (h : RSt A1 n1 c1 A2 n2 c2 A3 n3 c3 a b w wr M D W nM nD DM DD g off cap) {w2 : World} (hb : Below wr.heap.size wr w2) : RSt A1 n1 c1 A2 n2 c2 A3 n3 c3 a b w w2 M D W nM nD DM DD g off cap :=
  ⟨below_then h.bel hb, h.box.below hb, ownB_below h.m1 hb (by have := h.sz; omega), h.h1, ownB_below h.m2 hb (by have := h.sz; omega), h.h2, h.q.below hb, h.i⟩
theorem NBox.same {w w' : World} {g : Nat} (h : NBox w g A1 n1 c1 A2 n2 c2 A3 n3 c3 a b) (hk : w'.heap[g]? = w.heap[g]?) : NBox w' g A1 n1 c1 A2 n2 c2 A3 n3 c3 a b :=
  ⟨(World.cell?_of_block (a := ⟨g, 0, none⟩) hk).trans h.c0, (World.cell?_of_block (a := ⟨g, 1, none⟩) hk).trans h.c1, (World.cell?_of_block (a := ⟨g, 2, none⟩) hk).trans h.c2, (World.cell?_of_block (a := ⟨g, 3, none⟩) hk).trans h.c3, (World.cell?_of_block (a := ⟨g, 4, none⟩) hk).trans h.c4⟩
theorem RSt.put1 (h : RSt A1 n1 c1 A2 n2 c2 A3 n3 c3 a b w wr M D W nM nD DM DD g off cap) {w2 : World} {x : Int} {n : Nat} (ho : OwnB w2 (w.heap.size + 1) n (DM.put (.int .i64 x) (.lit (.bool true)))) (hg : wr.grownBy w2 (some (w.heap.size + 1))) :
    RSt A1 n1 c1 A2 n2 c2 A3 n3 c3 a b w w2 (x :: M) D W n nD (DM.put (.int .i64 x) (.lit (.bool true))) DD g off cap := by
  have hs := h.sz
  have hq := h.q.base
  exact ⟨h.bel.grown hg h.bel.size (fun k hk => by injection hk with hk; omega), h.box.same (hg.block _ (by omega) (by intro e; injection e with e; omega)), ho, h.h1.put x, ownB_same h.m2 (hg.block _ (by omega) (by intro e; injection e with e; omega)), h.h2,
    h.q.kept hg.size (hg.block _ h.q.lt (by intro e; injection e with e; omega)), h.i⟩
theorem RSt.put2 (h : RSt A1 n1 c1 A2 n2 c2 A3 n3 c3 a b w wr M D W nM nD DM DD g off cap) {w2 : World} {x : Int} {n : Nat} (ho : OwnB w2 (w.heap.size + 1 + 1) n (DD.put (.int .i64 x) (.lit (.bool true)))) (hg : wr.grownBy w2 (some (w.heap.size + 1 + 1))) :
    RSt A1 n1 c1 A2 n2 c2 A3 n3 c3 a b w w2 M (x :: D) W nM n DM (DD.put (.int .i64 x) (.lit (.bool true))) g off cap := by
  have hs := h.sz
  have hq := h.q.base
  exact ⟨h.bel.grown hg h.bel.size (fun k hk => by injection hk with hk; omega), h.box.same (hg.block _ (by omega) (by intro e; injection e with e; omega)), ownB_same h.m1 (hg.block _ (by omega) (by intro e; injection e with e; omega)), h.h1, ho, h.h2.put x,
    h.q.kept hg.size (hg.block _ h.q.lt (by intro e; injection e with e; omega)), h.i⟩
theorem RSt.push (h : RSt A1 n1 c1 A2 n2 c2 A3 n3 c3 a b w wr M D W nM nD DM DD g off cap) {w2 : World} {x : Int} {g' off' cap' : Nat} (hx : I64 x) (hq : Que (w.heap.size + 1 + 1 + 1) w2 g' off' cap' (W ++ [x])) (hg : wr.grownBy w2 (some g)) :
    RSt A1 n1 c1 A2 n2 c2 A3 n3 c3 a b w w2 M D (W ++ [x]) nM nD DM DD g' off' cap' := by
  have hs := h.sz
  have hq' := h.q.base
  refine ⟨h.bel.grown hg h.bel.size (fun k hk => by injection hk with hk; omega), h.box.same (hg.block _ (by omega) (by intro e; injection e with e; omega)), ownB_same h.m1 (hg.block _ (by omega) (by intro e; injection e with e; omega)), h.h1, ownB_same h.m2 (hg.block _ (by omega) (by intro e; injection e with e; omega)), h.h2, hq, fun y hy => ?_⟩
  rcases List.mem_append.1 hy with hy | hy
  · exact h.i y hy
  · rw [List.mem_singleton] at hy
    rw [hy]; exact hx
theorem RSt.pop {x : Int} (h : RSt A1 n1 c1 A2 n2 c2 A3 n3 c3 a b w wr M D (x :: W) nM nD DM DD g off cap) : RSt A1 n1 c1 A2 n2 c2 A3 n3 c3 a b w wr M D W nM nD DM DD g (off + 1) (cap - 1) :=
  ⟨h.bel, h.box, h.m1, h.h1, h.m2, h.h2, h.q.pop, fun y hy => h.i y (List.mem_cons_of_mem _ hy)⟩
theorem RSt.emp {x : Int} (h : RSt A1 n1 c1 A2 n2 c2 A3 n3 c3 a b w wr M D [x] nM nD DM DD g off cap) (off' : Nat) : RSt A1 n1 c1 A2 n2 c2 A3 n3 c3 a b w wr M D [] nM nD DM DD g off' 0 :=
  ⟨h.bel, h.box, h.m1, h.h1, h.m2, h.h2, h.q.emp, fun y hy => by cases hy⟩
end
def ReachedP (N : Nt) (w : World) (e : Ending) (w' : World) : Prop :=
  ∃ A c p B d t, e = .returned (.tuple #[.slice A p.length c, .slice B t.length d]) ∧ RowOf p (ReachP N) ∧ RowOf t (ReachT N) ∧ Sl w' (.slice A p.length c) p.length 1 (intCells p) ∧ Sl w' (.slice B t.length d) t.length 1 (intCells t) ∧ Below w.heap.size w w'
set_option maxRecDepth 100000 in
set_option maxHeartbeats 8000000 in
theorem ck_Reached (w : World) (hN : Hid (NetAt w A1 n1 c1 A2 n2 c2 A3 n3 c3 N)) (hn3 : n3 ≤ 1000000) (hT : 1 + n2 + leftO N [] n3 ≤ 1000000) :
    Calls Tryz.prog 15 #[netV A1 n1 c1 A2 n2 c2 A3 n3 c3 N.from_ N.to_] w (ReachedP N w) := by
  have hn2 : n2 ≤ 1000000 := by omega
  have hlp := Lib.hid hN.out.pls.2.2.1
  have hlt3 := Lib.hid hN.out.tks.2.2.1
  have hmm := @run_makeMap Tryz.prog
  have SZ1 := Lib.hid (show (w.alloc (.cells #[.slice A1 n1 c1, .slice A2 n2 c2, .slice A3 n3 c3, .int .i64 N.from_, .int .i64 N.to_] 26)).heap.size = w.heap.size + 1 from World.size_alloc _ _)
  have SZ2 := Lib.hid (show ((w.alloc (.cells #[.slice A1 n1 c1, .slice A2 n2 c2, .slice A3 n3 c3, .int .i64 N.from_, .int .i64 N.to_] 26)).alloc (.map #[] 0)).heap.size = w.heap.size + 1 + 1 by rw [World.size_alloc, World.size_alloc])
  have SZ3 := Lib.hid (show (((w.alloc (.cells #[.slice A1 n1 c1, .slice A2 n2 c2, .slice A3 n3 c3, .int .i64 N.from_, .int .i64 N.to_] 26)).alloc (.map #[] 0)).alloc (.map #[] 0)).heap.size = w.heap.size + 1 + 1 + 1 by rw [World.size_alloc, World.size_alloc, World.size_alloc])
  have hm1 := World.ownsMap_made (H := Unit) (w.alloc (.cells #[.slice A1 n1 c1, .slice A2 n2 c2, .slice A3 n3 c3, .int .i64 N.from_, .int .i64 N.to_] 26)) Tryz.prog 3 (plainElem Tryz.prog 4)
  have hm2 := World.ownsMap_made (H := Unit) ((w.alloc (.cells #[.slice A1 n1 c1, .slice A2 n2 c2, .slice A3 n3 c3, .int .i64 N.from_, .int .i64 N.to_] 26)).alloc (.map #[] 0)) Tryz.prog 3 (plainElem Tryz.prog 4)
  rw [SZ1.out] at hm1
  rw [SZ2.out] at hm2
  obtain ⟨w1, hw1⟩ : ∃ x, x = (((w.alloc (.cells #[.slice A1 n1 c1, .slice A2 n2 c2, .slice A3 n3 c3, .int .i64 N.from_, .int .i64 N.to_] 26)).alloc (.map #[] 0)).alloc (.map #[] 0)).alloc (.cells #[.int .i64 N.from_] 3) := ⟨_, rfl⟩
  have HS0 := Lib.hid (show RSt A1 n1 c1 A2 n2 c2 A3 n3 c3 N.from_ N.to_ w w1 [] [] [N.from_] 0 0 (.map []) (.map []) (w.heap.size + 1 + 1 + 1) 0 1 by
    rw [hw1]
    refine ⟨below_then (below_then (below_then (alr w _) (alr _ _)) (alr _ _)) (alr _ _), (((NBox.new w A1 n1 c1 A2 n2 c2 A3 n3 c3 N.from_ N.to_ 26).below (alr _ _)).below (alr _ _)).below (alr _ _),
      ownB_below (ownB_below hm1 (alr _ _) (by rw [SZ2.out]; omega)) (alr _ _) (by rw [SZ3.out]; omega), HadI.nil, ownB_below hm2 (alr _ _) (by rw [SZ3.out]; omega), HadI.nil, ⟨Nat.le_refl _, by rw [World.size_alloc, SZ3.out]; omega, Nat.le_refl _, by omega, fun j hj => ?_, fun j hj => ?_⟩, fun x hx => ?_⟩
    · have hj0 : j = 0 := by simp at hj; omega
      subst hj0
      exact SZ3.out ▸ cell_new _ #[.int .i64 N.from_] 3 0 _ rfl
    · have hj0 : j = 0 := by omega
      subst hj0
      refine ⟨?_, SZ3.out ▸ frozen_new _ #[.int .i64 N.from_] 3 0⟩
      have h := SZ3.out ▸ cell_new (((w.alloc (.cells #[.slice A1 n1 c1, .slice A2 n2 c2, .slice A3 n3 c3, .int .i64 N.from_, .int .i64 N.to_] 26)).alloc (.map #[] 0)).alloc (.map #[] 0)) #[.int .i64 N.from_] 3 0 _ rfl
      rw [Nat.add_zero, h]; rfl
    · rw [List.mem_singleton] at hx
      rw [hx]; exact hN.out.i4)
  have HW := Lib.hid hw1.symm
  have x0 := NBox.new w A1 n1 c1 A2 n2 c2 A3 n3 c3 N.from_ N.to_ 26
  have x3 := cell_kept (below_then (alr _ (.map #[] 0)) (alr _ (.map #[] 0))) x0.c3
  have y1 := HS0.out.box.c1
  clear hm1 hm2 hw1 x0
  go_enter Tryz.func15, Tryz.ntmps15
  go_upto_region 3 with fail
  rw [HW.out]
  go_wp2_with fail
  go_loopw [6, 22] (fun v6 v22 wr => ∃ (k g off cap m : Nat), k ≤ n2 ∧ v22 = .int .i64 (k : Int) ∧ v6 = .slice (some ⟨g, off, none⟩) m cap ∧ m ≤ k + 1 ∧ Hid ((N.from_ :: usersK (firstB N) k).length = m) ∧ Hid (RSt A1 n1 c1 A2 n2 c2 A3 n3 c3 N.from_ N.to_ w wr [] [] (N.from_ :: usersK (firstB N) k) 0 0 (.map []) (.map []) g off cap)) (fun _ v22 _ => n2 - (intOf v22).toNat)
  case atStart => exact ⟨0, _, _, _, 1, by omega, rfl, rfl, by omega, rfl, HS0⟩
  case round =>
    obtain ⟨k, g, off, cap, m, hk, rfl, rfl, hmk, hml, hS⟩ := hrel
    obtain ⟨l, hl⟩ : ∃ l, l = N.from_ :: usersK (firstB N) k := ⟨_, rfl⟩
    rw [← hl] at hml hS
    have HL := Lib.hid hl
    clear hl
    by_cases hlt : k < n2
    · obtain ⟨b, off', rfl, A', n', c', hE⟩ := (hN.out.below hS.out.bel).pls.at_ hlt
      obtain ⟨p, hp⟩ : ∃ p, p = firstB N k := ⟨_, rfl⟩
      have hp2 := hp
      unfold firstB at hp2
      obtain ⟨q, hq⟩ : ∃ q, q = N.pls.getD k default := ⟨_, rfl⟩
      rw [← hq] at hE hp2
      have HP := Lib.hid hp.symm
      have e0 := hE.c0
      have e1 := hE.c1
      have e2 := hE.c2
      have hfl : q.first.length = n' := by have := hE.sl.len; rw [pairCells_len] at this; omega
      have HBX := Lib.hid (alr wr (.cells #[.string q.name, .int .i64 q.colour, .slice A' n' c'] 45))
      have HS2 := Lib.hid (hS.out.below HBX.out)
      have hlt2 : (k : Int) < (n2 : Int) := by omega
      have hk0 : (0 : Int) ≤ (k : Int) := by omega
      cases p with
      | false =>
        have HK := Lib.hid (show N.from_ :: usersK (firstB N) (k + 1) = l by rw [usersK, HP.out, HL.out]; simp)
        have hn0 : n' = 0 := by
          rw [← hfl]
          cases hqf : q.first with
          | nil => rfl
          | cons a t => rw [hqf] at hp2; cases hp2
        subst hn0
        clear hp hp2 hq hE hfl
        go_wp2_with fail
        go_roundw
        case rel => exact ⟨k + 1, g, off, cap, m, by omega, by go_num, rfl, by omega, Lib.hid (by rw [HK.out]; exact hml.out), Lib.hid (by rw [HK.out]; exact HS2.out)⟩
        case measure => simp [intOf]; omega
      | true =>
        have HK := Lib.hid (show N.from_ :: usersK (firstB N) (k + 1) = l ++ [(k : Int)] by rw [usersK, HP.out, HL.out]; simp)
        have hn0 : 0 < n' := by
          rw [← hfl]
          cases hqf : q.first with
          | nil => rw [hqf] at hp2; cases hp2
          | cons a t => simp
        have hn1' : (0 : Int) < (n' : Int) := by omega
        have HI := Lib.hid (show I64 (k : Int) from ⟨by omega, by omega⟩)
        have HM := Lib.hid (show l.length < 1000000000 by rw [hml.out]; omega)
        have CN := Lib.hid (show ((wr.alloc (.cells #[.string q.name, .int .i64 q.colour, .slice A' n' c'] 45)).alloc (.cells #[.int .i64 (k : Int)] 3)).cell? ⟨wr.heap.size + 1, 0, none⟩ = some (.int .i64 (k : Int)) from (show (wr.alloc (.cells #[.string q.name, .int .i64 q.colour, .slice A' n' c'] 45)).heap.size = wr.heap.size + 1 from World.size_alloc _ _) ▸ cell_new (wr.alloc (.cells #[.string q.name, .int .i64 q.colour, .slice A' n' c'] 45)) #[.int .i64 (k : Int)] 3 0 _ rfl)
        clear hp hp2 hq hE hfl
        go_wp2_with (at_builtin; refine wpList_append_que (l := l) rfl (.tmp 31) (.tmp 33) rfl (by rw [hml.out]; rfl) (HS2.out.q.below (alr _ (.cells #[.int .i64 (k : Int)] 3))) (k : Int) (wr.heap.size + 1) 1 (by rfl) CN.out HM.out ?_; intro g' off2 cap' w4 hq4 hg4 hor; have HS4 := Lib.hid ((HS2.out.below (alr _ (.cells #[.int .i64 (k : Int)] 3))).push HI.out hq4 hg4); rw [show (l ++ [(k : Int)]).length = m + 1 by rw [List.length_append, hml.out]; rfl]; clear hq4 hg4 hor)
        go_roundw
        case rel => exact ⟨k + 1, g', off2, cap', m + 1, by omega, by go_num, rfl, by omega, Lib.hid (by rw [HK.out, List.length_append, hml.out]; rfl), Lib.hid (by rw [HK.out]; exact HS4.out)⟩
        case measure => simp [intOf]; omega
    · have ek : n2 = k := by omega
      subst ek
      have RV := Lib.hid (show RInv N [] [] l [] by rw [HL.out, ← hlp.out]; exact RInv.start N)
      go_wp2_with fail
      go_loopg [6] (1 + n2 + leftO N [] n3) (fun gk v6 wr => ∃ (M D W : List Int) (nM nD : Nat) (DM DD : DataW Unit) (g off cap m : Nat), v6 = .slice (some ⟨g, off, none⟩) m cap ∧ Hid (W.length = m) ∧ Hid (RSt A1 n1 c1 A2 n2 c2 A3 n3 c3 N.from_ N.to_ w wr M D W nM nD DM DD g off cap) ∧ Hid (RInv N M D W []) ∧ m + leftO N D n3 ≤ gk ∧ nM + nD + gk ≤ 1000000)
      case atStart => exact ⟨[], [], l, 0, 0, _, _, g, off, cap, m, rfl, hml, hS, RV, by omega, by omega⟩
      case round =>
        obtain ⟨M, D, W, nM, nD, DM, DD, g, off, cap, m, rfl, hml, hS, hR, hgk, hbud⟩ := hrel
        cases W with
        | nil =>
          have hm0 : m = 0 := hml.out.symm
          subst hm0
          have HRE := Lib.hid hR.out.ends
          have HSS := Lib.hid (hS.out.below (alr wr (.cells #[.map (some (w.heap.size + 1))] 94)))
          go_wp2_with fail
          refine (keys_call (some (w.heap.size + 1)) wr).mono ?_
          rintro e w2 ⟨rfl, rfl⟩
          go_wp2_with fail
          refine (sorted_call (w.heap.size + 1) nM DM wr hS.out.m1 (by omega)).mono ?_
          rintro e w3 ⟨A, c, K, rfl, _, _, hp, hmem, _, hsl, hb3⟩
          have HS3 := Lib.hid (HSS.out.below hb3)
          have HK1 := Lib.hid (show RowOf K (ReachP N) from ⟨hp, fun x => (hmem x).trans (by rw [HS3.out.h1.2.2 x, List.contains_iff_mem]; exact HRE.out.1 x)⟩)
          have HL1 := Lib.hid hsl
          clear hp hmem hsl hb3
          go_wp2_with fail
          refine (keys_call (some (w.heap.size + 1 + 1)) w3).mono ?_
          rintro e w4 ⟨rfl, rfl⟩
          go_wp2_with fail
          refine (sorted_call (w.heap.size + 1 + 1) nD DD w3 HS3.out.m2 (by omega)).mono ?_
          rintro e w5 ⟨B, d, L, rfl, _, _, hp, hmem, _, hsl, hb5⟩
          have HB5 := Lib.hid (below_then (alr w3 (.cells #[.map (some (w.heap.size + 1 + 1))] 94)) hb5)
          have HK2 := Lib.hid (show RowOf L (ReachT N) from ⟨hp, fun x => (hmem x).trans (by rw [HS3.out.h2.2.2 x, List.contains_iff_mem]; exact HRE.out.2 x)⟩)
          have HL2 := Lib.hid hsl
          clear hp hmem hsl hb5
          go_wp2_with fail
          go_ret2
          exact ⟨A, c, K, B, d, L, rfl, HK1.out, HK2.out, HL1.out.below HB5.out, HL2.out, below_then HS3.out.bel HB5.out⟩
        | cons x W =>
          obtain ⟨m, rfl⟩ : ∃ m', m = m' + 1 := ⟨W.length, by have := hml.out; rw [List.length_cons] at this; omega⟩
          have HML := Lib.hid (show W.length = m by have := hml.out; rw [List.length_cons] at this; omega)
          have hle := hS.out.q.le
          have hcm := hS.out.q.max
          rw [List.length_cons, HML.out] at hle
          obtain ⟨cap, rfl⟩ : ∃ c', cap = c' + 1 := ⟨cap - 1, by omega⟩
          have c0 := hS.out.q.cells 0 (by rw [List.length_cons]; omega)
          rw [Nat.add_zero] at c0
          have cw : wr.cell? ⟨g, off, none⟩ = some (.int .i64 x) := c0
          have hx := hS.out.i x (by simp)
          have lk := look_i hS.out.m1 hS.out.h1 hx
          have i1 : (0 : Int) < ((m + 1 : Nat) : Int) := by omega
          have i2 : (1 : Int) ≤ ((m + 1 : Nat) : Int) := by omega
          have i3 : ((m + 1 : Nat) : Int) ≤ ((cap + 1 : Nat) : Int) := by omega
          clear c0 hml
          rcases hc : M.contains x with _ | _
          · rw [hc] at lk
            have HR2 := Lib.hid (show RInv N (x :: M) D W (usersK (takersB N x) n3) from hlt3.out ▸ hR.out.mark)
            clear hc
            go_upto_region 11 with fail
            go_cut [6] (fun s6 wx => ∃ off2 cap2, s6 = .slice (some ⟨g, off2, none⟩) m cap2 ∧ wx = wr ∧ Hid (RSt A1 n1 c1 A2 n2 c2 A3 n3 c3 N.from_ N.to_ w wr M D W nM nD DM DD g off2 cap2))
            case first =>
              by_cases hcap : cap = 0
              · subst hcap
                have hm0 : m = 0 := by omega
                subst hm0
                have hW : W = [] := List.eq_nil_of_length_eq_zero HML.out
                subst hW
                go_wp2_with fail
                go_meet
                exact ⟨off, 0, rfl, rfl, Lib.hid (hS.out.emp off)⟩
              · go_wp2_with fail
                go_meet
                exact ⟨off + 1, cap, rfl, rfl, Lib.hid hS.out.pop⟩
            case rest =>
              obtain ⟨off2, cap2, rfl, rfl, hS2⟩ := hcut
              obtain ⟨ts, hts⟩ : ∃ ts, ts = usersK (takersB N x) n3 := ⟨_, rfl⟩
              rw [← hts] at HR2
              have cT := Lib.hid (fun W (hb : Below w.heap.size w W) => (show Calls Tryz.prog 23 #[netV A1 n1 c1 A2 n2 c2 A3 n3 c3 N.from_ N.to_, .int .i64 x] W (NewInts ts W) by rw [hts]; exact ck_takers x W (Lib.hid (hN.out.below hb)) hn3))
              have hlts : ts.length ≤ n3 := by rw [hts]; exact usersK_len _ _
              clear hts cw hcm hle i1 i2 i3 hS hR
              go_wp2_with (at_mapUpdate; refine wpList_mapUpdate_own _ rfl _ _ _ 94 rfl 3 4 keyI Tryz.underlying94 _ (w.heap.size + 1) _ _ rfl hS2.out.m1 (by unfold maxLen; omega) _ _ _ rfl rfl (keyOfI hx) _ [] (plainElem_bool Tryz.underlying4 true) ?_; intro w3 hout3 hg3; have HS3 := Lib.hid (hS2.out.put1 hout3 hg3); have b0 := HS3.out.box.c0; have b1 := HS3.out.box.c1; have b2 := HS3.out.box.c2; have b3 := HS3.out.box.c3; have b4 := HS3.out.box.c4; clear hout3 hg3)
              refine (cT.out w3 HS3.out.bel).mono ?_
              rintro e w4 ⟨A, c, rfl, ho, hb4⟩
              have HS4 := Lib.hid (HS3.out.below hb4)
              have HO4 := Lib.hid ho
              have SEP := Lib.hid (show ∀ h, (Value.slice A ts.length c).ownBlock = some h → h ≠ g from fun h e => by have h1 := (ho.lt h e).1; have h2 := HS3.out.q.lt; omega)
              have hbs := HS3.out.sz
              obtain ⟨bs, hbse⟩ : ∃ y, y = w3.heap.size := ⟨_, rfl⟩
              rw [← hbse] at HO4 hbs
              obtain ⟨tl, htl⟩ : ∃ y, y = ts.length := ⟨_, rfl⟩
              rw [← htl] at HO4 SEP hlts ⊢
              have HTL := Lib.hid htl
              obtain ⟨DM', hDM⟩ : ∃ y, y = DM.put (.int .i64 x) (.lit (.bool true)) := ⟨_, rfl⟩
              rw [← hDM] at HS4
              clear ho hb4 b0 b1 b2 b3 b4 hbse htl hDM HS3 cT lk hS2
              go_wp2_with fail
              go_loopg [6, 53] tl (fun gk2 v6 v53 wq => ∃ (j : Nat) (D2 W2 : List Int) (nD2 : Nat) (DD2 : DataW Unit) (g2 off3 cap3 m2 : Nat), j ≤ tl ∧ v53 = .int .i64 (j : Int) ∧ gk2 = tl - j ∧ v6 = .slice (some ⟨g2, off3, none⟩) m2 cap3 ∧ Hid (W2.length = m2) ∧ Hid (RSt A1 n1 c1 A2 n2 c2 A3 n3 c3 N.from_ N.to_ w wq (x :: M) D2 W2 (nM + 1) nD2 DM' DD2 g2 off3 cap3) ∧ Hid (RInv N (x :: M) D2 W2 (ts.drop j)) ∧ Hid (wq.ownsRow bs 3 1 (.slice A tl c) tl (intCells ts)) ∧ Hid (∀ h, (Value.slice A tl c).ownBlock = some h → h ≠ g2) ∧ m2 + leftO N D2 n3 + nD2 ≤ gk - 1 + nD ∧ nD ≤ nD2)
              case atStart => exact ⟨0, D, W, nD, DD, g, off2, cap2, m, by omega, rfl, by omega, rfl, HML, HS4, HR2, HO4, SEP, by omega, by omega⟩
              case round =>
                obtain ⟨j, D2, W2, nD2, DD2, g2, off3, cap3, m2, hj, rfl, rfl, rfl, hml2, hS5, hR5, hO5, hsep, hb5, hnd⟩ := hrel
                by_cases hjt : j < tl
                · have hjt' : j < ts.length := by rw [← HTL.out]; exact hjt
                  obtain ⟨bb, oo, rfl, ck⟩ := (Sl.of_own hO5.out).int_at' hjt
                  have hdr : ts.drop j = ts.getD j 0 :: ts.drop (j + 1) := by rw [List.drop_eq_getElem_cons hjt', List.getD, List.getElem?_eq_getElem hjt']; rfl
                  have hR6 := hR5.out
                  rw [hdr] at hR6
                  obtain ⟨k, ek, hk3, _⟩ := hR6.r5 (ts.getD j 0) (by simp)
                  rw [ek] at hR6 ck
                  have HR6 := Lib.hid hR6
                  have hk3' : k < n3 := by rw [← hlt3.out]; exact hk3
                  have hik : I64 (k : Int) := ⟨by omega, by omega⟩
                  have lk := look_i hS5.out.m2 hS5.out.h2 hik
                  have j1 : (j : Int) < (tl : Int) := by omega
                  have j0 : (0 : Int) ≤ (j : Int) := by omega
                  clear hdr ek hR6 hk3 hjt'
                  rcases hc : D2.contains (k : Int) with _ | _
                  · rw [hc] at lk
                    have HD := Lib.hid (leftO_put (N := N) hc hk3')
                    obtain ⟨b3, o3, eA, Av, nv, cv, Ag, mg, cg, Ai, ni, ci, Ao, no, co, Ac, nc, cc, hE⟩ := hN.out.tks.at_ hk3'
                    subst eA
                    have HR7 := Lib.hid HR6.out.doit
                    obtain ⟨q, hq⟩ : ∃ q, q = N.tks.getD k default := ⟨_, rfl⟩
                    rw [← hq] at hE HD HR7
                    have HE := Lib.hid hE
                    have hno : q.outs.length = no := hE.outs.2.2.1
                    rw [hno] at HD
                    have HNO := Lib.hid hno
                    have hnoc := Nat.le_trans hE.outs.1 hE.outs.2.1
                    have kk1 : (k : Int) < (n3 : Int) := by omega
                    have kk0 : (0 : Int) ≤ (k : Int) := by omega
                    clear hc hq hE hno hR5
                    go_wp2_with (at_mapUpdate; refine wpList_mapUpdate_own _ rfl _ _ _ 94 rfl 3 4 keyI Tryz.underlying94 _ (w.heap.size + 1 + 1) _ _ rfl hS5.out.m2 (by unfold maxLen; omega) _ _ _ rfl rfl (keyOfI hik) _ [] (plainElem_bool Tryz.underlying4 true) ?_; intro w6 hout6 hg6; have HS6 := Lib.hid (hS5.out.put2 hout6 hg6); have HO6 := Lib.hid (hO5.out.kept hg6 (.inr fun e => by have h1 := (hO5.out.lt _ e).1; omega)); have b2 := HS6.out.box.c2; have e8 := cell_kept HS6.out.bel HE.out.c8; clear hout6 hg6)
                    obtain ⟨DD3, hDD⟩ : ∃ y, y = DD2.put (.int .i64 (k : Int)) (.lit (.bool true)) := ⟨_, rfl⟩
                    rw [← hDD] at HS6
                    clear hDD lk b2 e8
                    go_loopg [6, 69] no (fun gk3 v6 v69 wz => ∃ (i g4 off4 cap4 m4 : Nat), i ≤ no ∧ v69 = .int .i64 (i : Int) ∧ gk3 = no - i ∧ v6 = .slice (some ⟨g4, off4, none⟩) m4 cap4 ∧ Hid (m4 = m2 + i) ∧ Hid ((W2 ++ (q.outs.take i).map Ar.place).length = m4) ∧ Hid (RSt A1 n1 c1 A2 n2 c2 (some ⟨b3, o3, none⟩) n3 c3 N.from_ N.to_ w wz (x :: M) ((k : Int) :: D2) (W2 ++ (q.outs.take i).map Ar.place) (nM + 1) (nD2 + 1) DM' DD3 g4 off4 cap4) ∧ Hid (wz.ownsRow bs 3 1 (.slice (some ⟨bb, oo, none⟩) tl c) tl (intCells ts)) ∧ Hid (∀ h, (Value.slice (some ⟨bb, oo, none⟩) tl c).ownBlock = some h → h ≠ g4))
                    case atStart => exact ⟨0, g2, off3, cap3, m2, by omega, rfl, by omega, rfl, Lib.hid rfl, Lib.hid (by simpa using hml2.out), Lib.hid (by simpa using HS6.out), HO6, hsep⟩
                    case round =>
                      obtain ⟨i, g4, off4, cap4, m4, hi, rfl, rfl, rfl, hm4, hml4, hS7, hO7, hsep7⟩ := hrel
                      by_cases hin : i < no
                      · obtain ⟨b4, o4, rfl, A', n', c', hA⟩ := (HE.out.outs.below ArAt.stays hS7.out.bel).at_ hin
                        have hin' : i < q.outs.length := by rw [HNO.out]; exact hin
                        obtain ⟨r, hr⟩ : ∃ r, r = q.outs.getD i default := ⟨_, rfl⟩
                        rw [← hr] at hA
                        have htk : (q.outs.take (i + 1)).map Ar.place = (q.outs.take i).map Ar.place ++ [r.place] := by
                          rw [List.take_add_one, List.map_append, hr, List.getD, List.getElem?_eq_getElem hin']; rfl
                        have HTK := Lib.hid htk
                        have e0 := hA.c0
                        have e1 := hA.c1
                        have e2 := hA.c2
                        have e3 := hA.c3
                        have hir := Lib.hid hA.i0
                        obtain ⟨Wi, hWi⟩ : ∃ y, y = W2 ++ (q.outs.take i).map Ar.place := ⟨_, rfl⟩
                        rw [← hWi] at hml4 hS7
                        have HWI := Lib.hid hWi
                        have HS8 := Lib.hid (hS7.out.below (alr wr (.cells #[.int .i64 r.place, .int .i64 r.expr.kind, .int .i64 r.expr.num, .slice A' n' c'] 65)))
                        have hsz8 : (wr.alloc (.cells #[.int .i64 r.place, .int .i64 r.expr.kind, .int .i64 r.expr.num, .slice A' n' c'] 65)).heap.size = wr.heap.size + 1 := World.size_alloc _ _
                        have CN := Lib.hid (show ((wr.alloc (.cells #[.int .i64 r.place, .int .i64 r.expr.kind, .int .i64 r.expr.num, .slice A' n' c'] 65)).alloc (.cells #[.int .i64 r.place] 3)).cell? ⟨wr.heap.size + 1, 0, none⟩ = some (.int .i64 r.place) from hsz8 ▸ cell_new (wr.alloc (.cells #[.int .i64 r.place, .int .i64 r.expr.kind, .int .i64 r.expr.num, .slice A' n' c'] 65)) #[.int .i64 r.place] 3 0 _ rfl)
                        have HM := Lib.hid (show Wi.length < 1000000000 by rw [hml4.out]; have := HD.out; have := hm4.out; omega)
                        have HOA := Lib.hid (own_below hO7.out (below_then (alr wr (.cells #[.int .i64 r.place, .int .i64 r.expr.kind, .int .i64 r.expr.num, .slice A' n' c'] 65)) (alr _ (.cells #[.int .i64 r.place] 3))))
                        have hlt7 := Lib.hid (fun h (e : (Value.slice (some ⟨bb, oo, none⟩) tl c).ownBlock = some h) => (show h < ((wr.alloc (.cells #[.int .i64 r.place, .int .i64 r.expr.kind, .int .i64 r.expr.num, .slice A' n' c'] 65)).alloc (.cells #[.int .i64 r.place] 3)).heap.size from (HOA.out.lt h e).2))
                        have i1 : (i : Int) < (no : Int) := by omega
                        have i0 : (0 : Int) ≤ (i : Int) := by omega
                        clear hin' hr htk hA hWi hsz8
                        go_wp2_with (at_builtin; refine wpList_append_que (l := Wi) rfl (.tmp 73) (.tmp 76) rfl (by rw [hml4.out]; rfl) (HS8.out.q.below (alr _ (.cells #[.int .i64 r.place] 3))) r.place (wr.heap.size + 1) 1 (by rfl) CN.out HM.out ?_; intro g5 off5 cap5 w7 hq7 hg7 hor; have HS9 := Lib.hid ((HS8.out.below (alr _ (.cells #[.int .i64 r.place] 3))).push hir.out hq7 hg7); have HO9 := Lib.hid (HOA.out.kept hg7 (.inr fun e => (hsep7.out _ e) rfl)); have SEP9 := Lib.hid (show ∀ h, (Value.slice (some ⟨bb, oo, none⟩) tl c).ownBlock = some h → h ≠ g5 from fun h e => by rcases hor with h1 | h1; exact h1 ▸ hsep7.out h e; have := hlt7.out h e; omega); rw [show (Wi ++ [r.place]).length = m4 + 1 by rw [List.length_append, hml4.out]; rfl]; clear hq7 hg7 hor)
                        go_roundg (no - (i + 1))
                        case rel => exact ⟨i + 1, g5, off5, cap5, m4 + 1, by omega, by go_num, rfl, rfl, Lib.hid (by have := hm4.out; omega), Lib.hid (by rw [HTK.out, ← List.append_assoc, ← HWI.out, List.length_append, hml4.out]; rfl), Lib.hid (by rw [HTK.out, ← List.append_assoc, ← HWI.out]; exact HS9.out), HO9, SEP9⟩
                        case measure => omega
                      · have hall : q.outs.take i = q.outs := List.take_of_length_le (by rw [HNO.out]; omega)
                        rw [hall] at hml4 hS7
                        have hd := HD.out
                        have hm5 := hm4.out
                        have hei : m4 + leftO N ((k : Int) :: D2) n3 + (nD2 + 1) ≤ gk - 1 + nD := by omega
                        clear hall hd hm5
                        go_wp2_with fail
                        go_roundg (tl - (j + 1))
                        case rel => exact ⟨j + 1, (k : Int) :: D2, W2 ++ q.outs.map Ar.place, nD2 + 1, DD3, g4, off4, cap4, m4, by omega, by go_num, rfl, rfl, hml4, hS7, HR7, hO7, hsep7, hei, by omega⟩
                        case measure => omega
                  · rw [hc] at lk
                    have HR7 := Lib.hid (HR6.out.pass (by simpa using hc))
                    clear hc
                    go_wp2_with fail
                    go_roundg (tl - (j + 1))
                    case rel => exact ⟨j + 1, D2, W2, nD2, DD2, g2, off3, cap3, m2, by omega, by go_num, rfl, rfl, hml2, hS5, HR7, hO5, hsep, hb5, hnd⟩
                    case measure => omega
                · have hdr : ts.drop j = [] := List.drop_eq_nil_of_le (by rw [← HTL.out]; omega)
                  have hR6 := hR5.out
                  rw [hdr] at hR6
                  have HR6 := Lib.hid hR6
                  clear hdr hR6
                  go_wp2_with fail
                  go_roundg (gk - 1 + nD - nD2)
                  case rel => exact ⟨x :: M, D2, W2, nM + 1, nD2, DM', DD2, g2, off3, cap3, m2, rfl, hml2, hS5, HR6, by omega, by omega⟩
                  case measure => omega
          · rw [hc] at lk
            have hxm : x ∈ M := by simpa using hc
            have HR2 := Lib.hid (hR.out.skip hxm)
            clear hc hxm
            by_cases hcap : cap = 0
            · subst hcap
              have hm0 : m = 0 := by omega
              subst hm0
              have hW : W = [] := List.eq_nil_of_length_eq_zero HML.out
              subst hW
              go_wp2_with fail
              go_roundg (gk - 1)
              case rel => exact ⟨M, D, [], nM, nD, DM, DD, g, off, 0, 0, rfl, rfl, Lib.hid (hS.out.emp off), HR2, by omega, by omega⟩
              case measure => omega
            · go_wp2_with fail
              go_roundg (gk - 1)
              case rel => exact ⟨M, D, W, nM, nD, DM, DD, g, off + 1, cap, m, rfl, HML, Lib.hid hS.out.pop, HR2, by omega, by omega⟩
              case measure => omega
end
end Go.Proofs.YtaeeblceedklnaaGreatDoor
