/- Sets of numbers as maps; their keys, sorted; a queue. -/
import Derived.Test.YtaeeblceedklnaaGreatDoorCkU
import Derived.Test.YtaeeblceedklnaaGreatDoorShelfB
import Derived.Maps.OwnOps
import Derived.Maps.OwnSet
import Derived.Maps.RangeWalk
import Derived.Maps.Ext
import Derived.ArgAppend
namespace Go.Proofs.YtaeeblceedklnaaGreatDoor
open Go.RowKit
theorem wf64 {x : Int} (h : I64 x) : (Lit.int .i64 x).wf = true := by
  have hmin : IntKind.i64.min = -9223372036854775808 := rfl
  have hmax : IntKind.i64.max = 9223372036854775807 := rfl
  simp only [Lit.wf, Bool.and_eq_true, decide_eq_true_eq, hmin, hmax]
  exact h
theorem keyI : Maps.Keyed Tryz.prog 3 := Maps.int_keyed Tryz.underlying3
theorem keyOfI {x : Int} (h : I64 x) : keyOf Tryz.prog 3 (.int .i64 x) = some (.int .i64 x) := Maps.keyOf_int_mk Tryz.underlying3 (wf64 h)
abbrev OwnB (w : World) (b n : Nat) (D : DataW Unit) : Prop := w.ownsMap Tryz.prog 3 (plainElem Tryz.prog 4) b n D
/-- The numbers that a map holds. -/
def HadI (D : DataW Unit) (l : List Int) : Prop := Maps.IsMap D ∧ (∀ x, D.atKey (.int .i64 x) (.lit (.bool false)) = .lit (.bool (l.contains x))) ∧ ∀ x, Maps.has D (.int .i64 x) = l.contains x
theorem HadI.nil : HadI (.map []) [] := ⟨⟨_, rfl⟩, fun _ => rfl, fun _ => rfl⟩
theorem HadI.put {D : DataW Unit} {l : List Int} (h : HadI D l) (s : Int) : HadI (D.put (.int .i64 s) (.lit (.bool true))) (s :: l) := by
  have hc : ∀ x, x ≠ s → (s :: l).contains x = l.contains x := fun x e => by
    rw [List.contains_cons]
    have : (x == s) = false := by simpa using e
    rw [this]; rfl
  have hs : (s :: l).contains s = true := by simp
  refine ⟨?_, fun x => ?_, fun x => ?_⟩
  · obtain ⟨es, rfl⟩ := h.1
    exact ⟨_, rfl⟩
  · by_cases e : x = s
    · rw [e, Maps.atKey_put_same h.1 (show WideAt.IsKeyLit (.int .i64 s) from trivial), hs]
    · rw [Maps.atKey_put_other (fun h1 => e (by injection h1)), h.2.1 x, hc x e]
  · by_cases e : x = s
    · rw [e, Maps.has_put_same h.1 (show WideAt.IsKeyLit (.int .i64 s) from trivial), hs]
    · rw [Maps.has_put_other (fun h1 => e (by injection h1)), h.2.2 x, hc x e]
theorem look_i {w : World} {b n : Nat} {D : DataW Unit} {l : List Int} (h : OwnB w b n D) (hd : HadI D l) {x : Int} (hx : I64 x) :
    (Instr.lookup 94 (.map (some b)) (.int .i64 x) false).run Tryz.prog w = .ok (.bool (l.contains x)) w := by
  obtain ⟨v, ps, hrun, hv⟩ := h.lookup keyI Tryz.underlying94 (zeroB w) (plainElem_bool Tryz.underlying4 false) (keyOfI hx)
  rw [hd.2.1] at hv
  have hv2 := pe_bool Tryz.underlying4 hv
  subst hv2
  exact hrun
theorem ownB_below {w w' : World} {B b n : Nat} {D : DataW Unit} (h : OwnB w b n D) (hb : Below B w w') (hB : b < B) : OwnB w' b n D := by
  obtain ⟨es, cl, h1, h2⟩ := h
  exact ⟨es, cl, by rw [hb.block b hB]; exact h1, h2⟩
theorem ownB_same {w w' : World} {b n : Nat} {D : DataW Unit} (h : OwnB w b n D) (hk : w'.heap[b]? = w.heap[b]?) : OwnB w' b n D := by
  obtain ⟨es, c, h1, r⟩ := h
  exact ⟨es, c, hk.trans h1, r⟩
section
variable {w : World} {b n : Nat} {D : DataW Unit}
theorem intKeys_mem (h : OwnB w b n D) (x : Int) : x ∈ intKeys D ↔ Maps.has D (.int .i64 x) = true := by
  obtain ⟨es, rfl, hko⟩ := h.keysOf
  constructor
  · intro hx
    obtain ⟨p, hp, e⟩ := List.mem_map.1 hx
    obtain ⟨v, hv⟩ := hko p hp
    obtain ⟨y, _, hy, _⟩ := Maps.keyOf_i64 Tryz.underlying3 hv
    rw [hy] at e
    have e' : y = x := e
    subst e'
    exact List.any_eq_true.2 ⟨p, hp, by rw [hy]; exact WideAt.sameKey_self (show WideAt.IsKeyLit (Lit.int .i64 y) from trivial)⟩
  · intro hh
    obtain ⟨p, hp, hs⟩ := List.any_eq_true.1 hh
    have e := WideAt.sameKey_eq hs
    exact List.mem_map.2 ⟨p, hp, by rw [e]; rfl⟩
theorem intKeys_nodup (h : OwnB w b n D) : (intKeys D).Nodup := by
  obtain ⟨es, hD, hpw, _⟩ := h.entries keyI
  obtain ⟨es', hD', hko⟩ := h.keysOf
  obtain rfl : es = es' := by rw [hD] at hD'; simpa using hD'
  subst hD
  show (es.map _).Nodup
  rw [List.Nodup, List.pairwise_map]
  refine hpw.imp_of_mem fun {p q} hp hq hne e => hne ?_
  obtain ⟨v, hv⟩ := hko p hp
  obtain ⟨y, _, hy, _⟩ := Maps.keyOf_i64 Tryz.underlying3 hv
  obtain ⟨v', hv'⟩ := hko q hq
  obtain ⟨y', _, hy', _⟩ := Maps.keyOf_i64 Tryz.underlying3 hv'
  rw [hy, hy'] at e ⊢
  have e' : y = y' := e
  rw [e']
theorem intKeys_len (h : OwnB w b n D) : (intKeys D).length ≤ n := by
  have h1 := h.size_le
  obtain ⟨es, rfl, _⟩ := h.keysOf
  simpa [intKeys, Maps.size] using h1
/-- The keys, sorted. -/
theorem keys_sorted (h : OwnB w b n D) {ss : List Int} (hp : ss.Perm (intKeys D)) : (ss.mergeSort leI).Pairwise (· < ·) ∧ (∀ x, x ∈ ss.mergeSort leI ↔ Maps.has D (.int .i64 x) = true) ∧ (∀ x ∈ ss.mergeSort leI, I64 x) ∧ (ss.mergeSort leI).length ≤ n := by
  have tr : ∀ a b c : Int, leI a b = true → leI b c = true → leI a c = true := fun a b c h1 h2 => by simp only [leI, decide_eq_true_eq] at *; exact Int.le_trans h1 h2
  have tt : ∀ a b : Int, (leI a b || leI b a) = true := fun a b => by simp only [leI, Bool.or_eq_true, decide_eq_true_eq]; exact Int.le_total a b
  have hq := (List.mergeSort_perm ss leI).trans hp
  have hnd : (ss.mergeSort leI).Nodup := hq.nodup_iff.2 (intKeys_nodup h)
  have hso := List.pairwise_mergeSort tr tt ss
  refine ⟨?_, fun x => by rw [hq.mem_iff, intKeys_mem h], fun x hx => ?_, by rw [hq.length_eq]; exact intKeys_len h⟩
  · refine (hso.and hnd).imp fun {x y} hxy => ?_
    have h1 := hxy.1
    have h2 := hxy.2
    simp only [leI, decide_eq_true_eq] at h1
    omega
  · exact wf_i64 (intKeys_wf h Tryz.underlying3 x (hq.mem_iff.1 hx))
end
/-- slices.Sort's two contracts, at the fence that asks nothing. -/
theorem sortsA (m : Nat) : AnyZI.SortsIn Tryz.prog Tryz.sortedA_ren Fence.wide m :=
  ⟨fun blk off cap ss W hH hblk hsz => callsIn_wide.2 (AnyM.slices_Sort_int Tryz.sortA blk off cap ss W hH hblk hsz),
   fun p cap W => callsIn_wide.2 (AnyM.slices_Sort_int_none Tryz.sortA p cap W)⟩
theorem keys_call (mb : Option Nat) (W : World) : Calls Tryz.prog 79 #[.map mb] W fun e w' => e = .returned (.func (.func 128) #[] #[.pointer (some ⟨W.heap.size, 0, none⟩)]) ∧ w' = W.alloc (.cells #[.map mb] 94) :=
  (callsIn_wide (n := 5)).1 (AnyZI.keys_in Tryz.keysA Fence.wide 5 trivial rfl mb W)
/-- The keys' row. -/
def KeyP (D : DataW Unit) (w : World) (e : Ending) (w' : World) : Prop :=
  ∃ A c K, e = .returned (.slice A K.length c) ∧ K.length ≤ c ∧ c ≤ 9223372036854775807 ∧ K.Pairwise (· < ·) ∧ (∀ x, x ∈ K ↔ Maps.has D (.int .i64 x) = true) ∧ (∀ x ∈ K, I64 x) ∧ Sl w' (.slice A K.length c) K.length 1 (intCells K) ∧ Below w.heap.size w w'
set_option maxHeartbeats 1000000 in
theorem sorted_call (b nn : Nat) (D0 : DataW Unit) (w : World) (hown : OwnB w b nn D0) (hmax : nn < 1000000000000) :
    Calls Tryz.prog 78 #[.func (.func 128) #[] #[.pointer (some ⟨w.heap.size, 0, none⟩)]] (w.alloc (.cells #[.map (some b)] 94)) (KeyP D0 (w.alloc (.cells #[.map (some b)] 94))) := by
  have hbl := hown.lt
  have hsz : Maps.size D0 ≤ nn := hown.size_le
  have hseq : SeqGives Fence.wide 2 Tryz.prog 128 #[.pointer (some ⟨w.heap.size, 0, none⟩)] encZ (fun ss => ss.Perm (intKeys D0)) (Maps.size D0) (w.alloc (.cells #[.map (some b)] 94)) :=
    AnyZI.keys_gives (ρ := Tryz.keysA_ren) { Tryz.keysA with } Fence.wide _ trivial rfl (by omega) w.heap.size b nn D0 _ (by simp) (by simp) (by
      obtain ⟨es, clock, hb, Ft, hs, hD⟩ := hown
      exact ⟨es, clock, (Below.heap_alloc _ _ b hbl).trans hb, Ft, hs, hD⟩)
  have cS := AnyZI.sorted_in Tryz.sortedA Fence.wide 5 trivial trivial trivial trivial rfl (by omega) (sortsA _) (enters_of Tryz.func127 (by kernel_rfl) rfl) 128 #[.pointer (some ⟨w.heap.size, 0, none⟩)] trivial (enters_of Tryz.func128 (by kernel_rfl) rfl) _ _ (by unfold maxLen; omega) (by omega) _ hseq
  refine (callsIn_wide.1 cS).mono ?_
  rintro e w' ⟨v, ss, rfl, hS, hrow, _, hb⟩
  obtain ⟨k1, k2, k3, k4⟩ := keys_sorted hown hS
  have hs := Sl.of_own hrow
  have hl : (ss.mergeSort leI).length = ss.length := (List.mergeSort_perm ss leI).length_eq
  rw [← hl] at hs
  obtain ⟨A, c, rfl, h1, h2, h3⟩ := hs.form
  exact ⟨A, c, ss.mergeSort leI, rfl, h1, h2, k1, k2, k3, h3, hb⟩
/-- A queue of numbers in new memory, from block 'base' on: where it lies, what it holds. -/
structure Que (base : Nat) (w : World) (g off cap : Nat) (l : List Int) : Prop where
  base : base ≤ g
  lt : g < w.heap.size
  le : l.length ≤ cap
  max : cap ≤ 9223372036854775807
  cells : ∀ j, j < l.length → w.cell? ⟨g, off + j, none⟩ = some (.int .i64 (l.getD j 0))
  there : ∀ j, j < cap → (w.cell? ⟨g, off + j, none⟩).isSome = true ∧ w.frozen? ⟨g, off + j, none⟩ = false
theorem Que.kept {base g off cap : Nat} {w w' : World} {l : List Int} (h : Que base w g off cap l) (hs : w.heap.size ≤ w'.heap.size) (hk : w'.heap[g]? = w.heap[g]?) : Que base w' g off cap l :=
  ⟨h.base, Nat.lt_of_lt_of_le h.lt hs, h.le, h.max, fun j hj => (World.cell?_of_block (a := ⟨g, off + j, none⟩) hk).trans (h.cells j hj), fun j hj => by
    rw [World.cell?_of_block (a := ⟨g, off + j, none⟩) hk, World.frozen?_of_block (a := ⟨g, off + j, none⟩) hk]
    exact h.there j hj⟩
theorem Que.below {base g off cap : Nat} {w w' : World} {l : List Int} (h : Que base w g off cap l) (hb : Below w.heap.size w w') : Que base w' g off cap l := h.kept hb.size (hb.block g h.lt)
theorem Que.pop {base g off cap : Nat} {w : World} {x : Int} {l : List Int} (h : Que base w g off cap (x :: l)) : Que base w g (off + 1) (cap - 1) l := by
  have hle := h.le
  rw [List.length_cons] at hle
  refine ⟨h.base, h.lt, by omega, by have := h.max; omega, fun j hj => ?_, fun j hj => ?_⟩
  · have := h.cells (j + 1) (by rw [List.length_cons]; omega)
    rw [show off + 1 + j = off + (j + 1) by omega]
    exact this
  · have := h.there (j + 1) (by omega)
    rw [show off + 1 + j = off + (j + 1) by omega]
    exact this
theorem Que.emp {base g off cap off' : Nat} {w : World} {x : Int} (h : Que base w g off cap [x]) : Que base w g off' 0 [] :=
  ⟨h.base, h.lt, Nat.le_refl _, by omega, fun j hj => absurd hj (Nat.not_lt_zero _), fun j hj => absurd hj (Nat.not_lt_zero _)⟩
theorem Que.of_own {base : Nat} {w : World} {A : Option Addr} {c : Nat} {l : List Int} (h : w.ownsRow base 3 1 (.slice A l.length c) l.length (intCells l)) (hl : 0 < l.length) : ∃ g, A = some ⟨g, 0, none⟩ ∧ Que base w g 0 c l := by
  have hcs := fun g (hg : (Value.slice A l.length c).ownBlock = some g) => h.cells (g := g) hg
  have hlt := h.lt
  rcases h.2 with ⟨e, _⟩ | ⟨g, cap, cur, e, hbg, hgg, hnc, hmx, hsz, _⟩
  · injection e with _ e _
    omega
  · injection e with e1 e2 e3
    subst e1
    subst e3
    refine ⟨g, rfl, hbg, (hlt g rfl).2, hnc, by unfold maxLen at hmx; exact hmx, fun j hj => ?_, fun j hj => ?_⟩
    · have := hcs g rfl j _ (intCells_at hj)
      rwa [Go.WideShapes.add_plain] at this
    · refine ⟨?_, frozen_row2 hgg⟩
      rw [cell_of_row _ _ _ _ _ _ hgg]
      rw [Array.getElem?_eq_getElem (by omega)]
      rfl
/-- One number more. -/
theorem run_append_que {w : World} {base g off cap : Nat} {l : List Int} (hQ : Que base w g off cap l) (ty : TypeId) (x : Int) (ga : Nat) (hx : w.cell? ⟨ga, 0, none⟩ = some (.int .i64 x)) (hlen : l.length < 1000000000) (c : Nat) :
    ∃ g' off' cap' w', (Builtin.append_ #[36, 36] ty #[.slice (some ⟨g, off, none⟩) l.length cap, .slice (some ⟨ga, 0, none⟩) 1 c]).run Tryz.prog w = .ok (.slice (some ⟨g', off', none⟩) (l ++ [x]).length cap') w' ∧
      Que base w' g' off' cap' (l ++ [x]) ∧ w.grownBy w' (some g) ∧ (g' = g ∨ w.heap.size ≤ g') := by
  obtain ⟨i, z, ht, hi, hz, hsize, hby, hzs, hsz⟩ := ints_ty1
  have hnews : ∀ j u, [Value.int .i64 x][j]? = some u → w.cell? ((⟨ga, 0, none⟩ : Addr).add j) = some u := by
    intro j u hu
    have hj : j = 0 := by have := (List.getElem?_eq_some_iff.1 hu).1; simp at this; omega
    subst hj
    rw [Go.WideShapes.add_plain]
    rw [← hu]
    exact hx
  have hll : (l ++ [x]).length = l.length + 1 := by simp
  by_cases hroom : l.length + 1 ≤ cap
  · have hr := run_append_room_cells (P := Tryz.prog) w 36 ty 3 i ht hi g off l.length cap ⟨ga, 0, none⟩ 1 c [.int .i64 x] (by rw [hsize]; rfl) hnews (one_int x) hroom
      (fun j hj => by have hj0 : j = 0 := by simp at hj; omega
                      subst hj0
                      rw [hsize, Nat.mul_one, Nat.add_zero]
                      exact (hQ.there l.length (by omega)).1)
      (fun j hj => by have hj0 : j = 0 := by simp at hj; omega
                      subst hj0
                      rw [hsize, Nat.mul_one, Nat.add_zero]
                      exact (hQ.there l.length (by omega)).2)
    rw [hsize, Nat.mul_one] at hr
    have hset : w.setCells g (off + l.length) [.int .i64 x] = w.setCell ⟨g, off + l.length, none⟩ (.int .i64 x) := rfl
    rw [hset] at hr
    refine ⟨g, off, cap, w.setCell ⟨g, off + l.length, none⟩ (.int .i64 x), by rw [hll]; exact hr, ⟨hQ.base, by simpa [World.setCell] using hQ.lt, by rw [hll]; exact hroom, hQ.max, fun j hj => ?_, fun j hj => ?_⟩, ⟨rfl, rfl, rfl, by simp [World.setCell], fun k _ hn => Below.heap_setCell _ _ _ k (by rintro rfl; exact hn rfl)⟩, .inl rfl⟩
    · rw [hll] at hj
      by_cases e : j = l.length
      · subst e
        obtain ⟨u, hu⟩ := Option.isSome_iff_exists.1 (hQ.there l.length (by omega)).1
        rw [World.cell?_setCell_same w _ _ hu]
        simp [List.getD]
      · rw [World.cell?_setCell_other w _ _ _ (by intro h; injection h with _ h; omega), hQ.cells j (by omega), show (l ++ [x]).getD j 0 = l.getD j 0 by simp [List.getD, List.getElem?_append_left (show j < l.length by omega)]]
    · rw [World.frozen?_setCell]
      refine ⟨?_, (hQ.there j hj).2⟩
      by_cases e : j = l.length
      · subst e
        obtain ⟨u, hu⟩ := Option.isSome_iff_exists.1 (hQ.there l.length hj).1
        rw [World.cell?_setCell_same w _ _ hu]
        rfl
      · rw [World.cell?_setCell_other w _ _ _ (by intro h; injection h with _ h; omega)]
        exact (hQ.there j hj).1
  · obtain ⟨v', w', hr, ho, hg⟩ := run_append_arg_grows (P := Tryz.prog) w 36 ty 3 i z 1 8 ht hi hz hsize hby hzs hsz ⟨g, off, none⟩ l.length cap (intCells l) (by rw [intCells_len]; omega) (fun j u hu => by
      have hj : j < l.length := by have := (List.getElem?_eq_some_iff.1 hu).1; rwa [intCells_len] at this
      rw [Go.WideShapes.add_plain, hQ.cells j hj, ← intCells_at hj]
      exact hu) ⟨ga, 0, none⟩ 1 c [.int .i64 x] rfl hnews (by omega) (by unfold maxLen; omega) (by omega)
    rw [← intCells_snoc, ← hll] at ho
    obtain ⟨A, c', rfl, _, _⟩ := (Sl.of_own ho).form
    obtain ⟨g', rfl, hq⟩ := Que.of_own ho (by rw [hll]; omega)
    exact ⟨g', 0, c', w', hr, ⟨Nat.le_trans (Nat.le_of_lt (Nat.lt_of_le_of_lt hQ.base hQ.lt)) hq.base, hq.lt, hq.le, hq.max, hq.cells, hq.there⟩, ⟨hg.os, hg.tape, hg.output, hg.size, fun k hk _ => hg.block k hk (by intro h; cases h)⟩, .inr hq.base⟩
theorem wpList_append_que {ops : Array Oper} {rest : List Oper} {o : Oper} {a : Act} {Q : Exit → Act → World → Prop} {w : World} (hgd : o.guard = none) (s y : Operand)
    (ho : o.op = .call { callee := .builtin .append, args := #[s, y], argTypes := #[36, 36] }) {base g off cap : Nat} {l : List Int} (hs : a.eval s = .slice (some ⟨g, off, none⟩) l.length cap) (hQ : Que base w g off cap l)
    (x : Int) (ga c : Nat) (hy : a.eval y = .slice (some ⟨ga, 0, none⟩) 1 c) (hx : w.cell? ⟨ga, 0, none⟩ = some (.int .i64 x)) (hlen : l.length < 1000000000)
    (h : ∀ g' off' cap' w', Que base w' g' off' cap' (l ++ [x]) → w.grownBy w' (some g) → (g' = g ∨ w.heap.size ≤ g') → wpList Tryz.prog ops Q rest (a.put o.dst (.slice (some ⟨g', off', none⟩) (l ++ [x]).length cap')) w') : wpList Tryz.prog ops Q (o :: rest) a w :=
  wpList_plain hgd fun K hK => by
    obtain ⟨g', off', cap', w', hrun, h2, h3, h4⟩ := run_append_que hQ o.type x ga hx hlen c
    unfold Oper.wp execOp
    simp only [ho, resolve, invoke, builtin, Sem.run_bind, Sem.run_pure, Result.andThen_ok, List.map_toArray, List.map_cons, List.map_nil, hs, hy, hrun]
    exact hK _ _ (h g' off' cap' w' h2 h3 h4)
end Go.Proofs.YtaeeblceedklnaaGreatDoor
