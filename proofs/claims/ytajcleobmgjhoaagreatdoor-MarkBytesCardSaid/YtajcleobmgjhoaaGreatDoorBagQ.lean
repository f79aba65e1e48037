/- Plain laws of bags; contracts in the cases that laws meet. -/
import Derived.Test.YtajcleobmgjhoaaGreatDoorBagN
namespace Go.Proofs.YtajcleobmgjhoaaGreatDoor
open Go.RowKit
theorem withR_iff {a b : Row} (ha : Ok a) (hb : Ok b) : withR a b = true ↔ ∀ k, getM a k ≤ getM b k := by
  unfold withR
  rw [(rightB_iff a).2 ha, (rightB_iff b).2 hb, Bool.and_self, Bool.true_and, inM_iff]
  constructor
  · intro h k
    by_cases h0 : getM a k = 0
    · rw [h0]; exact (hb.nonneg k).1
    · exact h _ (mem_getM h0)
  · intro h p hp
    rw [← getM_mem ha.1 hp]
    exact h p.1
theorem inM_of {a : Row} (ha : Ok a) {g : Int → Int} (h : ∀ k, getM a k ≤ g k) : inM a g = true := inM_iff.2 fun p hp => by rw [← getM_mem ha.1 hp]; exact h p.1
theorem fullB_iff {a b : Row} (ha : Ok a) (hb : Ok b) : fullB a b = true ↔ ∃ k, 1048576 < getM a k + getM b k := by
  unfold fullB
  rw [List.any_eq_true]
  constructor
  · rintro ⟨p, hp, h⟩
    exact ⟨p.1, by rw [getM_mem hb.1 hp]; simpa using h⟩
  · rintro ⟨k, h⟩
    have := ha.nonneg k
    exact ⟨_, mem_getM (M := b) (k := k) (by omega), by simpa using h⟩
theorem full_comm {a b : Row} (ha : Ok a) (hb : Ok b) : fullB a b = fullB b a := by
  rw [Bool.eq_iff_iff, fullB_iff ha hb, fullB_iff hb ha]
  constructor <;> (rintro ⟨k, h⟩; exact ⟨k, by omega⟩)
theorem most_ok {a b M : Row} (ha : Ok a) (hb : Ok b) (h : RowG M (mostG a b)) : Ok M ∧ ∀ k, getM M k = max (getM a k) (getM b k) := by
  refine ⟨h.ok (fun k hk => ?_) (fun k => ?_), fun k => h.get (fun k => ?_) k⟩
  · unfold mostG at hk
    have h1 := ha.nonneg k
    have h2 := hb.nonneg k
    by_cases h0 : getM a k = 0
    · exact hb.key (k := k) (by omega)
    · exact ha.key h0
  · unfold mostG
    have h1 := ha.nonneg k
    have h2 := hb.nonneg k
    omega
  · unfold mostG
    have h1 := ha.nonneg k
    have h2 := hb.nonneg k
    omega
theorem sum_ok {a b M : Row} (ha : Ok a) (hb : Ok b) (hf : fullB a b = false) (h : RowG M (sumG a b)) : Ok M ∧ ∀ k, getM M k = getM a k + getM b k := by
  refine ⟨h.ok (fun k hk => ?_) (fun k => ?_), fun k => h.get (fun k => ?_) k⟩
  · unfold sumG at hk
    have h1 := ha.nonneg k
    have h2 := hb.nonneg k
    by_cases h0 : getM a k = 0
    · exact hb.key (k := k) (by omega)
    · exact ha.key h0
  · rcases Int.lt_or_le 1048576 (sumG a b k) with h1 | h1
    · have := (fullB_iff ha hb).2 ⟨k, h1⟩
      rw [hf] at this; cases this
    · exact h1
  · unfold sumG
    have h1 := ha.nonneg k
    have h2 := hb.nonneg k
    omega
theorem row_eq {a N : Row} (ha : Ok a) (h : RowG N (mostG a a)) : N = a := by
  refine h.uniq ?_
  have e : mostG a a = getM a := funext fun k => by unfold mostG; omega
  rw [e]; exact ha.row
theorem sameR_self {a : Row} (ha : Ok a) : sameR a a = true := by
  unfold sameR; rw [(rightB_iff a).2 ha]; simp
theorem sameR_eq {a b : Row} (ha : Ok a) (hb : Ok b) : sameR a b = decide (a = b) := by
  unfold sameR; rw [(rightB_iff a).2 ha, (rightB_iff b).2 hb]; simp
/-- The sum over members. -/
def sumK (K : List Int) (g : Int → Int) : Int := (K.map g).sum
theorem sumK_add (K : List Int) (f g : Int → Int) : sumK K (fun k => f k + g k) = sumK K f + sumK K g := by
  unfold sumK
  induction K with
  | nil => rfl
  | cons x r ih => simp only [List.map_cons, List.sum_cons, ih]; omega
theorem sumK_zero (K : List Int) {f : Int → Int} (h : ∀ k ∈ K, f k = 0) : sumK K f = 0 := by
  unfold sumK
  induction K with
  | nil => rfl
  | cons x r ih => simp only [List.map_cons, List.sum_cons, h x (by simp), ih fun k hk => h k (by simp [hk])]; omega
theorem sumK_one {x v : Int} : ∀ {K : List Int}, K.Nodup → x ∈ K → sumK K (fun k => if k = x then v else 0) = v
  | y :: r, hn, hx => by
    obtain ⟨h1, h2⟩ := List.nodup_cons.1 hn
    unfold sumK
    rw [List.map_cons, List.sum_cons]
    by_cases e : y = x
    · subst e
      have := sumK_zero r (f := fun k => if k = y then v else 0) fun k hk => if_neg fun (e : k = y) => h1 (e ▸ hk)
      unfold sumK at this
      rw [this]; simp
    · rcases List.mem_cons.1 hx with rfl | hx
      · exact absurd rfl e
      · have := sumK_one (v := v) h2 hx
        unfold sumK at this
        rw [this, if_neg e]; omega
theorem totM_sumK {K : List Int} (hK : K.Nodup) : ∀ {M : Row}, Srt M → (∀ p ∈ M, p.1 ∈ K) → totM M = sumK K (getM M)
  | [], _, _ => (sumK_zero K (f := getM []) fun _ _ => rfl).symm
  | p :: r, hs, hm => by
    obtain ⟨h1, h2⟩ := List.pairwise_cons.1 hs
    have e : getM (p :: r) = fun k => (if k = p.1 then p.2 else 0) + getM r k := by
      funext k
      rw [getM]
      by_cases hk : p.1 = k
      · rw [if_pos hk, if_pos hk.symm, getM_not fun q hq => by have := h1 q hq; omega]; omega
      · rw [if_neg hk, if_neg fun e => hk e.symm]; omega
    rw [e, sumK_add, sumK_one hK (hm p (by simp)), totM, totM_sumK hK h2 fun q hq => hm q (by simp [hq])]
theorem Srt.keys {M : Row} (h : Srt M) : (M.map (·.1)).Nodup := by
  unfold List.Nodup
  rw [List.pairwise_map]
  exact h.imp fun h e => by omega
theorem tot_sum {a b M : Row} (ha : Ok a) (hb : Ok b) (hM : Ok M) (h : ∀ k, getM M k = getM a k + getM b k) : totR M = totR a + totR b := by
  unfold totR
  rw [(rightB_iff M).2 hM, (rightB_iff a).2 ha, (rightB_iff b).2 hb, if_pos rfl, if_pos rfl, if_pos rfl]
  have hm : ∀ k, 0 < getM M k → k ∈ M.map (·.1) := fun k hk => getM_pos (by omega)
  rw [totM_sumK hM.1.keys hM.1 fun p hp => List.mem_map.2 ⟨p, hp, rfl⟩, totM_sumK hM.1.keys ha.1 fun p hp => ?_, totM_sumK hM.1.keys hb.1 fun p hp => ?_, ← sumK_add]
  · congr 1
    funext k
    exact h k
  · refine hm _ ?_
    rw [h, getM_mem hb.1 hp]
    have := hb.2 p hp
    have := ha.nonneg p.1
    omega
  · refine hm _ ?_
    rw [h, getM_mem ha.1 hp]
    have := ha.2 p hp
    have := hb.nonneg p.1
    omega
theorem tot_bound {a : Row} (ha : Ok a) : 0 ≤ totR a ∧ totR a ≤ a.length * 1048576 := by
  unfold totR
  rw [if_pos ((rightB_iff a).2 ha), ← doneM_end (left := fun _ => false) (fun _ => rfl) a]
  exact doneM_bound fun p hp => by have := ha.2 p hp; omega
theorem Cmp.swap {f g : Int → Int} {z : Int} (h : Cmp f g z) : Cmp g f (-z) := by
  rcases h with ⟨rfl, h⟩ | ⟨k, h1, h2, rfl⟩
  · exact .inl ⟨rfl, fun k => (h k).symm⟩
  · refine .inr ⟨k, fun e => h1 e.symm, fun j hj => (h2 j hj).symm, ?_⟩
    by_cases h3 : f k < g k
    · rw [if_pos h3, if_neg (by omega)]; rfl
    · rw [if_neg h3, if_pos (by omega)]
theorem Cmp.zero {f g : Int → Int} {z : Int} (h : Cmp f g z) : z = 0 ↔ ∀ k, f k = g k := by
  rcases h with ⟨rfl, h⟩ | ⟨k, h1, h2, rfl⟩
  · simp [h]
  · constructor
    · intro h; split at h <;> cases h
    · intro h; exact absurd (h k) h1
theorem Cmp.val {f g : Int → Int} {z : Int} (h : Cmp f g z) : z = 0 ∨ z = 1 ∨ z = -1 := by
  rcases h with ⟨rfl, h⟩ | ⟨k, h1, h2, rfl⟩
  · simp
  · split <;> simp
theorem Cmp.neg_iff {f g : Int → Int} {z : Int} (h : Cmp f g z) : z < 0 ↔ ∃ k, f k < g k ∧ ∀ j, j < k → f j = g j := by
  rcases h with ⟨rfl, h⟩ | ⟨k, h1, h2, rfl⟩
  · constructor
    · intro h; omega
    · rintro ⟨k, h1, _⟩; have := h k; omega
  · constructor
    · intro h
      split at h
      · exact ⟨k, by assumption, h2⟩
      · omega
    · rintro ⟨j, h3, h4⟩
      have : k = j := by
        rcases Int.lt_trichotomy k j with hlt | rfl | hlt
        · exact absurd (h4 k hlt) h1
        · rfl
        · have := h2 j hlt; omega
      subst this
      rw [if_pos h3]; omega
theorem Cmp.trans {f g h : Int → Int} {x y z : Int} (h1 : Cmp f g x) (h2 : Cmp g h y) (h3 : Cmp f h z) (hx : x < 0) (hy : y < 0) : z < 0 := by
  obtain ⟨k, a, b⟩ := h1.neg_iff.1 hx
  obtain ⟨j, c, d⟩ := h2.neg_iff.1 hy
  refine h3.neg_iff.2 ?_
  rcases Int.lt_trichotomy k j with hlt | rfl | hlt
  · exact ⟨k, by rw [← d k hlt]; exact a, fun i hi => (b i hi).trans (d i (by omega))⟩
  · exact ⟨k, by omega, fun i hi => (b i hi).trans (d i hi)⟩
  · exact ⟨j, by rw [b j hlt]; exact c, fun i hi => (b i (by omega)).trans (d i hi)⟩
theorem Cmp.add {f g f' g' h : Int → Int} {z : Int} (hc : Cmp f g z) (hf : ∀ k, f' k = f k + h k) (hg : ∀ k, g' k = g k + h k) : Cmp f' g' z := by
  rcases hc with ⟨rfl, hc⟩ | ⟨k, h1, h2, rfl⟩
  · exact .inl ⟨rfl, fun k => by rw [hf, hg, hc]⟩
  · refine .inr ⟨k, by rw [hf, hg]; omega, fun j hj => by rw [hf, hg, h2 j hj], ?_⟩
    rw [hf, hg]
    by_cases h3 : f k < g k
    · rw [if_pos h3, if_pos (by omega)]
    · rw [if_neg h3, if_neg (by omega)]
theorem Cmp.le {f g : Int → Int} {z : Int} (h : Cmp f g z) (hle : ∀ k, f k ≤ g k) : z ≤ 0 := by
  rcases h with ⟨rfl, _⟩ | ⟨k, h1, _, rfl⟩
  · omega
  · have := hle k
    rw [if_pos (by omega)]; omega
section
variable {w : World} {a b : Row} {A B : Option Addr} {n m c d : Nat}
theorem gotMost (hA : Sl w (.slice A n c) n 2 (pairCells a)) (hi : I64s a) (hB : Sl w (.slice B m d) m 2 (pairCells b)) (hj : I64s b) (hn : n < 100000000000) (hm : m < 100000000000) (ha : Ok a) (hb : Ok b) :
    Calls Tryz.prog 53 #[.slice A n c, .slice B m d] w fun e w' => ∃ A' c' M k, e = .returned (.slice A' k c') ∧ k = M.length ∧ k ≤ a.length + b.length ∧ RowG M (mostG a b) ∧ I64s M ∧ Sl w' (.slice A' k c') k 2 (pairCells M) ∧ Below w.heap.size w w' := by
  refine (bag_Most A n c a B m d b w hA hi hn hB hj hm).mono ?_
  rintro e w' ⟨hb2, ⟨h, _⟩ | ⟨_, v, rfl, A', c', M, rfl, h1, h2, h3, h4⟩⟩
  · rw [(rightB_iff a).2 ha, (rightB_iff b).2 hb] at h; cases h
  · exact ⟨A', c', M, _, rfl, rfl, h3, h1, h2, Sl.of_own h4, hb2⟩
theorem gotSum (hA : Sl w (.slice A n c) n 2 (pairCells a)) (hi : I64s a) (hB : Sl w (.slice B m d) m 2 (pairCells b)) (hj : I64s b) (hn : n < 100000000000) (hm : m < 100000000000) (ha : Ok a) (hb : Ok b) (hf : fullB a b = false) :
    Calls Tryz.prog 41 #[.slice A n c, .slice B m d] w fun e w' => ∃ A' c' M k, e = .returned (.tuple #[.slice A' k c', .int .i64 0]) ∧ k = M.length ∧ k ≤ a.length + b.length ∧ RowG M (sumG a b) ∧ I64s M ∧ Sl w' (.slice A' k c') k 2 (pairCells M) ∧ Below w.heap.size w w' := by
  refine (bag_Sum A n c a B m d b w hA hi hn hB hj hm).mono ?_
  rintro e w' ⟨hb2, ⟨h, _⟩ | ⟨_, h, _⟩ | ⟨_, _, v, rfl, A', c', M, rfl, h1, h2, h3, h4⟩⟩
  · rw [(rightB_iff a).2 ha, (rightB_iff b).2 hb] at h; cases h
  · rw [hf] at h; cases h
  · exact ⟨A', c', M, _, rfl, rfl, h3, h1, h2, Sl.of_own h4, hb2⟩
theorem gotFull (hA : Sl w (.slice A n c) n 2 (pairCells a)) (hi : I64s a) (hB : Sl w (.slice B m d) m 2 (pairCells b)) (hj : I64s b) (hn : n < 100000000000) (hm : m < 100000000000) (ha : Ok a) (hb : Ok b) (hf : fullB a b = true) :
    Calls Tryz.prog 41 #[.slice A n c, .slice B m d] w fun e w' => e = .returned (.tuple #[.slice none 0 0, .int .i64 2]) ∧ Below w.heap.size w w' := by
  refine (bag_Sum A n c a B m d b w hA hi hn hB hj hm).mono ?_
  rintro e w' ⟨hb2, ⟨h, _⟩ | ⟨_, h, rfl⟩ | ⟨_, h, _⟩⟩
  · rw [(rightB_iff a).2 ha, (rightB_iff b).2 hb] at h; cases h
  · exact ⟨rfl, hb2⟩
  · rw [hf] at h; cases h
theorem gotCompare (hA : Sl w (.slice A n c) n 2 (pairCells a)) (hi : I64s a) (hB : Sl w (.slice B m d) m 2 (pairCells b)) (hj : I64s b) (hn : n < 100000000000) (hm : m < 100000000000) (ha : Ok a) (hb : Ok b) :
    Calls Tryz.prog 32 #[.slice A n c, .slice B m d] w fun e w' => ∃ z, e = .returned (.int .i64 z) ∧ Cmp (getM a) (getM b) z ∧ Below w.heap.size w w' := by
  refine (bag_Compare A n c a B m d b w hA hi hn hB hj hm).mono ?_
  rintro e w' ⟨⟨z', rfl, ⟨h, _⟩ | ⟨_, h⟩⟩, hb2⟩
  · rw [(rightB_iff a).2 ha, (rightB_iff b).2 hb] at h; cases h
  · exact ⟨z', rfl, h, hb2⟩
end
end Go.Proofs.YtajcleobmgjhoaaGreatDoor
