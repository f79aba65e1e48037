/- Contracts of package bag: (counts).bag: the keys of a map, sorted. -/
import Derived.Test.YtajcleobmgjhoaaGreatDoorBagB
import Derived.Test.YtajcleobmgjhoaaGreatDoorShelf
namespace Go.Proofs.YtajcleobmgjhoaaGreatDoor
open Go.RowKit
section
variable {w : World} {b n : Nat} {D : DataW Unit}
theorem intKeys_mem (h : OwnI w b n D) (x : Int) : x ∈ intKeys D ↔ Maps.has D (.int .i64 x) = true := by
  obtain ⟨es, rfl, hko⟩ := h.keysOf
  constructor
  · intro hx
    obtain ⟨p, hp, e⟩ := List.mem_map.1 hx
    obtain ⟨v, hv⟩ := hko p hp
    obtain ⟨y, _, hy, _⟩ := Maps.keyOf_i64 Tryz.underlying3 hv
    rw [hy] at e
    have e' : y = x := e
    subst e'
    exact List.any_eq_true.2 ⟨p, hp, by rw [hy]; exact WideAt.sameKey_self (show WideAt.IsKeyLit (Lit.int .i64 y) from trivial)⟩
  · intro hh
    obtain ⟨p, hp, hs⟩ := List.any_eq_true.1 hh
    have e := WideAt.sameKey_eq hs
    exact List.mem_map.2 ⟨p, hp, by rw [e]; rfl⟩
theorem intKeys_nodup (h : OwnI w b n D) : (intKeys D).Nodup := by
  obtain ⟨es, hD, hpw, _⟩ := h.entries keyI
  obtain ⟨es', hD', hko⟩ := h.keysOf
  obtain rfl : es = es' := by rw [hD] at hD'; simpa using hD'
  subst hD
  show (es.map _).Nodup
  rw [List.Nodup, List.pairwise_map]
  refine hpw.imp_of_mem fun {p q} hp hq hne e => hne ?_
  obtain ⟨v, hv⟩ := hko p hp
  obtain ⟨y, _, hy, _⟩ := Maps.keyOf_i64 Tryz.underlying3 hv
  obtain ⟨v', hv'⟩ := hko q hq
  obtain ⟨y', _, hy', _⟩ := Maps.keyOf_i64 Tryz.underlying3 hv'
  rw [hy, hy'] at e ⊢
  have e' : y = y' := e
  rw [e']
theorem intKeys_len (h : OwnI w b n D) : (intKeys D).length ≤ n := by
  have h1 := h.size_le
  obtain ⟨es, rfl, _⟩ := h.keysOf
  simpa [intKeys, Maps.size] using h1
/-- The keys, sorted. -/
theorem keys_sorted (h : OwnI w b n D) {ss : List Int} (hp : ss.Perm (intKeys D)) : (ss.mergeSort leI).Pairwise (· < ·) ∧ (∀ x, x ∈ ss.mergeSort leI ↔ Maps.has D (.int .i64 x) = true) ∧ (∀ x ∈ ss.mergeSort leI, I64 x) ∧ (ss.mergeSort leI).length ≤ n := by
  have tr : ∀ a b c : Int, leI a b = true → leI b c = true → leI a c = true := fun a b c h1 h2 => by simp only [leI, decide_eq_true_eq] at *; exact Int.le_trans h1 h2
  have tt : ∀ a b : Int, (leI a b || leI b a) = true := fun a b => by simp only [leI, Bool.or_eq_true, decide_eq_true_eq]; exact Int.le_total a b
  have hq := (List.mergeSort_perm ss leI).trans hp
  have hnd : (ss.mergeSort leI).Nodup := hq.nodup_iff.2 (intKeys_nodup h)
  have hso := List.pairwise_mergeSort tr tt ss
  refine ⟨?_, fun x => by rw [hq.mem_iff, intKeys_mem h], fun x hx => ?_, by rw [hq.length_eq]; exact intKeys_len h⟩
  · refine (hso.and hnd).imp fun {x y} hxy => ?_
    have h1 := hxy.1
    have h2 := hxy.2
    simp only [leI, decide_eq_true_eq] at h1
    omega
  · exact wf_i64 (intKeys_wf h Tryz.underlying3 x (hq.mem_iff.1 hx))
end
/-- slices.Sort's two contracts, at the fence that asks nothing. -/
theorem sortsA (m : Nat) : AnyZI.SortsIn Tryz.prog Tryz.sortedA_ren Fence.wide m :=
  ⟨fun blk off cap ss W hH hblk hsz => callsIn_wide.2 (AnyM.slices_Sort_int Tryz.sortA blk off cap ss W hH hblk hsz),
   fun p cap W => callsIn_wide.2 (AnyM.slices_Sort_int_none Tryz.sortA p cap W)⟩
theorem keys_call (mb : Option Nat) (W : World) : Calls Tryz.prog 66 #[.map mb] W fun e w' => e = .returned (.func (.func 76) #[] #[.pointer (some ⟨W.heap.size, 0, none⟩)]) ∧ w' = W.alloc (.cells #[.map mb] 76) :=
  (callsIn_wide (n := 5)).1 (AnyZI.keys_in Tryz.keysA Fence.wide 5 trivial rfl mb W)
/-- The keys' row. -/
def KeyP (D : DataW Unit) (w : World) (e : Ending) (w' : World) : Prop :=
  ∃ A c K, e = .returned (.slice A K.length c) ∧ K.length ≤ c ∧ c ≤ 9223372036854775807 ∧ K.Pairwise (· < ·) ∧ (∀ x, x ∈ K ↔ Maps.has D (.int .i64 x) = true) ∧ (∀ x ∈ K, I64 x) ∧ Sl w' (.slice A K.length c) K.length 1 (intCells K) ∧ Below w.heap.size w w'
set_option maxRecDepth 100000 in
set_option maxHeartbeats 1000000 in
theorem sorted_call (b nn : Nat) (D0 : DataW Unit) (w : World) (hown : OwnI w b nn D0) (hmax : nn < 1000000000000) :
    Calls Tryz.prog 65 #[.func (.func 76) #[] #[.pointer (some ⟨w.heap.size, 0, none⟩)]] (w.alloc (.cells #[.map (some b)] 76)) (KeyP D0 (w.alloc (.cells #[.map (some b)] 76))) := by
  have hbl := hown.lt
  have hsz : Maps.size D0 ≤ nn := hown.size_le
  have hseq : SeqGives Fence.wide 2 Tryz.prog 76 #[.pointer (some ⟨w.heap.size, 0, none⟩)] encZ (fun ss => ss.Perm (intKeys D0)) (Maps.size D0) (w.alloc (.cells #[.map (some b)] 76)) :=
    AnyZI.keys_gives (ρ := Tryz.keysA_ren) { Tryz.keysA with } Fence.wide _ trivial rfl (by omega) w.heap.size b nn D0 _ (by simp) (by simp) (by
      obtain ⟨es, clock, hb, Ft, hs, hD⟩ := hown
      exact ⟨es, clock, (Below.heap_alloc _ _ b hbl).trans hb, Ft, hs, hD⟩)
  have cS := AnyZI.sorted_in Tryz.sortedA Fence.wide 5 trivial trivial trivial trivial rfl (by omega) (sortsA _) (enters_of Tryz.func75 (by kernel_rfl) rfl) 76 #[.pointer (some ⟨w.heap.size, 0, none⟩)] trivial (enters_of Tryz.func76 (by kernel_rfl) rfl) _ _ (by unfold maxLen; omega) (by omega) _ hseq
  refine (callsIn_wide.1 cS).mono ?_
  rintro e w' ⟨v, ss, rfl, hS, hrow, _, hb⟩
  obtain ⟨k1, k2, k3, k4⟩ := keys_sorted hown hS
  have hs := Sl.of_own hrow
  have hl : (ss.mergeSort leI).length = ss.length := (List.mergeSort_perm ss leI).length_eq
  rw [← hl] at hs
  obtain ⟨A, c, rfl, h1, h2, h3⟩ := hs.form
  exact ⟨A, c, ss.mergeSort leI, rfl, h1, h2, k1, k2, k3, h3, hb⟩
end Go.Proofs.YtajcleobmgjhoaaGreatDoor
