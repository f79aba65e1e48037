/- What comes in: bytes, a net; the reach of a marking's bags. -/
import Derived.Test.YtajcleobmgjhoaaGreatDoorMarkQ
import Derived.Test.YtajcleobmgjhoaaGreatDoorMarkG
import Derived.Test.YtajcleobmgjhoaaGreatDoorMarkC
import Derived.Lib.SmallJoins
namespace Go.Proofs.YtajcleobmgjhoaaGreatDoor
open _root_.Go.ChangeShapes _root_.Go.WideShapes _root_.Go.ChangeAt _root_.Go.RowKit _root_.Go.Deep
theorem reach_z {P : Program} {ea : TypeId} {bs : List Bg} (h : ∀ b ∈ bs, b.n * P.bytesOf ea ≤ reachBytes) (hb : P.bytesOf ea = 16) : ∀ b ∈ bs, b.n ≤ 8796093022208 := fun b hm => by
  have h1 := h b hm
  rw [hb] at h1
  have h2 : reachBytes = 140737488351232 := rfl
  omega
theorem wf_u8 {x : Int} (h : (Lit.int .u8 x).wf = true) : 0 ≤ x ∧ x ≤ 255 := by
  have hmin : IntKind.u8.min = 0 := rfl
  have hmax : IntKind.u8.max = 255 := rfl
  simp only [Lit.wf, Bool.and_eq_true, decide_eq_true_eq, hmin, hmax] at h
  exact h
section
variable {H : Type} {enc : TypeId × Value → H} {P : Program} {W : World} {base b0 : Nat} {spare : Nat → Bool} {held : Bool} {r : Reach}
theorem open_u8s_sl {t e : TypeId} {v : Value} {d : DataW H} {p : List MemPlace} (ht : P.underlying t = some (.slice e)) (he : P.underlying e = some (.int .u8)) (hc : P.cellsOf e = 1)
    (hv : Value.okWide P W r b0 t v) (h : DataW.Trod enc P W base spare held t v d p) :
    ∃ A n c l, v = .slice A n c ∧ Sl W (.slice A n c) n 1 (u8Cells l) ∧ U8s l := by
  obtain ⟨A, n, c, rfl⟩ := okWide_slice ht hv
  obtain ⟨fuel, hf⟩ := h
  rcases open_ints ht he hc hf with ⟨hcs, _⟩ | ⟨a, len, cap, zs, hcs, _, hl, hm, hz, _, hcell, hwz⟩
  · simp [Value.cells] at hcs
    obtain ⟨rfl, rfl, rfl⟩ := hcs
    exact ⟨none, 0, 0, [], rfl, Sl.none_ W 1, fun x hx => by cases hx⟩
  · simp [Value.cells] at hcs
    obtain ⟨rfl, rfl, rfl⟩ := hcs
    have hzl : n ≤ zs.length := by rw [hz]; split <;> omega
    refine ⟨_, _, _, zs.take n, rfl, ⟨_, _, rfl, hl, by unfold maxLen at hm; exact hm, by simp [u8Cells]; omega, fun hn => ?_⟩, fun x hx => wf_u8 (hwz x (List.mem_of_mem_take hx))⟩
    obtain ⟨b, off, rfl, hc⟩ := ints_at hcell (by omega)
    refine ⟨b, off, rfl, fun j u hu => ?_⟩
    simp only [u8Cells, List.getElem?_map, List.getElem?_take] at hu
    split at hu
    · rename_i hjn
      rw [hc j (by omega)]
      rw [List.getElem?_eq_getElem (by omega)] at hu
      simp only [Option.map_some, Option.some.injEq] at hu
      rw [← hu]
      simp [List.getD, List.getElem?_eq_getElem (show j < zs.length by omega)]
    · simp at hu
end
end Go.Proofs.YtajcleobmgjhoaaGreatDoor
