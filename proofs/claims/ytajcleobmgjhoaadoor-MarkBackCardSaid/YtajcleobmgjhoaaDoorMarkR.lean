/- Plain laws of markings: Compare, Same, Within. -/
import Derived.Test.YtajcleobmgjhoaaDoorMarkQ
import Derived.Test.YtajcleobmgjhoaaDoorMarkB
import Derived.Test.YtajcleobmgjhoaaDoorBagQ
namespace Go.Proofs.YtajcleobmgjhoaaDoor
open Go.RowKit
def OkL (M : List Row) : Prop := ∀ r ∈ M, Ok r
theorem OkL.cons {a : Row} {M : List Row} (h : OkL (a :: M)) : Ok a ∧ OkL M := ⟨h a (by simp), fun r hr => h r (List.mem_cons_of_mem _ hr)⟩
theorem CmpR.ok {a b : Row} {z : Int} (h : CmpR a b z) (ha : Ok a) (hb : Ok b) : Cmp (getM a) (getM b) z := by
  rcases h with ⟨h, _⟩ | ⟨_, h⟩
  · rw [(rightB_iff a).2 ha, (rightB_iff b).2 hb] at h; cases h
  · exact h
theorem CmpL.swap : ∀ {a b : List Row} {z y : Int}, OkL a → OkL b → CmpL a b z → CmpL b a y → y = -z
  | [], [], z, y, _, _, h, h2 => by
    have e1 : z = 0 := h
    have e2 : y = 0 := h2
    omega
  | [], _ :: _, _, _, _, _, h, _ => h.elim
  | _ :: _, [], _, _, _, _, h, _ => h.elim
  | a :: r, b :: s, z, y, ha, hb, h, h2 => by
    obtain ⟨u, hu, h3⟩ := h
    obtain ⟨v, hv, h4⟩ := h2
    have e := (hv.ok hb.cons.1 ha.cons.1).uniq (hu.ok ha.cons.1 hb.cons.1).swap
    rcases h3 with ⟨n1, e1⟩ | ⟨n1, h3⟩ <;> rcases h4 with ⟨n2, e2⟩ | ⟨n2, h4⟩
    · omega
    · omega
    · omega
    · exact CmpL.swap ha.cons.2 hb.cons.2 h3 h4
theorem CmpL.same : ∀ {a b : List Row} {z : Int}, OkL a → OkL b → CmpL a b z → (z = 0 ↔ allF sameR a b = true)
  | [], [], z, _, _, h => by
    have e : z = 0 := h
    simp [e, allF]
  | [], _ :: _, _, _, _, h => h.elim
  | _ :: _, [], _, _, _, h => h.elim
  | a :: r, b :: s, z, ha, hb, h => by
    obtain ⟨u, hu, h3⟩ := h
    have hc := hu.ok ha.cons.1 hb.cons.1
    have hs : (u = 0 ↔ sameR a b = true) := by
      rw [hc.zero, sameR_eq ha.cons.1 hb.cons.1, decide_eq_true_eq]
      exact ⟨fun h => ha.cons.1.eq_of hb.cons.1 h, fun h k => by rw [h]⟩
    unfold allF
    rw [Bool.and_eq_true]
    rcases h3 with ⟨n1, e1⟩ | ⟨n1, h3⟩
    · rw [e1]
      exact ⟨fun h => absurd h n1, fun h => hs.2 h.1⟩
    · rw [CmpL.same ha.cons.2 hb.cons.2 h3]
      exact ⟨fun h => ⟨hs.1 n1, h⟩, fun h => h.2⟩
theorem CmpL.val : ∀ {a b : List Row} {z : Int}, OkL a → OkL b → CmpL a b z → z = 0 ∨ z = 1 ∨ z = -1
  | [], [], z, _, _, h => .inl h
  | [], _ :: _, _, _, _, h => h.elim
  | _ :: _, [], _, _, _, h => h.elim
  | a :: r, b :: s, z, ha, hb, h => by
    obtain ⟨u, hu, h3⟩ := h
    rcases h3 with ⟨n1, e1⟩ | ⟨n1, h3⟩
    · rw [e1]; exact (hu.ok ha.cons.1 hb.cons.1).val
    · exact CmpL.val ha.cons.2 hb.cons.2 h3
theorem CmpL.trans : ∀ {a b c : List Row} {x y z : Int}, OkL a → OkL b → OkL c → CmpL a b x → CmpL b c y → CmpL a c z → x < 0 → y < 0 → z < 0
  | [], [], _, x, _, _, _, _, _, h, _, _, hx, _ => by
    have e : x = 0 := h
    omega
  | [], _ :: _, _, _, _, _, _, _, _, h, _, _, _, _ => h.elim
  | _ :: _, [], _, _, _, _, _, _, _, h, _, _, _, _ => h.elim
  | _ :: _, _ :: _, [], _, _, _, _, _, _, _, h, _, _, _ => h.elim
  | a :: r, b :: s, c :: t, x, y, z, ha, hb, hc, h, h2, h3, hx, hy => by
    obtain ⟨u, hu, g1⟩ := h
    obtain ⟨v, hv, g2⟩ := h2
    obtain ⟨w, hw, g3⟩ := h3
    have c1 := hu.ok ha.cons.1 hb.cons.1
    have c2 := hv.ok hb.cons.1 hc.cons.1
    have c3 := hw.ok ha.cons.1 hc.cons.1
    rcases g1 with ⟨n1, e1⟩ | ⟨n1, g1⟩ <;> rcases g2 with ⟨n2, e2⟩ | ⟨n2, g2⟩
    · have := c1.trans c2 c3 (by omega) (by omega)
      rcases g3 with ⟨n3, e3⟩ | ⟨n3, g3⟩ <;> omega
    · have hbc := (c2.zero).1 n2
      have e : w = u := by
        refine c3.uniq ?_
        rw [← show getM b = getM c from funext hbc]
        exact c1
      rcases g3 with ⟨n3, e3⟩ | ⟨n3, g3⟩ <;> omega
    · have hab := (c1.zero).1 n1
      have e : w = v := by
        refine c3.uniq ?_
        rw [show getM a = getM b from funext hab]
        exact c2
      rcases g3 with ⟨n3, e3⟩ | ⟨n3, g3⟩ <;> omega
    · have hab := (c1.zero).1 n1
      have hbc := (c2.zero).1 n2
      have e : w = 0 := (c3.zero).2 fun k => (hab k).trans (hbc k)
      rcases g3 with ⟨n3, e3⟩ | ⟨n3, g3⟩
      · exact absurd e n3
      · exact CmpL.trans ha.cons.2 hb.cons.2 hc.cons.2 g1 g2 g3 hx hy
theorem CmpL.le : ∀ {a b : List Row} {z : Int}, OkL a → OkL b → CmpL a b z → allF withR a b = true → z ≤ 0
  | [], [], z, _, _, h, _ => by
    have e : z = 0 := h
    omega
  | [], _ :: _, _, _, _, h, _ => h.elim
  | _ :: _, [], _, _, _, h, _ => h.elim
  | a :: r, b :: s, z, ha, hb, h, hw => by
    obtain ⟨u, hu, h3⟩ := h
    unfold allF at hw
    rw [Bool.and_eq_true] at hw
    have hle := (hu.ok ha.cons.1 hb.cons.1).le ((withR_iff ha.cons.1 hb.cons.1).1 hw.1)
    rcases h3 with ⟨n1, e1⟩ | ⟨n1, h3⟩
    · omega
    · exact CmpL.le ha.cons.2 hb.cons.2 h3 hw.2
theorem allF_within : ∀ {a b c : List Row}, OkL a → OkL b → OkL c → allF withR a b = true → allF withR b c = true → allF withR a c = true
  | [], [], [], _, _, _, _, _ => rfl
  | [], _ :: _, _, _, _, _, h, _ => by cases h
  | _ :: _, [], _, _, _, _, h, _ => by cases h
  | [], [], _ :: _, _, _, _, _, h => by cases h
  | _ :: _, _ :: _, [], _, _, _, _, h => by cases h
  | a :: r, b :: s, c :: t, ha, hb, hc, h, h2 => by
    unfold allF at h h2 ⊢
    rw [Bool.and_eq_true] at h h2 ⊢
    refine ⟨?_, allF_within ha.cons.2 hb.cons.2 hc.cons.2 h.2 h2.2⟩
    have h3 := (withR_iff ha.cons.1 hb.cons.1).1 h.1
    have h4 := (withR_iff hb.cons.1 hc.cons.1).1 h2.1
    exact (withR_iff ha.cons.1 hc.cons.1).2 fun k => Int.le_trans (h3 k) (h4 k)
theorem allF_len {f : Row → Row → Bool} {a b : List Row} (h : allF f a b = true) : a.length = b.length := by
  by_cases e : a.length = b.length
  · exact e
  · rw [allF_ne e] at h; cases h
theorem cmpI (a b : Int) : Lib.compareInt a b = if a < b then -1 else if b < a then 1 else 0 := by
  unfold Lib.compareInt
  first | rfl | (split <;> (try split) <;> (try split) <;> omega)
theorem MCmp.swap {a b : List Row} {z y : Int} (ha : OkL a) (hb : OkL b) (h : MCmp a b z) (h2 : MCmp b a y) : y = -z := by
  rcases h with ⟨h, e⟩ | ⟨h, e⟩ <;> rcases h2 with ⟨h2, e2⟩ | ⟨h2, e2⟩
  · rw [e, e2, cmpI, cmpI]; split <;> split <;> (try split) <;> (try split) <;> omega
  · exact absurd h2.symm h
  · exact absurd h.symm h2
  · exact CmpL.swap ha hb e e2
theorem MCmp.same {a b : List Row} {z : Int} (ha : OkL a) (hb : OkL b) (h : MCmp a b z) : (z = 0 ↔ allF sameR a b = true) := by
  rcases h with ⟨h, e⟩ | ⟨h, e⟩
  · rw [allF_ne h, e, cmpI]
    constructor
    · intro h3; split at h3 <;> (try split at h3) <;> omega
    · intro h3; cases h3
  · exact e.same ha hb
theorem MCmp.trans {a b c : List Row} {x y z : Int} (ha : OkL a) (hb : OkL b) (hc : OkL c) (h : MCmp a b x) (h2 : MCmp b c y) (h3 : MCmp a c z) (hx : x < 0) (hy : y < 0) : z < 0 := by
  have lt : ∀ {p q : List Row} {v : Int}, OkL p → OkL q → MCmp p q v → v < 0 → p.length < q.length ∨ (p.length = q.length ∧ CmpL p q v) := by
    intro p q v _ _ h hv
    rcases h with ⟨h, e⟩ | ⟨h, e⟩
    · left
      rw [e, cmpI] at hv
      split at hv
      · omega
      · split at hv <;> omega
    · exact .inr ⟨h, e⟩
  rcases lt ha hb h hx with g1 | ⟨g1, e1⟩ <;> rcases lt hb hc h2 hy with g2 | ⟨g2, e2⟩ <;> rcases h3 with ⟨h3, e3⟩ | ⟨h3, e3⟩
  · rw [e3, cmpI, if_pos (by omega)]; omega
  · omega
  · rw [e3, cmpI, if_pos (by omega)]; omega
  · omega
  · rw [e3, cmpI, if_pos (by omega)]; omega
  · omega
  · omega
  · exact CmpL.trans ha hb hc e1 e2 e3 hx hy
theorem MCmp.le {a b : List Row} {z : Int} (ha : OkL a) (hb : OkL b) (h : MCmp a b z) (hw : allF withR a b = true) : z ≤ 0 := by
  rcases h with ⟨h, _⟩ | ⟨_, e⟩
  · exact absurd (allF_len hw) h
  · exact e.le ha hb hw
end Go.Proofs.YtajcleobmgjhoaaDoor
