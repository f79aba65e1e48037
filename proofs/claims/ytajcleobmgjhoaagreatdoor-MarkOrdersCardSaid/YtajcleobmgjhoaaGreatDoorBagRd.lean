/- The document's answer of layer 03: Within, Same; plain words for its folds. -/
import Derived.Test.YtajcleobmgjhoaaGreatDoorBagZ
import Derived.Test.YtajcleobmgjhoaaGreatDoorBagQ
namespace Go.Proofs.YtajcleobmgjhoaaGreatDoor
open Go.RowKit
theorem Ok.take {b : Row} (h : Ok b) (k : Nat) : Ok (b.take k) := ⟨h.1.take k, fun p hp => h.2 p (List.mem_of_mem_take hp)⟩
theorem getM_take {b : Row} (h : Ok b) (k : Nat) (i : Int) : 0 ≤ getM (b.take k) i ∧ getM (b.take k) i ≤ getM b i := by
  have h1 := (h.take k).nonneg i
  refine ⟨h1.1, ?_⟩
  by_cases h0 : getM (b.take k) i = 0
  · rw [h0]; exact (h.nonneg i).1
  · have h2 := List.mem_of_mem_take (mem_getM h0)
    have h3 := getM_mem h.1 h2
    simp only at h3
    omega
theorem getM_next {b : Row} (h : Ok b) {k : Nat} (hk : k < b.length) (i : Int) : getM (b.take (k + 1)) i = if i = (b.getD k (0, 0)).1 then (b.getD k (0, 0)).2 else getM (b.take k) i := by
  rw [take_snoc hk, getM_app fun q hq => by have := h.1.new hk q hq; omega]
theorem getM_new {b : Row} (h : Ok b) {k : Nat} (hk : k < b.length) : getM (b.take k) (b.getD k (0, 0)).1 = 0 := getM_not fun q hq => by have := h.1.new hk q hq; omega
/-- What a fold of 'with' counts after so many rows. -/
def gk (h : Int → Int → Int) (a b : Row) (k : Nat) : Int → Int := fun i => h (getM a i) (getM (b.take k) i)
theorem gk_end (h : Int → Int → Int) (a b : Row) {k : Nat} (hk : b.length ≤ k) : gk h a b k = fun i => h (getM a i) (getM b i) := by
  unfold gk; rw [List.take_of_length_le hk]
theorem gk_step {h : Int → Int → Int} {a b M : Row} {k : Nat} (hb : Ok b) (hk : k < b.length) (h0 : ∀ i, 0 ≤ gk h a b k i) (hM : RowG M (gk h a b k)) {x : Int × Int} (hx : x = b.getD k (0, 0)) {v : Int} (hv : v = h (getM a x.1) x.2) :
    RowG (withL M x.1 v) (gk h a b (k + 1)) := by
  have h1 := withL_row (b := M) (m := x.1) (n := v) hM.1 fun p hp => (hM.2.1 p hp).1
  have e : (fun i => if i = x.1 then v else getM M i) = gk h a b (k + 1) := by
    funext i
    unfold gk
    rw [getM_next hb hk, ← hx]
    by_cases e : i = x.1
    · rw [if_pos e, if_pos e, hv, e]
    · rw [if_neg e, if_neg e, hM.get h0]; rfl
  rw [← e]; exact h1
set_option maxRecDepth 100000 in
set_option maxHeartbeats 2000000 in
theorem ref_Within (A : Option Addr) (n c : Nat) (l : Row) (A2 : Option Addr) (n2 c2 : Nat) (l2 : Row) (w : World) (hA : Hid (Sl w (.slice A n c) n 2 (pairCells l))) (hA2 : Hid (Sl w (.slice A2 n2 c2) n2 2 (pairCells l2))) :
    Calls Tryz.prog 29 #[.slice A n c, .slice A2 n2 c2] w fun e w' => e = .returned (.bool (withR l l2)) ∧ ∃ q, w' = w.drewN q := by
  have hn := hA.out.bound
  have hl := Lib.hid (show l.length = n by have := hA.out.len; rw [pairCells_len] at this; omega)
  obtain ⟨r1, h1⟩ : ∃ r, rightB l = r := ⟨_, rfl⟩
  obtain ⟨r2, h2⟩ : ∃ r, rightB l2 = r := ⟨_, rfl⟩
  have HR1 := Lib.hid h1
  have HR2 := Lib.hid h2
  have c1 := fun q => Lib.hid (ref_Right A n c l (w.drewN q) hA)
  have c3 := fun q => Lib.hid (ref_Right A2 n2 c2 l2 (w.drewN q) hA2)
  rw [h1] at c1
  rw [h2] at c3
  clear h1 h2
  cases r1 with
  | false =>
    have e1 : withR l l2 = false := by unfold withR; rw [HR1.out]; rfl
    rw [e1]
    go_enter Tryz.func29, Tryz.ntmps29
    go_wp2_with fail
    refine (c1 0).out.mono ?_
    rintro e w1 ⟨rfl, q, rfl⟩
    go_wp2
    go_ret
    exact ⟨rfl, _, by first | rfl | exact drew2 _ _ _⟩
  | true =>
    cases r2 with
    | false =>
      have e1 : withR l l2 = false := by unfold withR; rw [HR1.out, HR2.out]; rfl
      rw [e1]
      go_enter Tryz.func29, Tryz.ntmps29
      go_wp2_with fail
      refine (c1 0).out.mono ?_
      rintro e w1 ⟨rfl, q, rfl⟩
      rw [drew2]
      go_wp2_with fail
      refine (c3 _).out.mono ?_
      rintro e w2 ⟨rfl, q2, rfl⟩
      go_wp2
      go_ret
      exact ⟨rfl, _, by first | rfl | exact drew2 _ _ _⟩
    | true =>
      have e1 : withR l l2 = inM l (getM l2) := by unfold withR; rw [HR1.out, HR2.out]; rfl
      rw [e1]
      obtain ⟨R, hR⟩ : ∃ R, R = inM l (getM l2) := ⟨_, rfl⟩
      rw [← hR]
      have HR := Lib.hid hR
      clear hR e1
      go_enter Tryz.func29, Tryz.ntmps29
      go_wp2_with fail
      refine (c1 0).out.mono ?_
      rintro e w1 ⟨rfl, q, rfl⟩
      rw [drew2]
      go_wp2_with fail
      refine (c3 _).out.mono ?_
      rintro e w2 ⟨rfl, q2, rfl⟩
      rw [drew2]
      clear c1 c3
      go_wp2_with fail
      go_loopw [5] (fun v wr => ∃ (k q : Nat), k ≤ n ∧ v = .int .i64 (k : Int) ∧ wr = w.drewN q ∧ Hid (∀ p ∈ l.take k, p.2 ≤ getM l2 p.1)) (fun v _ => n - (RowKit.intOf v).toNat)
      case atStart => exact ⟨0, _, by omega, rfl, rfl, fun p hp => by simp at hp⟩
      case round =>
        obtain ⟨k, q, hk, rfl, rfl, hz⟩ := hrel
        by_cases hlt : k < n
        · obtain ⟨b1, o1, rfl, p1, p2⟩ := hA.out.pair_at hlt
          obtain ⟨x, hx⟩ : ∃ x, x = l.getD k (0, 0) := ⟨_, rfl⟩
          rw [← hx] at p1 p2
          have hts := Lib.hid (take_snoc (M := l) (k := k) (by rw [hl.out]; exact hlt))
          rw [← hx] at hts
          have hmem := Lib.hid (show x ∈ l by rw [hx, List.getD, List.getElem?_eq_getElem (by rw [hl.out]; exact hlt)]; exact List.getElem_mem _)
          clear hx
          obtain ⟨x1, x2⟩ := x
          simp only at p1 p2
          obtain ⟨u, hu⟩ : ∃ u, u = getM l2 x1 := ⟨_, rfl⟩
          have hcn : cntR l2 x1 = u := by unfold cntR; rw [HR2.out, if_pos rfl, hu]
          have cC : ∀ t, Hid (Calls Tryz.prog 51 #[.slice A2 n2 c2, .int .i64 x1] (w.drewN t) fun e w' => e = .returned (.int .i64 u) ∧ ∃ q', w' = w.drewN q') := fun t => by
            have h := ref_Count A2 n2 c2 l2 x1 (w.drewN t) hA2
            rw [hcn] at h
            exact h.mono fun e w' ⟨h1, q2, h2⟩ => ⟨h1, t + q2, by rw [h2, drew2]⟩
          have HU := Lib.hid hu
          have hlt2 : (k : Int) < (n : Int) := by omega
          have hk0 : (0 : Int) ≤ (k : Int) := by omega
          clear hcn hu
          by_cases hvu : u < x2
          · have d1 : decide (u < x2) = true := by simpa using hvu
            go_wp2
            go_region_with (go_at_call 51; refine (cC _).out.mono ?_; rintro e w' ⟨rfl, q', rfl⟩)
            all_goals
              go_wp2
              go_ret
              refine ⟨ret_b ?_, _, by first | rfl | exact drew2 _ _ _⟩
              rw [HR.out]
              symm
              rw [Bool.eq_false_iff]
              intro h
              have := inM_iff.1 h _ hmem.out
              simp only at this
              have := HU.out
              omega
          · have d1 : decide (u < x2) = false := by simpa using hvu
            go_wp2
            go_region_with (go_at_call 51; refine (cC _).out.mono ?_; rintro e w' ⟨rfl, q', rfl⟩)
            all_goals
              go_wp2
              go_roundw
              case rel =>
                refine ⟨k + 1, _, by omega, by go_num, by first | rfl | exact drew2 _ _ _, fun p hp => ?_⟩
                rw [hts.out] at hp
                rcases List.mem_append.1 hp with hp | hp
                · exact hz.out p hp
                · rw [List.mem_singleton] at hp
                  subst hp
                  have := HU.out
                  simp only
                  omega
              case measure => simp [RowKit.intOf]; omega
        · go_wp2
          go_ret
          refine ⟨ret_b ?_, _, rfl⟩
          have e1 : l.take k = l := List.take_of_length_le (by rw [hl.out]; omega)
          have h9 := hz.out
          rw [e1] at h9
          rw [HR.out, inM_iff.2 h9]
end Go.Proofs.YtajcleobmgjhoaaGreatDoor
