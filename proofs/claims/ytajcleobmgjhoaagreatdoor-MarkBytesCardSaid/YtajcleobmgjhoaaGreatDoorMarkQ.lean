/- Markings of arguments: the form's own reach; Few. -/
import Derived.Test.YtajcleobmgjhoaaGreatDoorMarkA
import Derived.Handy
namespace Go.Proofs.YtajcleobmgjhoaaGreatDoor
open _root_.Go.ChangeShapes _root_.Go.WideShapes _root_.Go.ChangeAt _root_.Go.RowKit _root_.Go.Deep
theorem weights_all {H : Type} {P : Program} {e : TypeId} {d : DataW H} {y : Nat} : ∀ {l : List (DataW H)}, d ∈ l → y ∈ d.weights P e → y ∈ DataW.weightsAll P e l
  | [], h, _ => by cases h
  | x :: r, h, hy => by
    unfold DataW.weightsAll
    rcases List.mem_cons.1 h with rfl | h
    · exact List.mem_append.2 (.inl hy)
    · exact List.mem_append.2 (.inr (weights_all h hy))
section
variable {H : Type} {enc : TypeId × Value → H} {P : Program} {W : World} {base b0 : Nat} {spare : Nat → Bool} {held : Bool} {r : Reach}
/-- A slice of slices that came in: each no longer than the form's reach lets it be. -/
theorem marking_reach {t e ea : TypeId} {d : DataW H} {p : List MemPlace} {A : Option Addr} {n c : Nat} {bs : List Bg} (ht : P.underlying t = some (.slice e)) (he : P.underlying e = some (.slice ea)) (hce : P.cellsOf e = 1)
    (h : DataW.Trod enc P W base spare held t (.slice A n c) d p) (hM : Mk W A n c bs) (hw : ∀ y ∈ d.weights P t, y ≤ reachBytes) : ∀ b ∈ bs, b.n * P.bytesOf ea ≤ reachBytes := by
  obtain ⟨fuel, hf⟩ := h
  rcases open_slice ht hf with ⟨hcs, _⟩ | ⟨a, len, cap, k, fu, D, Pl, hcs, _, hl, _, hk, hx0, hx⟩
  · simp [Value.cells] at hcs
    obtain ⟨rfl, rfl, rfl⟩ := hcs
    have h0 := hM.len
    intro b hb
    rw [List.eq_nil_of_length_eq_zero h0] at hb
    cases hb
  · simp [Value.cells] at hcs
    obtain ⟨rfl, rfl, rfl⟩ := hcs
    have hlk : n ≤ k := by rw [hk]; split <;> omega
    intro b hb
    obtain ⟨i, hi, rfl⟩ := List.getElem_of_mem hb
    have hin : i < n := by rw [← hM.len]; exact hi
    obtain ⟨cs', h1, h2⟩ := hx i (by omega)
    rw [hce, Nat.mul_one] at h1
    obtain ⟨_, hlen, hcell⟩ := World.cells?_some h1
    obtain ⟨b', off', g, e1, e2, _, _, e4, _⟩ := hM.at_ hin
    injection e1 with e1
    subst e1
    rw [List.getElem?_eq_getElem hi] at e4
    have e5 := Option.some.inj e4
    rw [e5]
    have h3 := hcell 0 (by omega)
    rw [Go.WideShapes.add_plain, Go.WideShapes.add_plain, Nat.add_zero, e2] at h3
    have hd : d = .slice ((List.range n).map D) ((List.range (k - n)).map fun j => D (n + j)) := congrArg Prod.fst hx0
    have hsub : ∀ y ∈ (D i).weights P e, y ≤ reachBytes := fun y hy => hw y (by
      rw [hd]
      unfold DataW.weights
      rw [ht]
      exact List.mem_cons_of_mem _ (List.mem_append.2 (.inl (weights_all (List.mem_map.2 ⟨i, List.mem_range.2 hin, rfl⟩) hy))))
    rcases open_slice he h2 with ⟨hc2, _⟩ | ⟨a2, l2, cp2, k2, f2, D2, P2, hc2, _, _, _, _, hx2, _⟩
    · rw [hc2] at h3
      have h4 := Option.some.inj h3
      injection h4 with _ h4 _
      rw [h4]; simp
    · rw [hc2] at h3
      have h4 := Option.some.inj h3
      injection h4 with _ h4 _
      have hd2 : D i = .slice ((List.range l2).map D2) ((List.range (k2 - l2)).map fun j => D2 (l2 + j)) := congrArg Prod.fst hx2
      have h5 := hsub ((((List.range l2).map D2).length + ((List.range (k2 - l2)).map fun j => D2 (l2 + j)).length) * P.bytesOf ea) (by
        rw [hd2]
        unfold DataW.weights
        rw [he]
        exact List.mem_cons_self)
      rw [List.length_map, List.length_range] at h5
      rw [h4]
      exact Nat.le_trans (Nat.mul_le_mul_right _ (Nat.le_add_right _ _)) h5
end
def sumN : List Bg → Nat
  | [] => 0
  | b :: r => b.n + sumN r
theorem sumN_app (l : List Bg) (b : Bg) : sumN (l ++ [b]) = sumN l + b.n := by
  induction l with
  | nil => simp [sumN]
  | cons x r ih => simp only [List.cons_append, sumN, ih]; omega
theorem sumN_le {m : Nat} : ∀ {l : List Bg}, (∀ b ∈ l, b.n ≤ m) → sumN l ≤ l.length * m
  | [], _ => by simp [sumN]
  | b :: r, h => by
    have h1 := sumN_le (m := m) (l := r) fun q hq => h q (List.mem_cons_of_mem _ hq)
    have h2 := h b (by simp)
    simp only [sumN, List.length_cons, Nat.add_mul, Nat.one_mul]
    omega
theorem sumN_mem {b : Bg} : ∀ {l : List Bg}, b ∈ l → b.n ≤ sumN l
  | [], h => by cases h
  | x :: r, h => by
    simp only [sumN]
    rcases List.mem_cons.1 h with rfl | h
    · omega
    · have := sumN_mem h; omega
def fewB (xs : List Bg) : Bool := decide (xs.length ≤ 70) && decide (sumN (xs.take 100) ≤ 300)
theorem few_ok {xs : List Bg} (h : fewB xs = true) : xs.length ≤ 70 ∧ ∀ b ∈ xs, b.n ≤ 300 := by
  unfold fewB at h
  simp only [Bool.and_eq_true, decide_eq_true_eq] at h
  refine ⟨h.1, fun b hb => ?_⟩
  have h2 := h.2
  rw [List.take_of_length_le (by omega)] at h2
  have := sumN_mem hb
  omega
set_option maxRecDepth 100000 in
set_option maxHeartbeats 2000000 in
theorem law_Few (A : Option Addr) (n c : Nat) (xs : List Bg) (w : World) (hA : Hid (Mk w A n c xs)) (zA : Hid (∀ b ∈ xs, b.n ≤ 8796093022208)) :
    Calls Tryz.prog 6 #[.slice A n c] w fun e w' => e = .returned (.bool (fewB xs)) ∧ w' = w := by
  have hn := hA.out.sl.bound
  have lA := Lib.hid hA.out.len
  have hbd := Lib.hid (show ∀ k, k ≤ 100 → sumN (xs.take k) ≤ 879609302220800 from fun k hk => by
    have h1 := sumN_le (m := 8796093022208) (l := xs.take k) fun b hb => zA.out b (List.mem_of_mem_take hb)
    have h2 : (xs.take k).length ≤ 100 := by rw [List.length_take]; omega
    have h3 := Nat.mul_le_mul_right 8796093022208 h2
    omega)
  obtain ⟨R, hR⟩ : ∃ R, R = fewB xs := ⟨_, rfl⟩
  rw [← hR]
  have HR := Lib.hid hR
  clear hR
  go_enter Tryz.func6, Tryz.ntmps6
  go_wp2
  go_loopw [3, 4] (fun a v wr => ∃ (k s : Nat), k ≤ n ∧ k ≤ 100 ∧ a = .int .i64 (s : Int) ∧ v = .int .i64 (k : Int) ∧ Hid (s = sumN (xs.take k)) ∧ wr = w) (fun _ v _ => n - (RowKit.intOf v).toNat)
  case atStart => exact ⟨0, 0, by omega, by omega, rfl, rfl, rfl, rfl⟩
  case round =>
    obtain ⟨k, s, hk, hk1, rfl, rfl, hs, rfl⟩ := hrel
    by_cases hlt : k < n
    · have hlt2 : (k : Int) < (n : Int) := by omega
      have hk0 : (0 : Int) ≤ (k : Int) := by omega
      by_cases h100 : k < 100
      · have h100b : (k : Int) < 100 := by omega
        obtain ⟨b1, o1, g, rfl, e1, _, e3, _, e4⟩ := hA.out.at_ hlt
        have hst := Lib.hid (show s + g.n = sumN (xs.take (k + 1)) by rw [e4, sumN_app, hs.out])
        have h1 := hbd.out (k + 1) (by omega)
        have h2 := hst.out
        have hsg : s + g.n ≤ 879609302220800 := by omega
        obtain ⟨gA, gn, gc, gl⟩ := g
        simp only at e1 hst hsg
        clear e3 e4 h1 h2
        go_wp2
        go_roundw
        case rel => exact ⟨k + 1, s + gn, by omega, by omega, by go_num, by go_num, hst.out, by first | rfl | trivial⟩
        case measure => simp [RowKit.intOf]; omega
      · have h100b : 100 ≤ (k : Int) := by omega
        have hf := Lib.hid (show R = false by rw [HR.out]; unfold fewB; rw [decide_eq_false (by have := lA.out; omega)]; rfl)
        have h70 : 70 < (n : Int) := by omega
        go_wp2
        go_ret
        exact ⟨ret_b hf.out.symm, rfl⟩
    · have hge : (n : Int) ≤ (k : Int) := by omega
      have e1 : xs.take k = xs := List.take_of_length_le (by have := lA.out; omega)
      have e2 : xs.take 100 = xs := List.take_of_length_le (by have := lA.out; omega)
      have hs2 := hs.out
      rw [e1] at hs2
      have hf := Lib.hid (show R = (decide (n ≤ 70) && decide (s ≤ 300)) by rw [HR.out]; unfold fewB; rw [e2, hs2, lA.out])
      clear e1 e2 hs2
      by_cases h70 : n ≤ 70
      · have h70b : (n : Int) ≤ 70 := by omega
        go_wp2
        go_ret
        refine ⟨?_, rfl⟩
        rw [hf.out, decide_eq_true h70]
        simp
        try omega
      · have h70b : 70 < (n : Int) := by omega
        go_wp2
        go_ret
        refine ⟨?_, rfl⟩
        rw [hf.out, decide_eq_false h70]
        rfl
end Go.Proofs.YtajcleobmgjhoaaGreatDoor
