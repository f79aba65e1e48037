/- Plain laws of markings as bytes. -/
import Derived.Test.YtajcleobmgjhoaaDoorMarkJ
import Derived.Test.YtajcleobmgjhoaaDoorMarkR
namespace Go.Proofs.YtajcleobmgjhoaaDoor
open Go.RowKit
theorem be_1 (n : Int) : be 1 n = [n % 256] := by
  unfold be beT byt
  simp [List.range_succ]
theorem be_2 (n : Int) : be 2 n = [n / 256 % 256, n % 256] := by
  unfold be beT byt
  simp [List.range_succ]
theorem be_4 (n : Int) : be 4 n = [n / 16777216 % 256, n / 65536 % 256, n / 256 % 256, n % 256] := by
  unfold be beT byt
  simp [List.range_succ]
theorem num_1 {n : Int} (h : 0 ≤ n ∧ n < 256) : numB 0 (be 1 n) = n := by rw [be_1]; simp only [numB]; omega
theorem num_2 {n : Int} (h : 0 ≤ n ∧ n < 65536) : numB 0 (be 2 n) = n := by rw [be_2]; simp only [numB]; omega
theorem num_4 {n : Int} (h : 0 ≤ n ∧ n < 4294967296) : numB 0 (be 4 n) = n := by rw [be_4]; simp only [numB]; omega
theorem be_num2 {l : List Int} (h : U8s l) (hl : l.length = 2) : be 2 (numB 0 l) = l := by
  match l, hl with
  | [a, b], _ =>
    have ha := h a (by simp)
    have hb := h b (by simp)
    rw [be_2]
    simp only [numB, List.cons.injEq, and_true]
    omega
theorem be_num4 {l : List Int} (h : U8s l) (hl : l.length = 4) : be 4 (numB 0 l) = l := by
  match l, hl with
  | [a, b, c, d], _ =>
    have ha := h a (by simp)
    have hb := h b (by simp)
    have hc := h c (by simp)
    have hd := h d (by simp)
    rw [be_4]
    simp only [numB, List.cons.injEq, and_true]
    omega
def In32 (b : Row) : Prop := ∀ p ∈ b, (0 ≤ p.1 ∧ p.1 < 4294967296) ∧ (0 ≤ p.2 ∧ p.2 < 4294967296)
theorem take_app {α : Type} {a b : List α} {n : Nat} (h : a.length = n) : (a ++ b).take n = a := by rw [← h]; simp
theorem drop_app {α : Type} {a b : List α} {n : Nat} (h : a.length = n) : (a ++ b).drop n = b := by rw [← h]; simp
theorem dec_rows : ∀ (b : Row) (t : List Int), In32 b → decRows b.length (encRows b ++ t) = b
  | [], _, _ => rfl
  | p :: r, t, h => by
    have e : encRows (p :: r) ++ t = be 4 p.1 ++ (be 4 p.2 ++ (encRows r ++ t)) := by simp [encRows]
    rw [List.length_cons, decRows, e, take_app (be_len 4 p.1), drop_app (be_len 4 p.1), take_app (be_len 4 p.2), drop_app (be_len 4 p.2), dec_rows r t (fun q hq => h q (List.mem_cons_of_mem _ hq))]
    have h1 := h p (by simp)
    rw [num_4 h1.1, num_4 h1.2]
theorem last_le : ∀ {b : Row}, Srt b → ∀ p ∈ b, p.1 ≤ lastM b := by
  intro b hs p hp
  obtain ⟨i, hi, rfl⟩ := List.getElem_of_mem hp
  have h0 : b.length ≠ 0 := by omega
  unfold lastM
  rw [if_neg h0, List.getD, List.getElem?_eq_getElem (by omega)]
  simp only [Option.getD_some]
  by_cases e : i = b.length - 1
  · subst e; exact Int.le_refl _
  · have := List.pairwise_iff_getElem.1 hs i (b.length - 1) hi (by omega) (by omega)
    omega
theorem in32 {b : Row} (h : encOk1 b = true) : In32 b := by
  unfold encOk1 at h
  simp only [Bool.and_eq_true, decide_eq_true_eq] at h
  have ho := (rightB_iff b).1 h.1
  intro p hp
  have h1 := ho.2 p hp
  have h2 := last_le ho.1 p hp
  omega
theorem dec_bag {b : Row} (t : List Int) (h : encOk1 b = true) (hl : b.length ≤ 65535) : decBag (encBag b ++ t) = some (b, t) := by
  have hr : rightB b = true := by
    unfold encOk1 at h
    simp only [Bool.and_eq_true] at h
    exact h.1
  have e : encBag b ++ t = be 2 (b.length : Int) ++ (encRows b ++ t) := by simp [encBag]
  unfold decBag
  rw [e, take_app (be_len 2 _), drop_app (be_len 2 _), num_2 (by omega), Int.toNat_natCast, dec_rows b t (in32 h), hr]
  rw [if_neg (by rw [List.length_append, be_len]; omega), if_neg (by rw [List.length_append, encRows_len]; omega), if_pos rfl, drop_app (by rw [encRows_len]; omega)]
theorem dec_bags : ∀ (M : List Row) (t : List Int), (∀ b ∈ M, encOk1 b = true ∧ b.length ≤ 65535) → decs M.length (encBags M ++ t) = some (M, t)
  | [], _, _ => rfl
  | b :: M, t, h => by
    have e : encBags (b :: M) ++ t = encBag b ++ (encBags M ++ t) := by simp [encBags]
    have h1 := h b (by simp)
    rw [List.length_cons, decs, e, dec_bag _ h1.1 h1.2]
    simp only
    rw [dec_bags M t fun q hq => h q (List.mem_cons_of_mem _ hq)]
theorem dec_enc {M : List Row} (h : encOk M = true) (hl : ∀ b ∈ M, b.length ≤ 65535) : decM (encM M) = some M := by
  unfold encOk at h
  simp only [Bool.and_eq_true, decide_eq_true_eq, List.all_eq_true] at h
  have e : encM M = (M.length : Int) :: encBags M := by
    unfold encM
    rw [be_1, show (M.length : Int) % 256 = (M.length : Int) by omega]
    rfl
  rw [e, decM_cons, if_neg (by omega), Int.toNat_natCast]
  have := dec_bags M [] fun b hb => ⟨h.2 b hb, hl b hb⟩
  rw [List.append_nil] at this
  rw [this]
theorem enc_rows : ∀ (k : Nat) (l : List Int), U8s l → 8 * k ≤ l.length → encRows (decRows k l) = l.take (8 * k)
  | 0, l, _, _ => by simp [decRows, encRows]
  | k + 1, l, h, hl => by
    have h4 : U8s (l.take 4) := fun x hx => h x (List.mem_of_mem_take hx)
    have h5 : U8s ((l.drop 4).take 4) := fun x hx => h x (List.mem_of_mem_drop (List.mem_of_mem_take hx))
    have h6 : U8s ((l.drop 4).drop 4) := fun x hx => h x (List.mem_of_mem_drop (List.mem_of_mem_drop hx))
    have ih := enc_rows k ((l.drop 4).drop 4) h6 (by rw [List.length_drop, List.length_drop]; omega)
    have e : encRows (decRows (k + 1) l) = be 4 (numB 0 (l.take 4)) ++ be 4 (numB 0 ((l.drop 4).take 4)) ++ encRows (decRows k ((l.drop 4).drop 4)) := by simp [encRows, decRows]
    rw [e, ih, be_num4 h4 (by rw [List.length_take]; omega), be_num4 h5 (by rw [List.length_take, List.length_drop]; omega)]
    rw [List.append_assoc, show 8 * (k + 1) = 4 + (4 + 8 * k) by omega, List.take_add, List.take_add]
theorem enc_bag {l r : List Int} {b : Row} (hu : U8s l) (h : decBag l = some (b, r)) : encBag b ++ r = l ∧ encOk1 b = true ∧ U8s r ∧ 8 * b.length ≤ l.length := by
  unfold decBag at h
  by_cases h1 : l.length < 2
  · rw [if_pos h1] at h; cases h
  rw [if_neg h1] at h
  by_cases h2 : (l.drop 2).length < 8 * (numB 0 (l.take 2)).toNat
  · rw [if_pos h2] at h; cases h
  rw [if_neg h2] at h
  by_cases h3 : rightB (decRows (numB 0 (l.take 2)).toNat (l.drop 2)) = true
  · rw [if_pos h3] at h
    injection h with h
    injection h with e1 e2
    have hu2 : U8s (l.take 2) := fun x hx => hu x (List.mem_of_mem_take hx)
    have hud : U8s (l.drop 2) := fun x hx => hu x (List.mem_of_mem_drop hx)
    have hn := numB_bound (l.take 2) hu2
    have hbl : b.length = (numB 0 (l.take 2)).toNat := by rw [← e1, decRows_len]
    have hcl : (b.length : Int) = numB 0 (l.take 2) := by rw [hbl]; omega
    have hdl := List.length_drop (i := 2) (l := l)
    refine ⟨?_, ?_, ?_, by rw [hbl]; omega⟩
    · unfold encBag
      rw [hcl, be_num2 hu2 (by rw [List.length_take]; omega), ← e1, enc_rows _ _ hud (by omega), ← e2, List.append_assoc, List.take_append_drop, List.take_append_drop]
    · unfold encOk1
      rw [← e1, h3, Bool.true_and, decide_eq_true_eq]
      unfold lastM
      split
      · omega
      · rename_i h0
        rw [List.getD, List.getElem?_eq_getElem (by omega)]
        simp only [Option.getD_some]
        have hin : ∀ (k : Nat) (l : List Int), U8s l → ∀ p ∈ decRows k l, p.1 ≤ 4294967295 := by
          intro k
          induction k with
          | zero => intro l _ p hp; cases hp
          | succ k ih =>
            intro l hl p hp
            unfold decRows at hp
            rcases List.mem_cons.1 hp with rfl | hp
            · exact (numB_bound (l.take 4) (fun x hx => hl x (List.mem_of_mem_take hx))).2 (by rw [List.length_take]; omega)
            · exact ih _ (fun x hx => hl x (List.mem_of_mem_drop (List.mem_of_mem_drop hx))) p hp
        exact hin _ _ hud _ (List.getElem_mem _)
    · rw [← e2]
      exact fun x hx => hud x (List.mem_of_mem_drop hx)
  · rw [if_neg h3] at h; cases h
theorem enc_bags : ∀ (k : Nat) (l r : List Int) (M : List Row), U8s l → decs k l = some (M, r) → encBags M ++ r = l ∧ (∀ b ∈ M, encOk1 b = true ∧ 8 * b.length ≤ l.length) ∧ M.length = k
  | 0, l, r, M, _, h => by
    injection h with h
    injection h with e1 e2
    subst e1 e2
    exact ⟨rfl, (fun b hb => by cases hb), rfl⟩
  | k + 1, l, r, M, hu, h => by
    rw [decs] at h
    cases hb : decBag l with
    | none => rw [hb] at h; cases h
    | some q =>
      obtain ⟨b, r1⟩ := q
      rw [hb] at h
      simp only at h
      cases hd : decs k r1 with
      | none => rw [hd] at h; cases h
      | some q2 =>
        obtain ⟨bs, r2⟩ := q2
        rw [hd] at h
        simp only [Option.some.injEq, Prod.mk.injEq] at h
        obtain ⟨rfl, rfl⟩ := h
        obtain ⟨g1, g2, g3, g4⟩ := enc_bag hu hb
        obtain ⟨i1, i2, i3⟩ := enc_bags k r1 r2 bs g3 hd
        have e : encBags (b :: bs) ++ r2 = encBag b ++ (encBags bs ++ r2) := by simp [encBags]
        have hlen : r1.length ≤ l.length := by rw [← g1, List.length_append]; omega
        refine ⟨by rw [e, i1, g1], fun x hx => ?_, by rw [List.length_cons, i3]⟩
        rcases List.mem_cons.1 hx with rfl | hx
        · exact ⟨g2, g4⟩
        · exact ⟨(i2 x hx).1, Nat.le_trans (i2 x hx).2 hlen⟩
theorem enc_dec {l : List Int} {M : List Row} (hu : U8s l) (h : decM l = some M) : encOk M = true ∧ encM M = l ∧ ∀ b ∈ M, 8 * b.length ≤ l.length := by
  cases l with
  | nil => cases h
  | cons x r =>
    rw [decM_cons] at h
    have hx := hu x (by simp)
    by_cases h64 : 64 < x
    · rw [if_pos h64] at h; cases h
    rw [if_neg h64] at h
    cases hd : decs x.toNat r with
    | none => rw [hd] at h; cases h
    | some q =>
      obtain ⟨bs, r2⟩ := q
      rw [hd] at h
      cases r2 with
      | cons y z => cases h
      | nil =>
        simp only [Option.some.injEq] at h
        subst h
        obtain ⟨i1, i2, i3⟩ := enc_bags x.toNat r [] bs (fun y hy => hu y (List.mem_cons_of_mem _ hy)) hd
        rw [List.append_nil] at i1
        have hl : (bs.length : Int) = x := by rw [i3]; omega
        refine ⟨?_, ?_, fun b hb => by rw [List.length_cons]; have := (i2 b hb).2; omega⟩
        · unfold encOk
          rw [decide_eq_true (by omega), Bool.true_and, List.all_eq_true]
          exact fun b hb => (i2 b hb).1
        · unfold encM
          rw [hl, be_1, i1, show x % 256 = x by omega]
          rfl
theorem enc_inj {a b : List Row} (ha : encOk a = true) (hb : encOk b = true) (la : ∀ r ∈ a, r.length ≤ 65535) (lb : ∀ r ∈ b, r.length ≤ 65535) (h : encM a = encM b) : a = b := by
  have h1 := dec_enc ha la
  rw [h, dec_enc hb lb] at h1
  exact (Option.some.inj h1).symm
theorem okl_enc {a : List Row} (h : encOk a = true) : OkL a := by
  unfold encOk at h
  simp only [Bool.and_eq_true, List.all_eq_true] at h
  intro r hr
  have := h.2 r hr
  unfold encOk1 at this
  simp only [Bool.and_eq_true] at this
  exact (rightB_iff r).1 this.1
theorem allF_same : ∀ {a b : List Row}, OkL a → OkL b → (allF sameR a b = true ↔ a = b)
  | [], [], _, _ => by simp [allF]
  | [], _ :: _, _, _ => by simp [allF]
  | _ :: _, [], _, _ => by simp [allF]
  | x :: a, y :: b, ha, hb => by
    unfold allF
    rw [Bool.and_eq_true, sameR_eq ha.cons.1 hb.cons.1, decide_eq_true_eq, allF_same ha.cons.2 hb.cons.2, List.cons.injEq]
end Go.Proofs.YtajcleobmgjhoaaDoor
