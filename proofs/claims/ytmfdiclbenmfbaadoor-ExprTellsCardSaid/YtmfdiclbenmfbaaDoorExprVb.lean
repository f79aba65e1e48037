/- Vars: the document's. -/
import Derived.Test.YtmfdiclbenmfbaaDoorExprSf
import Derived.Deep.DeepCutAuto
import Derived.Deep.CutBlock
import Derived.Deep.RegionLaw
namespace Go.Proofs.YtmfdiclbenmfbaaDoor
open Go.RowKit
theorem insV_split {x : Int} : ∀ {S : List Int} {k : Nat}, k ≤ S.length → (∀ j, j < k → S.getD j 0 < x) → (k < S.length → x < S.getD k 0) → insV x S = S.take k ++ x :: S.drop k
  | [], k, hk, _, _ => by simp [insV]
  | y :: S, 0, _, _, h => by
    have := h (by simp)
    simp at this
    unfold insV
    rw [if_neg (by omega), if_neg (by omega)]; rfl
  | y :: S, k + 1, hk, h1, h2 => by
    have h0 := h1 0 (by omega)
    simp at h0
    unfold insV
    rw [if_pos h0, insV_split (k := k) (by simpa using hk) (fun j hj => by have := h1 (j + 1) (by omega); simpa using this) (fun hl => by have := h2 (by simpa using hl); simpa using this)]
    rfl
theorem insV_keep {x : Int} : ∀ {S : List Int} {k : Nat}, k < S.length → (∀ j, j < k → S.getD j 0 < x) → S.getD k 0 = x → insV x S = S
  | [], k, hk, _, _ => by simp at hk
  | y :: S, 0, _, _, h => by
    simp at h
    unfold insV
    rw [if_neg (by omega), if_pos h]
  | y :: S, k + 1, hk, h1, h2 => by
    have h0 := h1 0 (by omega)
    simp at h0
    unfold insV
    rw [if_pos h0, insV_keep (k := k) (by simpa using hk) (fun j hj => by have := h1 (j + 1) (by omega); simpa using this) (by simpa using h2)]
theorem insV_len (n : Int) : ∀ l : List Int, (insV n l).length ≤ l.length + 1
  | [] => by simp [insV]
  | x :: r => by
    unfold insV
    have := insV_len n r
    split
    · simp; omega
    · split
      · simp
      · simp
mutual
theorem varsR_len : ∀ (t : Tr) (acc : List Int), (varsR t acc).length ≤ acc.length + sizeT t
  | .mk k n l, acc => by
    rw [varsR, sizeT]
    have h := varsRL_len l (if k = 2 then insV n acc else acc)
    have h2 : (if k = 2 then insV n acc else acc).length ≤ acc.length + 1 := by
      split
      · exact insV_len n acc
      · omega
    omega
theorem varsRL_len : ∀ (l : List Tr) (acc : List Int), (varsRL l acc).length ≤ acc.length + sizeL l
  | [], acc => by rw [varsRL, sizeL]; omega
  | t :: r, acc => by
    rw [varsRL, sizeL]
    have := varsRL_len r (varsR t acc)
    have := varsR_len t acc
    omega
end
theorem varsRL_nil (acc : List Int) : varsRL [] acc = acc := by rw [varsRL]
theorem varsRL_app : ∀ (l r : List Tr) (acc : List Int), varsRL (l ++ r) acc = varsRL r (varsRL l acc)
  | [], r, acc => by rw [varsRL_nil]; rfl
  | t :: l, r, acc => by rw [List.cons_append, varsRL, varsRL, varsRL_app l r]
theorem varsR_eq (t : Tr) (acc : List Int) : varsR t acc = varsRL t.kids (if t.kind = 2 then insV t.num acc else acc) := by
  obtain ⟨k, n, l⟩ := t
  rw [varsR]; rfl
theorem Sl.take1 {w : World} {A : Option Addr} {n c k : Nat} {S : List Int} (h : Sl w (.slice A n c) n 1 (intCells S)) (hk : k ≤ n) : Sl w (.slice A k c) k 1 (intCells (S.take k)) := by
  have hl := h.len
  rw [intCells_len] at hl
  obtain ⟨A', c', e, h1, h2, h3, h4⟩ := h
  injection e with e1 _ e3
  subst e1; subst e3
  refine ⟨A, c, rfl, by omega, h2, ?_, fun hn => ?_⟩
  · rw [intCells_len, List.length_take]; omega
  · obtain ⟨b, off, e, hc⟩ := h4 (by omega)
    refine ⟨b, off, e, fun j u hu => hc j u ?_⟩
    unfold intCells at hu ⊢
    rw [List.map_take, List.getElem?_take] at hu
    split at hu
    · exact hu
    · cases hu
/-- Where the rest of a slice begins. -/
def dropA1 (A : Option Addr) (c k : Nat) : Option Addr := if c = k then A else A.map (·.add (k * 1))
theorem Sl.drop1 {w : World} {A : Option Addr} {n c k : Nat} {S : List Int} (h : Sl w (.slice A n c) n 1 (intCells S)) (hk : k ≤ n) : Sl w (.slice (dropA1 A c k) (n - k) (c - k)) (n - k) 1 (intCells (S.drop k)) := by
  have hl := h.len
  rw [intCells_len] at hl
  obtain ⟨A', c', e, h1, h2, h3, h4⟩ := h
  injection e with e1 _ e3
  subst e1; subst e3
  refine ⟨_, c - k, rfl, by omega, by omega, ?_, fun hn => ?_⟩
  · rw [intCells_len, List.length_drop]; omega
  · obtain ⟨b, off, rfl, hc⟩ := h4 (by omega)
    refine ⟨b, off + k * 1, ?_, fun j u hu => ?_⟩
    · unfold dropA1; rw [if_neg (by omega)]; simp [Go.WideShapes.add_plain]
    · unfold intCells at hu hc
      rw [List.map_drop, List.getElem?_drop] at hu
      have := hc _ u hu
      rwa [← Nat.add_assoc, ← Nat.mul_one k] at this
theorem own_fresh1 (w : World) (base g : Nat) (t : TypeId) (hg : g = w.heap.size) (hb : base ≤ g) : (w.alloc (.cells #[] t)).ownsRow base t 1 (.slice (some ⟨g, 0, none⟩) 0 0) 0 [] := by
  subst hg
  exact ⟨rfl, .inr ⟨w.heap.size, 0, #[], rfl, hb, heap_alloc_new w (.cells #[] t), Nat.le_refl _, by decide, rfl, rfl⟩⟩
theorem two_a (w : World) (o c : Obj) : ((w.alloc o).alloc c).heap[w.heap.size + 1]? = some c := by
  have := heap_alloc_new (w.alloc o) c
  have e : (w.alloc o).heap.size = w.heap.size + 1 := by simp
  rw [e] at this
  exact this
theorem two_b (w : World) (o c : Obj) : ((w.alloc c).alloc o).heap[w.heap.size]? = some c := by
  have h : ((w.alloc c).alloc o).heap[w.heap.size]? = some c := by
    rw [Below.heap_alloc _ _ _ (by simp)]
    exact heap_alloc_new w c
  exact h
theorem Sl.one_kept1 {W w1 : World} {g : Nat} {row : Option Nat} {x : Int} {t : TypeId} (hc : W.heap[g]? = some (.cells #[.int .i64 x] t (0, 0))) (hg : W.grownBy w1 row) (hne : row ≠ some g) :
    Sl w1 (.slice (some ⟨g, 0, none⟩) 1 1) 1 1 [.int .i64 x] := by
  have hlt := (Array.getElem?_eq_some_iff.1 hc).1
  have hb := (hg.block g hlt (fun e => hne e.symm)).trans hc
  refine ⟨_, 1, rfl, Nat.le_refl _, by decide, rfl, fun _ => ⟨g, 0, rfl, fun j u hu => ?_⟩⟩
  rw [cell_of_row _ _ _ _ _ _ hb]
  simpa using hu
theorem one1 (x : Int) : ∀ u ∈ [Value.int .i64 x], u.oneCell' = true := by
  intro u hu; simp at hu; subst hu; rfl
def VarsRAt (N : Nat) : Prop := ∀ (t : Tr), t.sz ≤ N → ∀ (A : Option Addr) (m c : Nat) (B : Option Addr) (d : Nat) (acc : List Int) (n : Nat) (w : World), Hid (n = acc.length) → Hid (TrAt w A m c t) → Hid (Sl w (.slice B n d) n 1 (intCells acc)) → n + sizeT t ≤ 1000000 → Calls Tryd.prog 44 #[t.val A m c, .slice B n d] w (IntsP (varsR t acc) w)
set_option maxRecDepth 100000 in
set_option maxHeartbeats 8000000 in
theorem r_vars_step (N : Nat) (IH : Hid (VarsRAt N)) : VarsRAt (N + 1) := by
  intro t hN A m c B d acc n w HLN h HB hsz
  obtain ⟨hl, hc, hc9⟩ := h.out.len
  have HV := Lib.hid (varsR_eq t acc)
  have hsl := sizeT_eq t
  have hd : n ≤ d ∧ d ≤ 9223372036854775807 := by
    obtain ⟨_, _, e, h1, h2, _⟩ := HB.out
    injection e with _ _ e
    omega
  obtain ⟨hnd, hd9⟩ := hd
  have hb1 := (Below.refl w.heap.size w).alloc (Nat.le_refl _) (.cells #[.int .i64 t.kind, .int .i64 t.num, .slice A m c] 24)
  have HB1 := Lib.hid hb1
  have x0 := cell_new w #[.int .i64 t.kind, .int .i64 t.num, .slice A m c] 24 0 _ rfl
  have x1 := cell_new w #[.int .i64 t.kind, .int .i64 t.num, .slice A m c] 24 1 _ rfl
  have x2 := cell_new w #[.int .i64 t.kind, .int .i64 t.num, .slice A m c] 24 2 _ rfl
  obtain ⟨w1, hw1⟩ : ∃ w1, w1 = w.alloc (.cells #[.int .i64 t.kind, .int .i64 t.num, .slice A m c] 24) := ⟨_, rfl⟩
  have hs1 : w1.heap.size = w.heap.size + 1 := by rw [hw1, World.size_alloc]
  obtain ⟨g, hg⟩ : ∃ g, g = w.heap.size := ⟨_, rfl⟩
  have HW1 := Lib.hid hw1
  have HG := Lib.hid hg
  have HS1 := Lib.hid hs1
  rw [← hw1] at HB1 x0 x1 x2
  rw [← hg] at x0 x1 x2
  have HL1 := Lib.hid (HB.out.below HB1.out)
  clear hb1 hw1 hg hs1
  obtain ⟨pre, hpre⟩ : ∃ pre : List Int, pre = if t.kind = 2 then insV t.num acc else acc := ⟨_, rfl⟩
  rw [← hpre] at HV
  have hpl : pre.length ≤ n + 1 := by
    have := HLN.out
    rw [hpre]; split
    · have := insV_len t.num acc; omega
    · omega
  have HPRE := Lib.hid hpre
  clear hpre
  go_enter Tryd.func44, Tryd.ntmps44
  go_upto_region 1 with fail
  rw [← HG.out, ← HW1.out]
  go_upto_if 9 with fail
  go_cut [1] (fun v1 wx => ∃ q C, v1 = .slice C pre.length q ∧ Hid (Sl wx (.slice C pre.length q) pre.length 1 (intCells pre)) ∧ Hid (Below w.heap.size w wx) ∧ Hid (wx.cell? ⟨g, 2, none⟩ = some (.slice A m c)))
  case first =>
    by_cases h2 : t.kind = 2
    · have bk : (t.kind == 2) = true := by simpa using h2
      have hp : pre = insV t.num acc := by rw [HPRE.out, if_pos h2]
      obtain ⟨z, hz⟩ : ∃ z, z = t.num := ⟨_, rfl⟩
      rw [← hz] at hp x1
      have HP := Lib.hid hp
      clear h2 hp hz
      go_upto_block 0 with fail
      go_cut [5, 9] (fun v _ wx => ∃ k : Nat, k ≤ n ∧ v = .int .i64 (k : Int) ∧ Hid (∀ j, j < k → acc.getD j 0 < z) ∧ Hid (k < n → z ≤ acc.getD k 0) ∧ Hid (∃ p, wx = w1.drewN p) ∧ ∃ u : World, u = wx)
      case first =>
        go_wp2_with fail
        go_loopw [5] (fun v wr => ∃ (k p : Nat), k ≤ n ∧ v = .int .i64 (k : Int) ∧ wr = w1.drewN p ∧ Hid (∀ j, j < k → acc.getD j 0 < z)) (fun v _ => n - (RowKit.intOf v).toNat)
        case atStart => exact ⟨0, 0, by omega, rfl, rfl, Lib.hid fun j hj => by omega⟩
        case round =>
          obtain ⟨k, p, hk, rfl, rfl, hj⟩ := hrel
          by_cases hlt : k < n
          · obtain ⟨b, off, rfl, c0⟩ := HL1.out.int_at hlt
            obtain ⟨x, hx⟩ : ∃ x, x = acc.getD k 0 := ⟨_, rfl⟩
            rw [← hx] at c0
            have HX := Lib.hid hx
            have hlt2 : (k : Int) < (n : Int) := by omega
            have hk0 : (0 : Int) ≤ (k : Int) := by omega
            clear hx
            by_cases h1 : x < z
            · go_wp2
              go_quiet (fail)
              go_wp2
              go_roundw
              case rel =>
                refine ⟨k + 1, _, by omega, by go_num, rfl, Lib.hid fun j hj2 => ?_⟩
                by_cases e : j = k
                · rw [e, ← HX.out]; exact h1
                · exact hj.out j (by omega)
              case measure => simp [RowKit.intOf]; omega
            · have h3 : z ≤ x := by omega
              go_wp2
              go_quiet (fail)
              go_wp2
              go_meet
              exact ⟨k, by omega, rfl, hj, Lib.hid fun _ => by rw [← HX.out]; exact h3, Lib.hid (by first | exact ⟨_, rfl⟩ | exact ⟨_, drew2 _ _ _⟩), _, rfl⟩
          · have hnl : (n : Int) ≤ (k : Int) := by omega
            go_wp2
            go_quiet (fail)
            go_wp2
            go_meet
            exact ⟨k, by omega, rfl, hj, Lib.hid fun h => absurd h hlt, Lib.hid (by first | exact ⟨_, rfl⟩ | exact ⟨_, drew2 _ _ _⟩), _, rfl⟩
      case rest =>
        obtain ⟨k, hk, rfl, hj, hge, hp, wx, hwx⟩ := hcut
        subst hwx
        have hk0 : (0 : Int) ≤ (k : Int) := by omega
        have x1' : wx.cell? ⟨g, 1, none⟩ = some (.int .i64 z) := by obtain ⟨p, rfl⟩ := hp.out; exact x1
        have x2' : wx.cell? ⟨g, 2, none⟩ = some (.slice A m c) := by obtain ⟨p, rfl⟩ := hp.out; exact x2
        have HBX : Hid (Below w.heap.size w wx) := by obtain ⟨p, rfl⟩ := hp.out; exact Lib.hid (below_drewN' HB1.out p)
        have HLX : Hid (Sl wx (.slice B n d) n 1 (intCells acc)) := by obtain ⟨p, rfl⟩ := hp.out; exact Lib.hid (HL1.out.drewN p)
        clear x0 x1 x2 hp
        by_cases hst : k < n ∧ acc.getD k 0 = z
        · obtain ⟨hlt, hst⟩ := hst
          obtain ⟨b, off, rfl, c0⟩ := HLX.out.int_at hlt
          have HK := Lib.hid (insV_keep (by rw [← HLN.out]; exact hlt) hj.out hst)
          rw [hst] at c0
          have hz1 : (z == z) = true := by simp
          have hz2 : (z != z) = false := by simp
          have hne : ((k : Int) == (n : Int)) = false := by simp; omega
          have hlt2 : (k : Int) < (n : Int) := by omega
          clear hst
          go_wp2_with fail
          go_quiet (fail)
          go_wp2_with fail
          go_meet
          refine ⟨d, _, by rw [HP.out, HK.out, HLN.out], Lib.hid ?_, Lib.hid (below_drewN' HBX.out _), Lib.hid x2'⟩
          rw [HP.out, HK.out, ← HLN.out]
          exact HLX.out.drewN _
        · have HI : Hid (pre = acc.take k ++ z :: acc.drop k) := by
            refine Lib.hid (HP.out.trans (insV_split (by rw [← HLN.out]; exact hk) hj.out (fun hl2 => ?_)))
            rw [← HLN.out] at hl2
            have h1 := hge.out hl2
            by_cases e : acc.getD k 0 = z
            · exact absurd ⟨hl2, e⟩ hst
            · omega
          have hkd : k ≤ d := by omega
          have hkn : (k : Int) ≤ (n : Int) := by omega
          have T1 := Lib.hid (HLX.out.take1 (k := k) hk)
          have T2 := Lib.hid (HLX.out.drop1 (k := k) hk)
          have ONE := Lib.hid (one1 z)
          have E4 := Lib.hid (show intCells (acc.take k) ++ [Value.int .i64 z] ++ intCells (acc.drop k) = intCells pre by rw [HI.out]; simp [intCells])
          have HM := Lib.hid (show k + 1 + (n - k) = pre.length by rw [HI.out, List.length_append, List.length_cons, List.length_take, List.length_drop, ← HLN.out]; omega)
          obtain ⟨D, hD1, hD3, hD2⟩ : ∃ D, (if d = k then B else B.map (fun x => x.add (k * 1))) = D ∧ (if d = k then B else B.map (fun x => x.add k)) = D ∧ dropA1 B d k = D := ⟨_, rfl, by simp, rfl⟩
          rw [hD2] at T2
          clear hD2
          have HST := Lib.hid hst
          clear hst
          have x1a : ∀ p o, ((wx.drewN p).alloc o).cell? ⟨g, 1, none⟩ = some (.int .i64 z) := fun p o => cell_kept ((below_drewN' (Below.refl _ wx) p).alloc (Nat.le_refl _) o) x1'
          by_cases hkn2 : k = n
          · subst hkn2
            rw [Nat.sub_self] at T2 HM
            have hne : ((k : Int) == (k : Int)) = true := by simp
            go_wp2_with fail
            go_quiet (fail)
            go_wp2_with fail
            go_region_law (first
              | (refine step_append_sl ints_ty rfl (.tmp 38) (.tmp 41) rfl wx.heap.size rfl (by first | exact own_fresh1 _ _ _ _ rfl (Nat.le_refl _) | exact (own_fresh1 _ _ _ _ rfl (Nat.le_refl _)).alloc _ | exact own_fresh1 _ _ _ _ (by simp) (by simp)) rfl (by first | exact T1.out.below ((below_drewN' (Below.refl _ wx) _).alloc (Nat.le_refl _) _) | exact T1.out.below (((below_drewN' (Below.refl _ wx) _).alloc (Nat.le_refl _) _).alloc (by simp) _)) (int_one _) (by omega) (by omega) (by first | (simp; omega) | simp) ?_; intro v1 w6 hown1 hg0 hat1; have hg1 : World.grownBy _ w6 (some _) := hg0; have hb1 : Below wx.heap.size wx w6 := (by first | exact (((below_drewN' (Below.refl _ wx) _).alloc (Nat.le_refl _) _)).grown hg1 (by first | (simp; omega) | simp) (fun q hq => by cases hq; first | exact Nat.le_refl _ | (simp; omega) | simp) | exact ((((below_drewN' (Below.refl _ wx) _).alloc (Nat.le_refl _) _).alloc (by simp) _)).grown hg1 (by first | (simp; omega) | simp) (fun q hq => by cases hq; first | exact Nat.le_refl _ | (simp; omega) | simp)); have HBq1 := Lib.hid hb1; have q1 := cell_kept hb1 x1'; have HO1 := Lib.hid hown1; have HG1 := Lib.hid hg1; clear hown1 hg1 hg0 hat1 hb1)
              | (refine step_append_sl ints_ty rfl (.tmp 42) (.tmp 45) rfl wx.heap.size rfl (by first | exact HO1.out | exact HO1.out.alloc _) rfl (by first | exact Sl.new _ _ [Value.int .i64 z] 1 1 rfl (by omega) | exact Sl.one_kept1 (two_a (wx.drewN _) _ _) HG1.out (by simp) | exact Sl.one_kept1 (two_b (wx.drewN _) _ _) HG1.out (by simp)) ONE.out (by omega) (by omega) (by first | exact HBq1.out.size | (have := HBq1.out.size; simp; omega)) ?_; intro v2 w7 hown2 hg2 hat2; have hb2 : Below wx.heap.size wx w7 := (by first | exact HBq1.out.grown hg2 HBq1.out.size (fun q hq => (HO1.out.lt q hq).1) | exact (HBq1.out.alloc HBq1.out.size _).grown hg2 (by have := HBq1.out.size; simp; omega) (fun q hq => (HO1.out.lt q hq).1)); have HBq2 := Lib.hid hb2; have q2 := cell_kept hb2 x1'; have HO2 := Lib.hid hown2; clear hown2 hg2 hat2 hb2)
              | (refine step_append_sl ints_ty rfl (.tmp 46) (.tmp 49) rfl wx.heap.size rfl (by exact HO2.out) rfl (by exact T2.out.below HBq2.out) (int_one _) (by omega) (by omega) HBq2.out.size ?_; intro v3 w8 hown3 hg3 hat3; have hb3 : Below wx.heap.size wx w8 := HBq2.out.grown hg3 HBq2.out.size (fun q hq => (HO2.out.lt q hq).1); obtain ⟨A3, c3, rfl, _, _⟩ := own_form hown3; have HBq3 := Lib.hid hb3; have q3 := Lib.hid (cell_kept hb3 x2'); have HO3 := Lib.hid hown3; clear hown3 hg3 hat3 hb3))
            all_goals
              go_wp2_with fail
              go_meet
              have ho := HO3.out
              rw [List.nil_append, Nat.zero_add, E4.out] at ho
              have ho2 := Sl.of_own ho
              rw [HM.out] at ho2
              exact ⟨_, _, by first | rw [← HM.out] | rw [← HM.out, Nat.zero_add], Lib.hid ho2, Lib.hid (below_then HBX.out HBq3.out), q3⟩
          · have hlt : k < n := by omega
            obtain ⟨b, off, hB, c0⟩ := HLX.out.int_at hlt
            obtain ⟨x, hx⟩ : ∃ x, x = acc.getD k 0 := ⟨_, rfl⟩
            rw [← hx] at c0
            have hne : ((k : Int) == (n : Int)) = false := by simp; omega
            have hxz : (x == z) = false := by rw [beq_eq_false_iff_ne]; intro e; exact HST.out ⟨hlt, hx.symm.trans e⟩
            have hxz2 : (x != z) = true := by simp [bne, hxz]
            have hlt2 : (k : Int) < (n : Int) := by omega
            subst hB
            have hD4 : (if d = k then some (⟨b, off, none⟩ : Addr) else some ⟨b, off + k, none⟩) = D := by rw [← hD3]; simp [Go.WideShapes.add_plain]
            clear hx
            go_wp2_with fail
            go_quiet (fail)
            go_wp2_with fail
            go_region_law (first
              | (refine step_append_sl ints_ty rfl (.tmp 38) (.tmp 41) rfl wx.heap.size rfl (by first | exact own_fresh1 _ _ _ _ rfl (Nat.le_refl _) | exact (own_fresh1 _ _ _ _ rfl (Nat.le_refl _)).alloc _ | exact own_fresh1 _ _ _ _ (by simp) (by simp)) rfl (by first | exact T1.out.below ((below_drewN' (Below.refl _ wx) _).alloc (Nat.le_refl _) _) | exact T1.out.below (((below_drewN' (Below.refl _ wx) _).alloc (Nat.le_refl _) _).alloc (by simp) _)) (int_one _) (by omega) (by omega) (by first | (simp; omega) | simp) ?_; intro v1 w6 hown1 hg0 hat1; have hg1 : World.grownBy _ w6 (some _) := hg0; have hb1 : Below wx.heap.size wx w6 := (by first | exact (((below_drewN' (Below.refl _ wx) _).alloc (Nat.le_refl _) _)).grown hg1 (by first | (simp; omega) | simp) (fun q hq => by cases hq; first | exact Nat.le_refl _ | (simp; omega) | simp) | exact ((((below_drewN' (Below.refl _ wx) _).alloc (Nat.le_refl _) _).alloc (by simp) _)).grown hg1 (by first | (simp; omega) | simp) (fun q hq => by cases hq; first | exact Nat.le_refl _ | (simp; omega) | simp)); have HBq1 := Lib.hid hb1; have q1 := cell_kept hb1 x1'; have HO1 := Lib.hid hown1; have HG1 := Lib.hid hg1; clear hown1 hg1 hg0 hat1 hb1)
              | (refine step_append_sl ints_ty rfl (.tmp 42) (.tmp 45) rfl wx.heap.size rfl (by first | exact HO1.out | exact HO1.out.alloc _) rfl (by first | exact Sl.new _ _ [Value.int .i64 z] 1 1 rfl (by omega) | exact Sl.one_kept1 (two_a (wx.drewN _) _ _) HG1.out (by simp) | exact Sl.one_kept1 (two_b (wx.drewN _) _ _) HG1.out (by simp)) ONE.out (by omega) (by omega) (by first | exact HBq1.out.size | (have := HBq1.out.size; simp; omega)) ?_; intro v2 w7 hown2 hg2 hat2; have hb2 : Below wx.heap.size wx w7 := (by first | exact HBq1.out.grown hg2 HBq1.out.size (fun q hq => (HO1.out.lt q hq).1) | exact (HBq1.out.alloc HBq1.out.size _).grown hg2 (by have := HBq1.out.size; simp; omega) (fun q hq => (HO1.out.lt q hq).1)); have HBq2 := Lib.hid hb2; have q2 := cell_kept hb2 x1'; have HO2 := Lib.hid hown2; clear hown2 hg2 hat2 hb2)
              | (refine step_append_sl ints_ty rfl (.tmp 46) (.tmp 49) rfl wx.heap.size rfl (by exact HO2.out) rfl (by exact T2.out.below HBq2.out) (int_one _) (by omega) (by omega) HBq2.out.size ?_; intro v3 w8 hown3 hg3 hat3; have hb3 : Below wx.heap.size wx w8 := HBq2.out.grown hg3 HBq2.out.size (fun q hq => (HO2.out.lt q hq).1); obtain ⟨A3, c3, rfl, _, _⟩ := own_form hown3; have HBq3 := Lib.hid hb3; have q3 := Lib.hid (cell_kept hb3 x2'); have HO3 := Lib.hid hown3; clear hown3 hg3 hat3 hb3))
            all_goals
              go_wp2_with fail
              go_meet
              have ho := HO3.out
              rw [List.nil_append, Nat.zero_add, E4.out] at ho
              have ho2 := Sl.of_own ho
              rw [HM.out] at ho2
              exact ⟨_, _, by first | rw [← HM.out] | rw [← HM.out, Nat.zero_add], Lib.hid ho2, Lib.hid (below_then HBX.out HBq3.out), q3⟩
    · have bk : (t.kind == 2) = false := by simpa using h2
      have hp : pre = acc := by rw [HPRE.out, if_neg h2]
      have HP := Lib.hid hp
      clear h2 hp
      go_wp2_with fail
      go_meet
      refine ⟨d, B, by rw [HP.out, HLN.out], Lib.hid ?_, HB1, Lib.hid x2⟩
      rw [HP.out, ← HLN.out]
      exact HL1.out
  case rest =>
    obtain ⟨q0, C0, rfl, hO, hB2, hX⟩ := hcut
    have x2' := hX.out
    clear x0 x1 x2
    go_wp2_with fail
    go_loopw [1, 6] (fun v1 v6 wr => ∃ (k n : Nat) (L : List Int) (C : Option Addr) (q : Nat), k ≤ m ∧ v6 = .int .i64 (k : Int) ∧ v1 = .slice C n q ∧ Hid (L = varsRL (t.kids.take k) pre) ∧ Hid (n = L.length) ∧ Hid (Sl wr (.slice C n q) n 1 (intCells L)) ∧ Hid (Below w.heap.size w wr) ∧ Hid (wr.cell? ⟨g, 2, none⟩ = some (.slice A m c))) (fun _ v6 _ => m - (RowKit.intOf v6).toNat)
    case atStart => exact ⟨0, pre.length, pre, C0, q0, by omega, rfl, rfl, Lib.hid (by simp [varsRL_nil]), Lib.hid rfl, hO, hB2, hX⟩
    case round =>
      obtain ⟨k, nl, L, C, q, hk, rfl, rfl, hL, hn, hOw, hB, hX⟩ := hrel
      have x2' := hX.out
      have hLn := varsRL_len (t.kids.take k) pre
      rw [← hL.out] at hLn
      by_cases hlt : k < m
      · obtain ⟨b, off, rfl, A', m', c', hK⟩ := (h.out.kept hB.out).kid hlt
        have hkd := Tr.kid_lt (t := t) (j := k) (by omega)
        have hdr := sizeL_snoc (l := t.kids) (k := k) (by omega)
        have hdl := sizeL_take t.kids (k + 1)
        have hst : varsRL (t.kids.take (k + 1)) pre = varsR (t.kids.getD k default) (varsRL (t.kids.take k) pre) := by rw [take_snocT (by omega), varsRL_app, varsRL, varsRL_nil]
        rw [← hL.out] at hst
        obtain ⟨u, hu⟩ : ∃ u, u = t.kids.getD k default := ⟨_, rfl⟩
        rw [← hu] at hK hkd hdr hst
        have c0 := hK.c0
        have c1 := hK.c1
        have c2 := hK.c2
        have hnl := hn.out
        have CQ := Lib.hid (IH.out u (by omega) A' m' c' C q L nl wr hn (Lib.hid hK.tr) hOw (by omega))
        obtain ⟨V, hV⟩ : ∃ V, V = varsR u L := ⟨_, rfl⟩
        rw [← hV] at hst CQ
        have HST := Lib.hid hst
        have hlt2 : (k : Int) < (m : Int) := by omega
        have hk0 : (0 : Int) ≤ (k : Int) := by omega
        clear hst hu hkd hK hV hdr hdl hLn hnl
        go_wp2_with (go_at_call 44; refine CQ.out.mono ?_; rintro e w5 ⟨A3, c3, rfl, hS5, hb5⟩; have HB5 := Lib.hid (below_then hB.out hb5.out); have hX5 := Lib.hid (cell_kept hb5.out x2'); clear hb5)
        go_roundw
        case rel => exact ⟨k + 1, _, V, _, _, by omega, by go_num, rfl, Lib.hid HST.out.symm, Lib.hid rfl, hS5, HB5, hX5⟩
        case measure => simp [RowKit.intOf]; omega
      · have e1 : t.kids.take k = t.kids := List.take_of_length_le (by omega)
        have hL2 := hL.out
        rw [e1] at hL2
        have hV2 : varsR t acc = L := by rw [HV.out, hL2]
        have HV2 := Lib.hid hV2
        have hnl := hn.out
        subst hnl
        clear e1 hL2 hV2
        go_wp2_with fail
        go_ret
        rw [HV2.out]
        exact ⟨_, _, rfl, hOw, hB⟩
theorem r_vars : ∀ N, VarsRAt N
  | 0 => fun t hN _ _ _ _ _ _ _ _ _ _ _ _ => by have := t.sz_pos; omega
  | N + 1 => r_vars_step N (Lib.hid (r_vars N))
theorem r_Vars (t : Tr) (A : Option Addr) (m c : Nat) (w : World) (h : Hid (TrAt w A m c t)) (hsz : sizeT t ≤ 1000000) : Calls Tryd.prog 21 #[t.val A m c] w (IntsP (varsR t []) w) := by
  have hb := (Below.refl w.heap.size w).alloc (Nat.le_refl _) (.cells #[.int .i64 t.kind, .int .i64 t.num, .slice A m c] 24)
  have x0 := cell_new w #[.int .i64 t.kind, .int .i64 t.num, .slice A m c] 24 0 _ rfl
  have x1 := cell_new w #[.int .i64 t.kind, .int .i64 t.num, .slice A m c] 24 1 _ rfl
  have x2 := cell_new w #[.int .i64 t.kind, .int .i64 t.num, .slice A m c] 24 2 _ rfl
  have hT := Lib.hid (h.out.kept hb)
  have HB1 := Lib.hid hb
  obtain ⟨w1, hw1⟩ : ∃ w1, w1 = w.alloc (.cells #[.int .i64 t.kind, .int .i64 t.num, .slice A m c] 24) := ⟨_, rfl⟩
  have HW1 := Lib.hid hw1
  rw [← hw1] at hT x0 x1 x2 HB1
  have CQ := Lib.hid (r_vars t.sz t (Nat.le_refl _) A m c none 0 [] 0 w1 (Lib.hid rfl) hT (Lib.hid (Sl.none_ _ _)) (by omega))
  clear hb hw1
  go_enter Tryd.func21, Tryd.ntmps21
  go_upto_region 1 with fail
  rw [← HW1.out]
  go_wp2_with (go_at_call 44; refine CQ.out.mono ?_; rintro e w5 ⟨A3, c3, rfl, hS5, hb5⟩; have HB5 := Lib.hid (below_then HB1.out hb5.out))
  go_ret
  exact ⟨_, _, rfl, hS5, HB5⟩
end Go.Proofs.YtmfdiclbenmfbaaDoor
