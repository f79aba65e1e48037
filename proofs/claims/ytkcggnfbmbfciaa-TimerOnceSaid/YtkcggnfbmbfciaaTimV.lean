/- The law TimerNext, walked. -/
import Derived.Test.YtkcggnfbmbfciaaTimN
import Derived.Test.YtkcggnfbmbfciaaTimU
namespace Go.Proofs.Ytkcggnfbmbfciaa
open Go.RowKit
theorem next_cases (S : List (Int × Int)) (id at_ : Int) : (∃ r c v R, addE id S = r ∧ addP id at_ S = (c, v) :: R ∧ S = [] ∧ r = 0 ∧ c = id ∧ v = at_) ∨
    (∃ a t T, S = (a, t) :: T ∧ ((addE id S = 5 ∧ addP id at_ S = (a, t) :: T) ∨
      (addE id S = 0 ∧ addP id at_ S = (id, at_) :: (a, t) :: T ∧ at_ < t) ∨ (addE id S = 0 ∧ addP id at_ S = (a, t) :: insP (id, at_) T ∧ t < at_) ∨
      (addE id S = 0 ∧ addP id at_ S = (id, at_) :: (a, t) :: T ∧ at_ = t ∧ id < a) ∨ (addE id S = 0 ∧ addP id at_ S = (a, t) :: insP (id, at_) T ∧ at_ = t ∧ a < id))) := by
  cases S with
  | nil => exact .inl ⟨_, _, _, _, rfl, rfl, rfl, rfl, rfl, rfl⟩
  | cons p T =>
    obtain ⟨a, t⟩ := p
    refine .inr ⟨a, t, T, rfl, ?_⟩
    unfold addE addP
    rcases hh : hasP id ((a, t) :: T) with _ | _
    · right
      have hne : a ≠ id := has_false.1 hh (a, t) (by simp)
      simp only [Bool.false_eq_true, if_false]
      have e1 : ∀ {P : Prop}, (ltP (a, t) (id, at_) ↔ P) → insP (id, at_) ((a, t) :: T) = if ltP (a, t) (id, at_) then (a, t) :: insP (id, at_) T else (id, at_) :: (a, t) :: T := fun _ => rfl
      rw [e1 Iff.rfl]
      by_cases h1 : at_ < t
      · left
        rw [if_neg (by unfold ltP; simp only; omega)]
        exact ⟨trivial, rfl, h1⟩
      · by_cases h2 : t < at_
        · right; left
          rw [if_pos (by unfold ltP; simp only; omega)]
          exact ⟨trivial, rfl, h2⟩
        · right; right
          by_cases h3 : id < a
          · left
            rw [if_neg (by unfold ltP; simp only; omega)]
            exact ⟨trivial, rfl, by omega, h3⟩
          · right
            rw [if_pos (by unfold ltP; simp only; omega)]
            exact ⟨trivial, rfl, by omega, by omega⟩
    · left
      exact ⟨rfl, rfl⟩
theorem ql_All {w0 w : World} {g up : Nat} {S : List (Int × Int)} (H : Hid (QL w0 up w g S)) (hn : S.length < 8192) :
    Calls Try.prog 15 #[.pointer (some ⟨g, 0, none⟩)] w fun e w' => ∃ A c, e = .returned (.slice A S.length c) ∧ Hid (w'.ownsRow w.heap.size 28 2 (.slice A S.length c) S.length (pairCells S)) ∧ QL w0 up w' g S := by
  refine (tim_All g _ S w (Lib.hid H.out.q) hn).mono ?_
  rintro e w' ⟨A, c, rfl, h1, h2⟩
  exact ⟨A, c, rfl, h1, H.out.other h2⟩
set_option maxRecDepth 100000 in
set_option maxHeartbeats 4000000 in
theorem law_TimerNext (A : Option Addr) (n c : Nat) (L : List (Int × Int)) (id at_ : Int) (w : World) (hL : Hid (Sl w (.slice A n c) n 2 (pairCells L))) (hn : n ≤ 9223372036854775807) (hLi : Hid (∀ p ∈ L, I64 p.1 ∧ I64 p.2)) (hid : I64 id) :
    Calls Try.prog 6 #[.slice A n c, .int .i64 id, .int .i64 at_] w fun e w' => e = .returned (.bool true) ∧ Below w.heap.size w w' := by
  have hlen := Lib.hid (show L.length = n by have := hL.out.len; rw [pairCells_len] at this; omega)
  go_enter Try.func6, Try.ntmps6
  go_wp2_with fail
  refine (law14_small w).mono ?_
  rintro e w1 ⟨rfl, hb1⟩
  have HB1 := Lib.hid hb1
  clear hb1
  go_wp2_with fail
  refine (ql_New w w1 HB1.out).mono ?_
  rintro e w2 ⟨g, rfl, h2⟩
  have H2 := Lib.hid h2
  clear h2
  by_cases hbig : 60 < n
  · have d1 : (60 : Int) < (n : Int) := by omega
    go_wp2
    go_ret
    exact ⟨rfl, H2.out.bel⟩
  · have d1 : (n : Int) ≤ 60 := by omega
    go_wp2
    go_loopw [9] (fun v wr => ∃ (k : Nat) (up : Nat), k ≤ n ∧ v = .int .i64 (k : Int) ∧ Hid (QL w up wr g (addL (L.take k)))) (fun v _ => n - (intOf v).toNat)
    case atStart => exact ⟨0, _, by omega, rfl, H2⟩
    case round =>
      obtain ⟨k, up, hk, rfl, hQ⟩ := hrel
      by_cases hlt : k < n
      · obtain ⟨b, off, rfl, p0, p1⟩ := (hL.out.below hQ.out.bel).pair_at hlt
        have hkl : k < L.length := by rw [hlen.out]; exact hlt
        have hst := Lib.hid (addL_step hkl)
        obtain ⟨x, hx⟩ : ∃ x, x = L.getD k (0, 0) := ⟨_, rfl⟩
        have hxi : I64 x.1 ∧ I64 x.2 := by
          refine hLi.out x ?_
          rw [hx, List.getD, List.getElem?_eq_getElem hkl]
          exact List.getElem_mem hkl
        rw [← hx] at p0 p1 hst
        have hSl : (addL (L.take k)).length < 4096 := by
          have h1 := addL_len (L.take k)
          have h2 := List.length_take_le k L
          omega
        obtain ⟨S, hS⟩ : ∃ S, S = addL (L.take k) := ⟨_, rfl⟩
        rw [← hS] at hQ hSl hst
        obtain ⟨px, py⟩ := x
        simp only at p0 p1 hxi hst
        have cA := fun q => Lib.hid (ql_Add (id := px) (at_ := py) (Lib.hid (hQ.out.drewN q)) hxi.1 hSl)
        have hlt2 : (k : Int) < (n : Int) := by omega
        have hk0 : (0 : Int) ≤ (k : Int) := by omega
        clear hx hS hSl hkl hxi
        go_wp2
        go_region_with (go_at_call 10; refine (cA _).out.mono ?_; rintro e w' ⟨rfl, h1, _⟩; rw [← hst.out] at h1; have HH := Lib.hid h1; clear h1)
        all_goals
          clear cA p0 p1
          go_wp2_with fail
          go_roundw
          case rel => exact ⟨k + 1, _, by omega, by go_num, HH⟩
          case measure => simp [intOf]; omega
      · have e1 : k = n := by omega
        have e2 : L.take k = L := by rw [e1, List.take_of_length_le]; rw [hlen.out]; exact Nat.le_refl _
        rw [e2] at hQ
        clear e1 e2 hL
        have hS1 := addL_srt L
        have hS2 := addL_all (P := fun p => I64 p.1 ∧ I64 p.2) hLi.out
        have hS3 := addL_len L
        rw [hlen.out] at hS3
        obtain ⟨S, hS⟩ : ∃ S, S = addL L := ⟨_, rfl⟩
        rw [← hS] at hQ hS1 hS2 hS3
        clear hS
        have hS4 : S.length < 4096 := by omega
        have HI := Lib.hid (show ∀ p ∈ addP id at_ S, I64 p.1 from fun p hp => by
          rcases addP_mem hp with h | h
          · rw [h]; exact hid
          · exact (hS2 p h).1)
        have HLA := Lib.hid (show (addP id at_ S).length < 8192 from by have := addP_len id at_ S; omega)
        have hcs := next_cases S id at_
        clear hS1 hS2 hS3
        rcases hcs with ⟨r, c', v, R, e1, e2, hS0, hr0, hc0, hv0⟩ | ⟨a, t, T, rfl, hcs⟩
        · have e3 : True := trivial
          rw [hc0, hv0] at e2
          rw [hr0] at e1
          clear hc0 hv0 hr0
          subst hS0
          have E1 := Lib.hid e1
          have E2 := Lib.hid e2
          have E3 := Lib.hid e3
          have dl : dueP at_ ((id, at_) :: R) = id :: dueP at_ R := (due_cons (Int.le_refl _)).1
          obtain ⟨l, hl⟩ : ∃ l, l = dueP at_ R := ⟨_, rfl⟩
          rw [← hl] at dl
          have DL := Lib.hid dl
          rw [e2] at HI HLA
          clear e1 e2 e3 dl hl
          have nq := neq_pair
          go_wp2_with fail
          refine (ql_Next hQ).mono ?_
          rintro e w3 ⟨rfl, q3, rfl⟩
          have H3 := Lib.hid (hQ.out.drewN q3)
          go_wp2_with fail
          refine (ql_Next H3).mono ?_
          rintro e w4 ⟨rfl, q4, rfl⟩
          have H4 := Lib.hid (hQ.out.drewN (q3 + q4))
          go_wp2_with fail
          refine (ql_Len H4).mono ?_
          rintro e w5 ⟨rfl, rfl⟩
          go_wp2_with fail
          refine (ql_All H4 (by omega)).mono ?_
          rintro e w6 ⟨B, d, rfl, hB, h6⟩
          have H6 := Lib.hid h6
          clear h6 H4 H3
          go_wp2_with fail
          refine (ql_Add (at_ := at_) H6 hid hS4).mono ?_
          rintro e w7 ⟨rfl, h7, _⟩
          rw [E1.out]
          rw [E2.out] at h7
          have H7 := Lib.hid h7
          clear h7
          go_wp2_with fail
          refine (ql_Next H7).mono ?_
          rintro e w8 ⟨rfl, q8, rfl⟩
          have H8 := Lib.hid (H7.out.drewN q8)
          go_wp2_with fail
          refine (ql_Due H8 HLA.out HI).mono ?_
          rintro e w9 ⟨C, d9, rfl, hC, h9, _⟩
          rw [DL.out] at hC ⊢
          obtain ⟨b9, o9, rfl, p9⟩ := (Sl.of_own hC).int_at (k := 0) (by simp)
          have HB9 := Lib.hid h9.bel
          have p9' : w9.cell? ⟨b9, o9, none⟩ = some (.int .i64 id) := p9
          clear h9 hC p9 H8 H7
          go_wp2
          go_ret
          exact ⟨rfl, HB9.out⟩
        · rcases hcs with ⟨e1, e2⟩ | ⟨e1, e2, e3⟩ | ⟨e1, e2, e3⟩ | ⟨e1, e2, rfl, e3⟩ | ⟨e1, e2, rfl, e3⟩
          · have e3 : True := trivial
            have E1 := Lib.hid e1
            have E2 := Lib.hid e2
            have E3 := Lib.hid e3
            have dl : dueP t ((a, t) :: T) = a :: dueP t T := (due_cons (Int.le_refl _)).1
            obtain ⟨l, hl⟩ : ∃ l, l = dueP t T := ⟨_, rfl⟩
            rw [← hl] at dl
            have DL := Lib.hid dl
            rw [e2] at HI HLA
            clear e1 e2 e3 dl hl
            have nq := neq_pair
            go_wp2_with fail
            refine (ql_Next hQ).mono ?_
            rintro e w3 ⟨rfl, q3, rfl⟩
            have H3 := Lib.hid (hQ.out.drewN q3)
            go_wp2_with fail
            refine (ql_Next H3).mono ?_
            rintro e w4 ⟨rfl, q4, rfl⟩
            have H4 := Lib.hid (hQ.out.drewN (q3 + q4))
            go_wp2_with fail
            refine (ql_Len H4).mono ?_
            rintro e w5 ⟨rfl, rfl⟩
            go_wp2_with fail
            refine (ql_All H4 (by omega)).mono ?_
            rintro e w6 ⟨B, d, rfl, hB, h6⟩
            have H6 := Lib.hid h6
            clear h6 H4 H3
            have hlp : 0 < T.length + 1 := by omega
            obtain ⟨b6, o6, rfl, p60, p61⟩ := (Sl.of_own hB.out).pair_at (k := 0) (by simp)
            have p60' : w6.cell? ⟨b6, o6, none⟩ = some (.int .i64 a) := p60
            have p61' : w6.cell? ⟨b6, o6 + 1, none⟩ = some (.int .i64 t) := p61
            clear p60 p61 hB
            go_wp2_with fail
            refine (ql_Len H6).mono ?_
            rintro e w7 ⟨rfl, rfl⟩
            go_wp2_with fail
            refine (ql_Add (at_ := at_) H6 hid hS4).mono ?_
            rintro e w7 ⟨rfl, h7, _⟩
            rw [E1.out]
            rw [E2.out] at h7
            have H7 := Lib.hid h7
            clear h7
            go_wp2_with fail
            refine (ql_Next H7).mono ?_
            rintro e w8 ⟨rfl, q8, rfl⟩
            have H8 := Lib.hid (H7.out.drewN q8)
            go_wp2_with fail
            refine (ql_Due H8 HLA.out HI).mono ?_
            rintro e w9 ⟨C, d9, rfl, hC, h9, _⟩
            rw [DL.out] at hC ⊢
            obtain ⟨b9, o9, rfl, p9⟩ := (Sl.of_own hC).int_at (k := 0) (by simp)
            have HB9 := Lib.hid h9.bel
            have p9' : w9.cell? ⟨b9, o9, none⟩ = some (.int .i64 a) := p9
            clear h9 hC p9 H8 H7
            go_wp2
            go_ret
            exact ⟨rfl, HB9.out⟩
          · have d1 : decide (t < at_) = false := by simp; omega
            have d2 : (at_ == t) = false := by simp; omega
            have d3 := e3
            have E1 := Lib.hid e1
            have E2 := Lib.hid e2
            have E3 := Lib.hid e3
            have dl : dueP at_ ((id, at_) :: ((a, t) :: T)) = id :: dueP at_ ((a, t) :: T) := (due_cons (Int.le_refl _)).1
            obtain ⟨l, hl⟩ : ∃ l, l = dueP at_ ((a, t) :: T) := ⟨_, rfl⟩
            rw [← hl] at dl
            have DL := Lib.hid dl
            rw [e2] at HI HLA
            clear e1 e2 e3 dl hl
            have nq := neq_pair
            go_wp2_with fail
            refine (ql_Next hQ).mono ?_
            rintro e w3 ⟨rfl, q3, rfl⟩
            have H3 := Lib.hid (hQ.out.drewN q3)
            go_wp2_with fail
            refine (ql_Next H3).mono ?_
            rintro e w4 ⟨rfl, q4, rfl⟩
            have H4 := Lib.hid (hQ.out.drewN (q3 + q4))
            go_wp2_with fail
            refine (ql_Len H4).mono ?_
            rintro e w5 ⟨rfl, rfl⟩
            go_wp2_with fail
            refine (ql_All H4 (by omega)).mono ?_
            rintro e w6 ⟨B, d, rfl, hB, h6⟩
            have H6 := Lib.hid h6
            clear h6 H4 H3
            have hlp : 0 < T.length + 1 := by omega
            obtain ⟨b6, o6, rfl, p60, p61⟩ := (Sl.of_own hB.out).pair_at (k := 0) (by simp)
            have p60' : w6.cell? ⟨b6, o6, none⟩ = some (.int .i64 a) := p60
            have p61' : w6.cell? ⟨b6, o6 + 1, none⟩ = some (.int .i64 t) := p61
            clear p60 p61 hB
            go_wp2_with fail
            refine (ql_Len H6).mono ?_
            rintro e w7 ⟨rfl, rfl⟩
            go_wp2_with fail
            refine (ql_Add (at_ := at_) H6 hid hS4).mono ?_
            rintro e w7 ⟨rfl, h7, _⟩
            rw [E1.out]
            rw [E2.out] at h7
            have H7 := Lib.hid h7
            clear h7
            go_wp2_with fail
            refine (ql_Next H7).mono ?_
            rintro e w8 ⟨rfl, q8, rfl⟩
            have H8 := Lib.hid (H7.out.drewN q8)
            go_wp2_with fail
            refine (ql_Due H8 HLA.out HI).mono ?_
            rintro e w9 ⟨C, d9, rfl, hC, h9, _⟩
            rw [DL.out] at hC ⊢
            obtain ⟨b9, o9, rfl, p9⟩ := (Sl.of_own hC).int_at (k := 0) (by simp)
            have HB9 := Lib.hid h9.bel
            have p9' : w9.cell? ⟨b9, o9, none⟩ = some (.int .i64 id) := p9
            clear h9 hC p9 H8 H7
            go_wp2
            go_ret
            exact ⟨rfl, HB9.out⟩
          · have d1 : decide (at_ < t) = false := by simp; omega
            have d2 : (at_ == t) = false := by simp; omega
            have d3 := e3
            have E1 := Lib.hid e1
            have E2 := Lib.hid e2
            have E3 := Lib.hid e3
            have dl : dueP t ((a, t) :: (insP (id, at_) T)) = a :: dueP t (insP (id, at_) T) := (due_cons (Int.le_refl _)).1
            obtain ⟨l, hl⟩ : ∃ l, l = dueP t (insP (id, at_) T) := ⟨_, rfl⟩
            rw [← hl] at dl
            have DL := Lib.hid dl
            rw [e2] at HI HLA
            clear e1 e2 e3 dl hl
            have nq := neq_pair
            go_wp2_with fail
            refine (ql_Next hQ).mono ?_
            rintro e w3 ⟨rfl, q3, rfl⟩
            have H3 := Lib.hid (hQ.out.drewN q3)
            go_wp2_with fail
            refine (ql_Next H3).mono ?_
            rintro e w4 ⟨rfl, q4, rfl⟩
            have H4 := Lib.hid (hQ.out.drewN (q3 + q4))
            go_wp2_with fail
            refine (ql_Len H4).mono ?_
            rintro e w5 ⟨rfl, rfl⟩
            go_wp2_with fail
            refine (ql_All H4 (by omega)).mono ?_
            rintro e w6 ⟨B, d, rfl, hB, h6⟩
            have H6 := Lib.hid h6
            clear h6 H4 H3
            have hlp : 0 < T.length + 1 := by omega
            obtain ⟨b6, o6, rfl, p60, p61⟩ := (Sl.of_own hB.out).pair_at (k := 0) (by simp)
            have p60' : w6.cell? ⟨b6, o6, none⟩ = some (.int .i64 a) := p60
            have p61' : w6.cell? ⟨b6, o6 + 1, none⟩ = some (.int .i64 t) := p61
            clear p60 p61 hB
            go_wp2_with fail
            refine (ql_Len H6).mono ?_
            rintro e w7 ⟨rfl, rfl⟩
            go_wp2_with fail
            refine (ql_Add (at_ := at_) H6 hid hS4).mono ?_
            rintro e w7 ⟨rfl, h7, _⟩
            rw [E1.out]
            rw [E2.out] at h7
            have H7 := Lib.hid h7
            clear h7
            go_wp2_with fail
            refine (ql_Next H7).mono ?_
            rintro e w8 ⟨rfl, q8, rfl⟩
            have H8 := Lib.hid (H7.out.drewN q8)
            go_wp2_with fail
            refine (ql_Due H8 HLA.out HI).mono ?_
            rintro e w9 ⟨C, d9, rfl, hC, h9, _⟩
            rw [DL.out] at hC ⊢
            obtain ⟨b9, o9, rfl, p9⟩ := (Sl.of_own hC).int_at (k := 0) (by simp)
            have HB9 := Lib.hid h9.bel
            have p9' : w9.cell? ⟨b9, o9, none⟩ = some (.int .i64 a) := p9
            clear h9 hC p9 H8 H7
            go_wp2
            go_ret
            exact ⟨rfl, HB9.out⟩
          · have d1 : decide (a < id) = false := by simp; omega
            have d3 := e3
            have E1 := Lib.hid e1
            have E2 := Lib.hid e2
            have E3 := Lib.hid e3
            have dl : dueP at_ ((id, at_) :: ((a, at_) :: T)) = id :: dueP at_ ((a, at_) :: T) := (due_cons (Int.le_refl _)).1
            obtain ⟨l, hl⟩ : ∃ l, l = dueP at_ ((a, at_) :: T) := ⟨_, rfl⟩
            rw [← hl] at dl
            have DL := Lib.hid dl
            rw [e2] at HI HLA
            clear e1 e2 e3 dl hl
            have nq := neq_pair
            go_wp2_with fail
            refine (ql_Next hQ).mono ?_
            rintro e w3 ⟨rfl, q3, rfl⟩
            have H3 := Lib.hid (hQ.out.drewN q3)
            go_wp2_with fail
            refine (ql_Next H3).mono ?_
            rintro e w4 ⟨rfl, q4, rfl⟩
            have H4 := Lib.hid (hQ.out.drewN (q3 + q4))
            go_wp2_with fail
            refine (ql_Len H4).mono ?_
            rintro e w5 ⟨rfl, rfl⟩
            go_wp2_with fail
            refine (ql_All H4 (by omega)).mono ?_
            rintro e w6 ⟨B, d, rfl, hB, h6⟩
            have H6 := Lib.hid h6
            clear h6 H4 H3
            have hlp : 0 < T.length + 1 := by omega
            obtain ⟨b6, o6, rfl, p60, p61⟩ := (Sl.of_own hB.out).pair_at (k := 0) (by simp)
            have p60' : w6.cell? ⟨b6, o6, none⟩ = some (.int .i64 a) := p60
            have p61' : w6.cell? ⟨b6, o6 + 1, none⟩ = some (.int .i64 at_) := p61
            clear p60 p61 hB
            go_wp2_with fail
            refine (ql_Len H6).mono ?_
            rintro e w7 ⟨rfl, rfl⟩
            go_wp2_with fail
            refine (ql_Add (at_ := at_) H6 hid hS4).mono ?_
            rintro e w7 ⟨rfl, h7, _⟩
            rw [E1.out]
            rw [E2.out] at h7
            have H7 := Lib.hid h7
            clear h7
            go_wp2_with fail
            refine (ql_Next H7).mono ?_
            rintro e w8 ⟨rfl, q8, rfl⟩
            have H8 := Lib.hid (H7.out.drewN q8)
            go_wp2_with fail
            refine (ql_Due H8 HLA.out HI).mono ?_
            rintro e w9 ⟨C, d9, rfl, hC, h9, _⟩
            rw [DL.out] at hC ⊢
            obtain ⟨b9, o9, rfl, p9⟩ := (Sl.of_own hC).int_at (k := 0) (by simp)
            have HB9 := Lib.hid h9.bel
            have p9' : w9.cell? ⟨b9, o9, none⟩ = some (.int .i64 id) := p9
            clear h9 hC p9 H8 H7
            go_wp2
            go_ret
            exact ⟨rfl, HB9.out⟩
          · have d1 : decide (id < a) = false := by simp; omega
            have d3 := e3
            have E1 := Lib.hid e1
            have E2 := Lib.hid e2
            have E3 := Lib.hid e3
            have dl : dueP at_ ((a, at_) :: (insP (id, at_) T)) = a :: dueP at_ (insP (id, at_) T) := (due_cons (Int.le_refl _)).1
            obtain ⟨l, hl⟩ : ∃ l, l = dueP at_ (insP (id, at_) T) := ⟨_, rfl⟩
            rw [← hl] at dl
            have DL := Lib.hid dl
            rw [e2] at HI HLA
            clear e1 e2 e3 dl hl
            have nq := neq_pair
            go_wp2_with fail
            refine (ql_Next hQ).mono ?_
            rintro e w3 ⟨rfl, q3, rfl⟩
            have H3 := Lib.hid (hQ.out.drewN q3)
            go_wp2_with fail
            refine (ql_Next H3).mono ?_
            rintro e w4 ⟨rfl, q4, rfl⟩
            have H4 := Lib.hid (hQ.out.drewN (q3 + q4))
            go_wp2_with fail
            refine (ql_Len H4).mono ?_
            rintro e w5 ⟨rfl, rfl⟩
            go_wp2_with fail
            refine (ql_All H4 (by omega)).mono ?_
            rintro e w6 ⟨B, d, rfl, hB, h6⟩
            have H6 := Lib.hid h6
            clear h6 H4 H3
            have hlp : 0 < T.length + 1 := by omega
            obtain ⟨b6, o6, rfl, p60, p61⟩ := (Sl.of_own hB.out).pair_at (k := 0) (by simp)
            have p60' : w6.cell? ⟨b6, o6, none⟩ = some (.int .i64 a) := p60
            have p61' : w6.cell? ⟨b6, o6 + 1, none⟩ = some (.int .i64 at_) := p61
            clear p60 p61 hB
            go_wp2_with fail
            refine (ql_Len H6).mono ?_
            rintro e w7 ⟨rfl, rfl⟩
            go_wp2_with fail
            refine (ql_Add (at_ := at_) H6 hid hS4).mono ?_
            rintro e w7 ⟨rfl, h7, _⟩
            rw [E1.out]
            rw [E2.out] at h7
            have H7 := Lib.hid h7
            clear h7
            go_wp2_with fail
            refine (ql_Next H7).mono ?_
            rintro e w8 ⟨rfl, q8, rfl⟩
            have H8 := Lib.hid (H7.out.drewN q8)
            go_wp2_with fail
            refine (ql_Due H8 HLA.out HI).mono ?_
            rintro e w9 ⟨C, d9, rfl, hC, h9, _⟩
            rw [DL.out] at hC ⊢
            obtain ⟨b9, o9, rfl, p9⟩ := (Sl.of_own hC).int_at (k := 0) (by simp)
            have HB9 := Lib.hid h9.bel
            have p9' : w9.cell? ⟨b9, o9, none⟩ = some (.int .i64 a) := p9
            clear h9 hC p9 H8 H7
            go_wp2
            go_ret
            exact ⟨rfl, HB9.out⟩
end Go.Proofs.Ytkcggnfbmbfciaa
