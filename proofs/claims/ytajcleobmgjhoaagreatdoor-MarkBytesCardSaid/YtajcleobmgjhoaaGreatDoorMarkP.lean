/- The small case of law 09 (what Text tells of it is asked for ahead). -/
import Derived.Test.YtajcleobmgjhoaaGreatDoorMarkN
namespace Go.Proofs.YtajcleobmgjhoaaGreatDoor
open Go.RowKit Go.Lib
/-- What Text tells of the small marking. -/
def Text1 : Prop := ∀ (cb fb pb : Nat) (A : Option Addr) (c : Nat) (ys : List Bg) (w : World), Hid (NetOk w cb fb pb) → Hid (Mk w A 2 c ys) → Hid (rowsB ys = [[(0, 3)], []]) →
  Calls Tryz.prog 20 #[net1 cb pb, .slice A 2 c] w fun e w' => e = .returned (.string ⟨#[123, 97, 58, 32, 48, 42, 51, 125]⟩) ∧ Below w.heap.size w w'
theorem enc_small : encM [[(0, 3)], []] = [2, 0, 1, 0, 0, 0, 0, 0, 0, 0, 3, 0, 0] := by decide +kernel
theorem dec_small : decM [2, 0, 1, 0, 0, 0, 0, 0, 0, 0, 3, 0, 0] = some [[(0, 3)], []] := by decide +kernel
theorem encok_small : encOk [[(0, 3)], []] = true := by decide +kernel
theorem same_small : allF sameR [[(0, 3)], []] [[(0, 3)], []] = true := by decide +kernel
theorem fin_end : finalB 2 1 [[], [(2, 1)]] = true := by decide +kernel
theorem end_end : endedB 1 [[], [(2, 1)]] = true := by decide +kernel
theorem fin_m : finalB 2 1 [[(0, 3)], []] = false := by decide +kernel
theorem tot_m : totL [[(0, 3)], []] = 3 := by decide +kernel
theorem with_1 : allF withR [[(0, 1)], []] [[(0, 3)], []] = true := by decide +kernel
theorem with_2 : allF withR [[(0, 3)], []] [[], [(2, 1)]] = false := by decide +kernel
theorem cmp_m {z : Int} (h : MCmp [[(0, 3)], []] [[], [(2, 1)]] z) : z = 1 := by
  rcases h with ⟨h, _⟩ | ⟨_, y, h1, h2⟩
  · exact absurd rfl h
  · have h3 : CmpR [(0, 3)] [] 1 := .inr ⟨by decide +kernel, .inr ⟨0, by decide, fun j hj => by unfold getM; rw [if_neg (by simp only; omega)]; rfl, by decide⟩⟩
    have e : y = 1 := by
      rcases h1 with ⟨p, _⟩ | ⟨_, q⟩
      · exact absurd p (by decide +kernel)
      · rcases h3 with ⟨p, _⟩ | ⟨_, q3⟩
        · exact absurd p (by decide +kernel)
        · exact q.uniq q3
    rcases h2 with ⟨_, rfl⟩ | ⟨h, _⟩
    · exact e
    · omega
structure SmS (w : World) (nb cb fb pb : Nat) (A : Option Addr) (c : Nat) (ys : List Bg) (A2 : Option Addr) (n2 c2 : Nat) (zs : List Bg) (A3 : Option Addr) (es : List Bg) (W : World) : Prop where
  net : NetOk W cb fb pb
  m1 : Mk W A 2 c ys
  m2 : Mk W A2 n2 c2 zs
  m3 : Mk W A3 2 2 es
  k0 : W.cell? ⟨nb, 0, none⟩ = some (.slice (some ⟨cb, 0, none⟩) 1 1)
  k1 : W.cell? ⟨nb, 1, none⟩ = some (.slice (some ⟨pb, 0, none⟩) 2 2)
  k2 : W.cell? ⟨nb, 2, none⟩ = some (.slice none 0 0)
  k3 : W.cell? ⟨nb, 3, none⟩ = some (.int .i64 0)
  k4 : W.cell? ⟨nb, 4, none⟩ = some (.int .i64 1)
  bel : Below w.heap.size w W
theorem SmS.go {w : World} {nb cb fb pb : Nat} {A : Option Addr} {c : Nat} {ys : List Bg} {A2 : Option Addr} {n2 c2 : Nat} {zs : List Bg} {A3 : Option Addr} {es : List Bg} {W W' : World} (h : SmS w nb cb fb pb A c ys A2 n2 c2 zs A3 es W) (hb : Below W.heap.size W W') : SmS w nb cb fb pb A c ys A2 n2 c2 zs A3 es W' :=
  ⟨h.net.below hb, h.m1.below hb, h.m2.below hb, h.m3.below hb, cell_kept hb h.k0, cell_kept hb h.k1, cell_kept hb h.k2, cell_kept hb h.k3, cell_kept hb h.k4, below_then h.bel hb⟩
theorem u8s_small : U8s [2, 0, 1, 0, 0, 0, 0, 0, 0, 0, 3, 0, 0] := by
  intro x hx
  simp only [List.mem_cons, List.not_mem_nil, or_false] at hx
  omega
/-- The marking of one row, made anew: at the second place, at the first. -/
theorem lit_end (W : World) (a b : Int) (ha : I64 a) (hb : I64 b) : Mk ((W.alloc (.cells #[.int .i64 a, .int .i64 b] 45)).alloc (.cells #[.slice none 0 0, .slice (some ⟨W.heap.size, 0, none⟩) 1 1] 36)) (some ⟨W.heap.size + 1, 0, none⟩) 2 2 [⟨none, 0, 0, []⟩, ⟨some ⟨W.heap.size, 0, none⟩, 1, 1, [(a, b)]⟩] := by
  have h1 := Sl.new W 45 (pairCells [(a, b)]) 1 2 rfl (by omega)
  have h2 := Sl.new (W.alloc (.cells #[.int .i64 a, .int .i64 b] 45)) 36 [.slice none 0 0, .slice (some ⟨W.heap.size, 0, none⟩) 1 1] 2 1 rfl (by omega)
  rw [show (W.alloc (.cells #[.int .i64 a, .int .i64 b] 45)).heap.size = W.heap.size + 1 by simp] at h2
  refine ⟨h2, fun q hq => ?_⟩
  rcases List.mem_cons.1 hq with rfl | hq
  · exact ⟨Sl.none_ _ 2, fun p hp => by cases hp⟩
  · rw [List.mem_singleton] at hq
    subst hq
    exact ⟨h1.below ((Below.refl _ _).alloc (Nat.le_refl _) _), i64s_one a b ha hb⟩
theorem lit_one (W : World) (a b : Int) (ha : I64 a) (hb : I64 b) : Mk ((W.alloc (.cells #[.int .i64 a, .int .i64 b] 45)).alloc (.cells #[.slice (some ⟨W.heap.size, 0, none⟩) 1 1, .slice none 0 0] 36)) (some ⟨W.heap.size + 1, 0, none⟩) 2 2 [⟨some ⟨W.heap.size, 0, none⟩, 1, 1, [(a, b)]⟩, ⟨none, 0, 0, []⟩] := by
  have h1 := Sl.new W 45 (pairCells [(a, b)]) 1 2 rfl (by omega)
  have h2 := Sl.new (W.alloc (.cells #[.int .i64 a, .int .i64 b] 45)) 36 [.slice (some ⟨W.heap.size, 0, none⟩) 1 1, .slice none 0 0] 2 1 rfl (by omega)
  rw [show (W.alloc (.cells #[.int .i64 a, .int .i64 b] 45)).heap.size = W.heap.size + 1 by simp] at h2
  refine ⟨h2, fun q hq => ?_⟩
  rcases List.mem_cons.1 hq with rfl | hq
  · exact ⟨h1.below ((Below.refl _ _).alloc (Nat.le_refl _) _), i64s_one a b ha hb⟩
  · rw [List.mem_singleton] at hq
    subst hq
    exact ⟨Sl.none_ _ 2, fun p hp => by cases hp⟩
set_option maxRecDepth 100000 in
set_option maxHeartbeats 8000000 in
theorem law09_small' (hT : Hid Text1) (w : World) : Calls Tryz.prog 5 #[] w fun e w' => e = .returned (.bool true) ∧ Below w.heap.size w w' := by
  have AL := Lib.hid (fun (u : World) (o : Obj) => (Below.refl u.heap.size u).alloc (Nat.le_refl _) o)
  go_enter Tryz.func5, Tryz.ntmps5
  go_wp2_with fail
  refine (law_net w).mono ?_
  rintro e w1 ⟨cb, fb, pb, rfl, hN, hb⟩
  have a1 := AL.out w1 (.cells #[.slice (some ⟨cb, 0, none⟩) 1 1, .slice (some ⟨pb, 0, none⟩) 2 2, .slice none 0 0, .int .i64 0, .int .i64 1] 42)
  have N2 := Lib.hid (hN.below a1)
  have B2 := Lib.hid (below_then hb a1)
  have c0 := Lib.hid (cell_new w1 #[.slice (some ⟨cb, 0, none⟩) 1 1, .slice (some ⟨pb, 0, none⟩) 2 2, .slice none 0 0, .int .i64 0, .int .i64 1] 42 0 _ rfl)
  have c1 := Lib.hid (cell_new w1 #[.slice (some ⟨cb, 0, none⟩) 1 1, .slice (some ⟨pb, 0, none⟩) 2 2, .slice none 0 0, .int .i64 0, .int .i64 1] 42 1 _ rfl)
  have c2 := Lib.hid (cell_new w1 #[.slice (some ⟨cb, 0, none⟩) 1 1, .slice (some ⟨pb, 0, none⟩) 2 2, .slice none 0 0, .int .i64 0, .int .i64 1] 42 2 _ rfl)
  have c3 := Lib.hid (cell_new w1 #[.slice (some ⟨cb, 0, none⟩) 1 1, .slice (some ⟨pb, 0, none⟩) 2 2, .slice none 0 0, .int .i64 0, .int .i64 1] 42 3 _ rfl)
  have c4 := Lib.hid (cell_new w1 #[.slice (some ⟨cb, 0, none⟩) 1 1, .slice (some ⟨pb, 0, none⟩) 2 2, .slice none 0 0, .int .i64 0, .int .i64 1] 42 4 _ rfl)
  clear hN hb a1
  go_wp2_with fail
  refine (mark_First1 cb fb pb _ N2).mono ?_
  rintro e w3 ⟨A, c, ys, rfl, hM, hr, hz, hb⟩
  have M3 := Lib.hid hM
  have R3 := Lib.hid hr
  have Z3 := Lib.hid hz
  have Z3' := Lib.hid (show ∀ b ∈ ys, b.n < 100000 from fun b hb => by have := hz b hb; omega)
  have N3 := Lib.hid (N2.out.below hb)
  have B3 := Lib.hid (below_then B2.out hb)
  replace c0 := Lib.hid (cell_kept hb c0.out)
  replace c1 := Lib.hid (cell_kept hb c1.out)
  replace c2 := Lib.hid (cell_kept hb c2.out)
  replace c3 := Lib.hid (cell_kept hb c3.out)
  replace c4 := Lib.hid (cell_kept hb c4.out)
  clear hM hr hz hb N2 B2
  go_wp2_with fail
  refine (mark_Encode A 2 c ys w3 M3 Z3 (by omega)).mono ?_
  rintro e w4 ⟨hb, ⟨hbad, _⟩ | ⟨_, A4, c4', j4, rfl, hj4, ho4⟩⟩
  · rw [R3.out, encok_small] at hbad; cases hbad
  rw [R3.out, enc_small] at hj4 ho4
  have hj : j4 = 13 := hj4
  subst hj
  have S4 := Lib.hid (Sl.of_own ho4)
  have M4 := Lib.hid (M3.out.below hb)
  have N4 := Lib.hid (N3.out.below hb)
  have B4 := Lib.hid (below_then B3.out hb)
  replace c0 := Lib.hid (cell_kept hb c0.out)
  replace c1 := Lib.hid (cell_kept hb c1.out)
  replace c2 := Lib.hid (cell_kept hb c2.out)
  replace c3 := Lib.hid (cell_kept hb c3.out)
  replace c4 := Lib.hid (cell_kept hb c4.out)
  clear hj4 ho4 hb M3 N3 B3
  go_wp2_with fail
  refine (mark_Decode A4 13 c4' [2, 0, 1, 0, 0, 0, 0, 0, 0, 0, 3, 0, 0] w4 S4 (Lib.hid u8s_small) (by omega)).mono ?_
  rintro e w5 ⟨hb, ⟨hbad, _⟩ | ⟨A5, n5, c5, zs, hd, rfl, _, hM5, hz5⟩⟩
  · rw [dec_small] at hbad; cases hbad
  have hr5 : rowsB zs = [[(0, 3)], []] := by rw [dec_small] at hd; exact (Option.some.inj hd).symm
  have R5 := Lib.hid hr5
  have Z5 := Lib.hid hz5
  have a6 := AL.out w5 (.cells #[.int .i64 2, .int .i64 1] 45)
  have a7 := below_then a6 (AL.out (w5.alloc (.cells #[.int .i64 2, .int .i64 1] 45)) (.cells #[.slice none 0 0, .slice (some ⟨w5.heap.size, 0, none⟩) 1 1] 36))
  have hall := below_then hb a7
  obtain ⟨es, hes⟩ : ∃ es : List Bg, es = [⟨none, 0, 0, []⟩, ⟨some ⟨w5.heap.size, 0, none⟩, 1, 1, [(2, 1)]⟩] := ⟨_, rfl⟩
  have RE := Lib.hid (show rowsB es = [[], [(2, 1)]] by rw [hes]; rfl)
  have ZE := Lib.hid (show ∀ b ∈ es, b.n < 100000 from fun b hb => by
    rw [hes] at hb
    simp only [List.mem_cons, List.not_mem_nil, or_false] at hb
    rcases hb with rfl | rfl
    · show 0 < 100000; omega
    · show 1 < 100000; omega)
  have hl := lit_end w5 2 1 ⟨by omega, by omega⟩ ⟨by omega, by omega⟩
  rw [← hes] at hl
  have S := Lib.hid (show SmS w w1.heap.size cb fb pb A c ys A5 n5 c5 zs (some ⟨w5.heap.size + 1, 0, none⟩) es _ from ⟨N4.out.below hall, M4.out.below hall, hM5.below a7, hl, cell_kept hall c0.out, cell_kept hall c1.out, cell_kept hall c2.out, cell_kept hall c3.out, cell_kept hall c4.out, below_then B4.out hall⟩)
  clear hd hM5 hz5 hb a6 a7 hall hl hes hr5 S4 M4 N4 B4 c0 c1 c2 c3 c4
  have k0 := S.out.k0
  have k1 := S.out.k1
  have k2 := S.out.k2
  have k3 := S.out.k3
  have k4 := S.out.k4
  go_wp2_with fail
  have cX := hT.out cb fb pb A c ys _ (Lib.hid S.out.net) (Lib.hid S.out.m1) R3
  refine cX.mono ?_
  rintro e w7 ⟨rfl, hb⟩
  replace S := Lib.hid (S.out.go hb)
  clear hb cX
  clear k0 k1 k2 k3 k4
  have k0 := S.out.k0
  have k1 := S.out.k1
  have k2 := S.out.k2
  have k3 := S.out.k3
  have k4 := S.out.k4
  go_wp2_with fail
  have cX := mark_Right1 cb fb pb A c ys _ (Lib.hid S.out.net) (Lib.hid S.out.m1) R3
  refine cX.mono ?_
  rintro e w8 ⟨rfl, hb⟩
  replace S := Lib.hid (S.out.go hb)
  clear hb cX
  clear k0 k1 k2 k3 k4
  have k0 := S.out.k0
  have k1 := S.out.k1
  have k2 := S.out.k2
  have k3 := S.out.k3
  have k4 := S.out.k4
  go_wp2_with fail
  have cX := mark_Same A 2 c ys A5 n5 c5 zs _ (Lib.hid S.out.m1) (Lib.hid S.out.m2)
  rw [R3.out, R5.out, same_small] at cX
  refine cX.mono ?_
  rintro e w9 ⟨rfl, hb⟩
  replace S := Lib.hid (S.out.go hb)
  clear hb cX
  clear k0 k1 k2 k3 k4
  have k0 := S.out.k0
  have k1 := S.out.k1
  have k2 := S.out.k2
  have k3 := S.out.k3
  have k4 := S.out.k4
  go_wp2_with fail
  have cX := mark_Final (some ⟨cb, 0, none⟩) 1 1 (some ⟨pb, 0, none⟩) 2 2 none 0 0 0 1 (some ⟨w5.heap.size + 1, 0, none⟩) 2 2 es _ (Lib.hid S.out.m3) ZE
  rw [RE.out, fin_end] at cX
  refine cX.mono ?_
  rintro e w10 ⟨rfl, hb⟩
  replace S := Lib.hid (S.out.go hb)
  clear hb cX
  clear k0 k1 k2 k3 k4
  have k0 := S.out.k0
  have k1 := S.out.k1
  have k2 := S.out.k2
  have k3 := S.out.k3
  have k4 := S.out.k4
  go_wp2_with fail
  have cX := mark_Ended (some ⟨cb, 0, none⟩) 1 1 (some ⟨pb, 0, none⟩) 2 2 none 0 0 0 1 (some ⟨w5.heap.size + 1, 0, none⟩) 2 2 es _ (Lib.hid S.out.m3) ZE
  rw [RE.out, end_end] at cX
  refine cX.mono ?_
  rintro e w11 ⟨rfl, hb⟩
  replace S := Lib.hid (S.out.go hb)
  clear hb cX
  clear k0 k1 k2 k3 k4
  have k0 := S.out.k0
  have k1 := S.out.k1
  have k2 := S.out.k2
  have k3 := S.out.k3
  have k4 := S.out.k4
  go_wp2_with fail
  have cX := mark_Final (some ⟨cb, 0, none⟩) 1 1 (some ⟨pb, 0, none⟩) 2 2 none 0 0 0 1 A 2 c ys _ (Lib.hid S.out.m1) Z3'
  rw [R3.out, fin_m] at cX
  refine cX.mono ?_
  rintro e w12 ⟨rfl, hb⟩
  replace S := Lib.hid (S.out.go hb)
  clear hb cX
  clear k0 k1 k2 k3 k4
  have k0 := S.out.k0
  have k1 := S.out.k1
  have k2 := S.out.k2
  have k3 := S.out.k3
  have k4 := S.out.k4
  go_wp2_with fail
  have cX := mark_Total A 2 c ys _ (Lib.hid S.out.m1) Z3' (by omega)
  rw [R3.out, tot_m] at cX
  refine cX.mono ?_
  rintro e w13 ⟨rfl, hb⟩
  replace S := Lib.hid (S.out.go hb)
  clear hb cX
  clear k0 k1 k2 k3 k4
  have k0 := S.out.k0
  have k1 := S.out.k1
  have k2 := S.out.k2
  have k3 := S.out.k3
  have k4 := S.out.k4
  go_wp2_with fail
  have cX := mark_Compare A 2 c ys (some ⟨w5.heap.size + 1, 0, none⟩) 2 2 es _ (Lib.hid S.out.m1) (Lib.hid S.out.m3) Z3' ZE
  rw [R3.out, RE.out] at cX
  refine cX.mono ?_
  rintro e w14 ⟨⟨z, rfl, hz⟩, hb⟩
  obtain rfl := cmp_m hz
  clear hz
  replace S := Lib.hid (S.out.go hb)
  clear hb cX
  clear k0 k1 k2 k3 k4
  have k0 := S.out.k0
  have k1 := S.out.k1
  have k2 := S.out.k2
  have k3 := S.out.k3
  have k4 := S.out.k4
  have S2 := Lib.hid (S.out.go (below_then (AL.out w14 (.cells #[.int .i64 0, .int .i64 1] 45)) (AL.out (w14.alloc (.cells #[.int .i64 0, .int .i64 1] 45)) (.cells #[.slice (some ⟨w14.heap.size, 0, none⟩) 1 1, .slice none 0 0] 36))))
  have hl := Lib.hid (lit_one w14 0 1 ⟨by omega, by omega⟩ ⟨by omega, by omega⟩)
  have ZL := Lib.hid (show ∀ b ∈ ([⟨some ⟨w14.heap.size, 0, none⟩, 1, 1, [(0, 1)]⟩, ⟨none, 0, 0, []⟩] : List Bg), b.n < 100000 from fun b hb => by
    simp only [List.mem_cons, List.not_mem_nil, or_false] at hb
    rcases hb with rfl | rfl
    · show 1 < 100000; omega
    · show 0 < 100000; omega)
  clear k0 k1 k2 k3 k4 S
  go_wp2_with fail
  have cX := mark_Within _ 2 2 _ A 2 c ys _ hl (Lib.hid S2.out.m1) ZL Z3'
  rw [R3.out, show rowsB [⟨some ⟨w14.heap.size, 0, none⟩, 1, 1, [(0, 1)]⟩, ⟨none, 0, 0, []⟩] = [[(0, 1)], []] from rfl, with_1] at cX
  refine cX.mono ?_
  rintro e w20 ⟨rfl, hb⟩
  have S := Lib.hid (S2.out.go hb)
  clear hb cX hl S2
  go_wp2_with fail
  have cX := mark_Within A 2 c ys (some ⟨w5.heap.size + 1, 0, none⟩) 2 2 es _ (Lib.hid S.out.m1) (Lib.hid S.out.m3) Z3' ZE
  rw [R3.out, RE.out, with_2] at cX
  refine cX.mono ?_
  rintro e w21 ⟨rfl, hb⟩
  replace S := Lib.hid (S.out.go hb)
  clear hb cX
  go_wp2
  go_ret
  exact ⟨rfl, S.out.bel⟩
end Go.Proofs.YtajcleobmgjhoaaGreatDoor
