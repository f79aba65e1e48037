/- Contracts of container/heap at timer's entries: up. -/
import Derived.Test.YtkcggnfbmbfciaaTimB
namespace Go.Proofs.Ytkcggnfbmbfciaa
open Go.RowKit
/-- The heap in memory: its slice lies in cell 0 of block g. -/
structure HAt (w : World) (g b cap : Nat) (hs : List Ent) : Prop where
  lies : Lies w b cap hs
  q : w.cell? ⟨g, 0, none⟩ = some (.slice (some ⟨b, 0, none⟩) hs.length cap)
theorem HAt.gne {w : World} {g b cap : Nat} {hs : List Ent} (h : HAt w g b cap hs) (h0 : 0 < hs.length) : ¬ OwnL b hs g := by
  rintro (rfl | ⟨e, he, rfl⟩)
  · have := h.q.symm.trans (h.lies.c h0)
    cases this
  · obtain ⟨j, hj, rfl⟩ := List.getElem_of_mem he
    have e2 : gE hs j = hs[j] := by unfold gE; rw [List.getD, List.getElem?_eq_getElem hj]; rfl
    have h1 := h.lies.i hj
    rw [e2] at h1
    have := h.q.symm.trans h1
    cases this
theorem Only.cell {own : Nat → Prop} {w w' : World} (h : Only own w w') {a : Addr} {v : Value} (hc : w.cell? a = some v) (hn : ¬ own a.block) : w'.cell? a = some v :=
  (World.cell?_of_block (h.block a.block (World.block_lt_of_cell? w a hc) hn)).trans hc
theorem HAt.step {w w' : World} {g b cap : Nat} {hs hs' : List Ent} (h : HAt w g b cap hs) (h0 : 0 < hs.length) (hl : Lies w' b cap hs') (hlen : hs'.length = hs.length) (ho : Only (OwnL b hs) w w') : HAt w' g b cap hs' :=
  ⟨hl, by rw [hlen]; exact ho.cell h.q (h.gne h0)⟩
theorem HAt.drewN {w : World} {g b cap : Nat} {hs : List Ent} (h : HAt w g b cap hs) (n : Nat) : HAt (w.drewN n) g b cap hs := ⟨h.lies.drewN n, h.q⟩
theorem run_wrapChk {P : Program} {w : World} (ts : Array TypeId) (t : TypeId) (a : Addr) (s m : String) : (Builtin.ssaWrapNilChk_ ts t #[.pointer (some a), strVal s, strVal m]).run P w = .ok (.pointer (some a)) w := rfl
/-- A method of a value behind a pointer; a method of the pointer. -/
theorem method_val {P : Program} {t elem : TypeId} {name : String} {f n : Nat} {w : World} {a : Addr} {v : Value}
    (hi : (P.info? t).bind (fun i => (i.methods.find? (·.name == name)).map (fun m => (m.path.toList.isEmpty, m.func))) = some (true, some (f, false)))
    (hu : P.underlying t = some (.pointer elem)) (hl : (loadVar elem a).run P w = .ok v w) : (method (n + 1) t (.pointer (some a)) name).run P w = .ok (f, v) w := by
  rcases h0 : P.info? t with _ | i
  · rw [h0] at hi; cases hi
  · rw [h0] at hi
    rcases h1 : i.methods.find? (·.name == name) with _ | m
    · simp [h1] at hi
    · simp [h1] at hi
      obtain ⟨h2, h3⟩ := hi
      simp [method, typeInfo, h0, h1, h3, h2, follow, receiverAt, Place.get, run_underlying hu, run_wrapChk, asAddr, hl, Result.andThen]
theorem method_ptr {P : Program} {t elem : TypeId} {name : String} {f n : Nat} {w : World} {a : Addr}
    (hi : (P.info? t).bind (fun i => (i.methods.find? (·.name == name)).map (fun m => (m.path.toList.isEmpty, m.func))) = some (true, some (f, true)))
    (hu : P.underlying t = some (.pointer elem)) : (method (n + 1) t (.pointer (some a)) name).run P w = .ok (f, .pointer (some a)) w := by
  rcases h0 : P.info? t with _ | i
  · rw [h0] at hi; cases hi
  · rw [h0] at hi
    rcases h1 : i.methods.find? (·.name == name) with _ | m
    · simp [h1] at hi
    · simp [h1] at hi
      obtain ⟨h2, h3⟩ := hi
      simp [method, typeInfo, h0, h1, h3, h2, follow, receiverAt, Place.get, run_underlying hu, Result.andThen]
theorem load_slice {w : World} {g n c : Nat} {A : Option Addr} (h : w.cell? ⟨g, 0, none⟩ = some (.slice A n c)) : (loadVar 52 ⟨g, 0, none⟩).run Try.prog w = .ok (.slice A n c) w := by
  go_simp
theorem method_Less {w : World} {g n c : Nat} {A : Option Addr} (h : w.cell? ⟨g, 0, none⟩ = some (.slice A n c)) : (method 215 59 (.pointer (some ⟨g, 0, none⟩)) "Less").run Try.prog w = .ok (73, .slice A n c) w :=
  method_val (n := 214) (by kernel_rfl) Try.underlying59 (load_slice h)
theorem method_Swap {w : World} {g n c : Nat} {A : Option Addr} (h : w.cell? ⟨g, 0, none⟩ = some (.slice A n c)) : (method 215 59 (.pointer (some ⟨g, 0, none⟩)) "Swap").run Try.prog w = .ok (74, .slice A n c) w :=
  method_val (n := 214) (by kernel_rfl) Try.underlying59 (load_slice h)
theorem method_Len {w : World} {g n c : Nat} {A : Option Addr} (h : w.cell? ⟨g, 0, none⟩ = some (.slice A n c)) : (method 215 59 (.pointer (some ⟨g, 0, none⟩)) "Len").run Try.prog w = .ok (72, .slice A n c) w :=
  method_val (n := 214) (by kernel_rfl) Try.underlying59 (load_slice h)
theorem method_Push (w : World) (g : Nat) : (method 215 59 (.pointer (some ⟨g, 0, none⟩)) "Push").run Try.prog w = .ok (76, .pointer (some ⟨g, 0, none⟩)) w :=
  method_ptr (n := 214) (by kernel_rfl) Try.underlying59
theorem method_Pop (w : World) (g : Nat) : (method 215 59 (.pointer (some ⟨g, 0, none⟩)) "Pop").run Try.prog w = .ok (75, .pointer (some ⟨g, 0, none⟩)) w :=
  method_ptr (n := 214) (by kernel_rfl) Try.underlying59
def hV (g : Nat) : Value := .iface 59 (.pointer (some ⟨g, 0, none⟩))
set_option maxRecDepth 100000 in
set_option maxHeartbeats 1000000 in
theorem tim_up (g b cap m : Nat) (hs : List Ent) (j : Nat) (w : World) (H : Hid (HAt w g b cap hs)) (hj : j < m) (hm : m ≤ 9223372036854775807) (hml : Hid (m ≤ hs.length)) (hU : Hid (UpN hs m j)) :
    Calls Try.prog 34 #[.iface 59 (.pointer (some ⟨g, 0, none⟩)), .int .i64 (j : Int)] w fun e w' => e = .returned (.tuple #[]) ∧ ∃ hs', HAt w' g b cap hs' ∧ hs'.Perm hs ∧ HeapN hs' m ∧ (∀ x, m ≤ x → gE hs' x = gE hs x) ∧ Only (OwnL b hs) w w' := by
  go_enter Try.func34, Try.ntmps34
  go_wp2
  go_loopw [1] (fun v wr => ∃ (k : Nat) (l : List Ent), v = .int .i64 (k : Int) ∧ k < m ∧ Hid (HAt wr g b cap l) ∧ Hid (l.Perm hs) ∧ Hid (UpN l m k) ∧ Hid (∀ x, m ≤ x → gE l x = gE hs x) ∧ Hid (Only (OwnL b hs) w wr)) (fun v _ => (intOf v).toNat)
  case atStart => exact ⟨j, hs, rfl, hj, H, .refl _, hU, fun _ _ => rfl, Only.refl _ _⟩
  case round =>
    obtain ⟨k, l, rfl, hk, hH, hP, hV, hX, hO⟩ := hrel
    by_cases h0 : k = 0
    · subst h0
      have d1 : (IntKind.i64.wrap ((0 : Int) - 1)) = -1 := by decide
      go_wp2
      go_end0
      exact ⟨rfl, l, hH.out, hP.out, up_done hV.out (fun h => absurd h (by omega)), hX.out, hO.out⟩
    · obtain ⟨p, hp⟩ : ∃ p, p = (k - 1) / 2 := ⟨_, rfl⟩
      have e2 : (((k : Int) - 1) / 2 == (k : Int)) = false := by simp; omega
      have E3 := Lib.hid (show ((k : Int) - 1) / 2 = (p : Int) by omega)
      have hpk : p < k := by omega
      have HP := Lib.hid hp
      clear hp
      have m1 := method_Less hH.out.q
      have hl1 : m ≤ l.length := by rw [hP.out.length_eq]; exact hml.out
      have hk1 : k < l.length := by omega
      have hp1 : p < l.length := by omega
      obtain ⟨bb, hbb⟩ : ∃ bb, bb = ltB (gE l k) (gE l p) := ⟨_, rfl⟩
      have cl := fun W (h : Lies W b cap l) => Lib.hid (tim_Less b cap l k p l.length W (Lib.hid h) (Lib.hid rfl) hk1 hp1)
      rw [← hbb] at cl
      have HB := Lib.hid hbb
      have HL1 := Lib.hid hl1
      have HK1 := Lib.hid hk1
      have HP1 := Lib.hid hp1
      clear hbb hl1 hk1 hp1
      cases bb
      · go_wp2_with fail
        rw [E3.out]
        refine (cl _ hH.out.lies).out.mono ?_
        rintro e w1 ⟨rfl, q1, rfl⟩
        clear cl m1
        go_wp2
        go_end0
        refine ⟨rfl, l, hH.out.drewN _, hP.out, up_done hV.out (fun _ => ?_), hX.out, hO.out.drewN _⟩
        rw [← HP.out]
        exact ltB_false.1 HB.out.symm
      · go_wp2_with fail
        rw [E3.out]
        refine (cl _ hH.out.lies).out.mono ?_
        rintro e w1 ⟨rfl, q1, rfl⟩
        clear cl m1
        have m2 := method_Swap (hH.out.drewN q1).q
        go_wp2_with fail
        refine (tim_Swap b cap l p k l.length _ (Lib.hid (hH.out.drewN q1).lies) (Lib.hid rfl) HP1.out HK1.out (by omega)).mono ?_
        rintro e w2 ⟨rfl, hL2, hO2⟩
        have h00 : 0 < l.length := by have := HK1.out; omega
        have H2 := Lib.hid ((hH.out.drewN q1).step h00 hL2 (swp_len _ _ _) hO2)
        have O2 := Lib.hid ((hO.out.drewN q1).trans (hO2.mono fun x _ hx => OwnL.perm hP.out.symm hx))
        have P2 := Lib.hid ((swp_perm HP1.out HK1.out).trans hP.out)
        clear hL2 hO2 m2 h00
        have U2 : Hid (UpN (swp l p k) m p) := by
          have := up_step hV.out (by omega) hk HL1.out (by rw [← HP.out]; exact ltB_iff.1 HB.out.symm)
          rw [← HP.out] at this
          exact this
        have X2 : Hid (∀ x, m ≤ x → gE (swp l p k) x = gE hs x) := by
          intro x hx
          rw [swp_get HP1.out HK1.out, if_neg (by omega), if_neg (by omega)]
          exact hX.out x hx
        go_wp2
        go_roundw
        case rel => exact ⟨p, _, rfl, by omega, H2, P2, U2, X2, O2⟩
        case measure => simp [intOf]; omega
end Go.Proofs.Ytkcggnfbmbfciaa
