/- Contracts of container/heap at timer's entries: Push, Pop, Remove. -/
import Derived.Test.YtkcggnfbmbfciaaTimF
import Derived.Test.YtkcggnfbmbfciaaTimD
namespace Go.Proofs.Ytkcggnfbmbfciaa
open Go.RowKit
theorem gE_left {hs : List Ent} {e : Ent} {j : Nat} (h : j < hs.length) : gE (hs ++ [e]) j = gE hs j := by simp [gE, List.getD, List.getElem?_append_left h]
theorem up_start {hs : List Ent} (e : Ent) (h : HeapN hs hs.length) : UpN (hs ++ [e]) (hs.length + 1) hs.length := by
  refine ⟨fun k k0 kn hne => ?_, fun k k0 kn hk _ => by omega⟩
  rw [gE_left (by omega), gE_left (by omega)]
  exact h k k0 (by omega)
theorem Only.join {o1 o2 o : Nat → Prop} {a b c : World} (h : Only o1 a b) (k : Only o2 b c) (h1 : ∀ x, o1 x → o x) (h2 : ∀ x, x < a.heap.size → o2 x → o x) : Only o a c :=
  ⟨k.os.trans h.os, k.tape.trans h.tape, k.output.trans h.output, Nat.le_trans h.size k.size, fun i hi hn => (k.block i (Nat.lt_of_lt_of_le hi h.size) fun hx => hn (h2 i hi hx)).trans (h.block i hi fun hx => hn (h1 i hx))⟩
theorem OwnQ.perm {g : Nat} {sl : Value} {hs l : List Ent} (h : l.Perm hs) {x : Nat} (ho : OwnQ g sl l x) : OwnQ g sl hs x := by
  rcases ho with h1 | h1 | ⟨e, he, h1⟩
  · exact .inl h1
  · exact .inr (.inl h1)
  · exact .inr (.inr ⟨e, h.mem_iff.1 he, h1⟩)
set_option maxRecDepth 100000 in
set_option maxHeartbeats 1000000 in
theorem tim_hPush (g : Nat) (mp sl p0 : Value) (hs : List Ent) (e : Ent) (w : World) (H : Hid (HeapQ w g mp sl hs)) (he : Hid (w.heap[e.blk]? = some (.cells #[.int .i64 e.id, .int .i64 e.at_, p0] 57 (0, 0))))
    (hne : Hid (∀ j, j < hs.length → (gE hs j).blk ≠ e.blk)) (hn : hs.length < 8192) (hh : Hid (HeapN hs hs.length)) :
    Calls Try.prog 25 #[.iface 59 (.pointer (some ⟨g, 0, none⟩)), .iface 55 (.pointer (some ⟨e.blk, 0, none⟩))] w fun r w' => r = .returned (.tuple #[]) ∧
      ∃ sl' hs', HeapQ w' g mp sl' hs' ∧ HeapN hs' hs'.length ∧ hs'.Perm (e :: hs) ∧ Only (fun x => OwnQ g sl hs x ∨ x = e.blk) w w' ∧ (∀ x, OwnQ g sl' hs' x → OwnQ g sl hs x ∨ x = e.blk ∨ w.heap.size ≤ x) := by
  have mP := fun W => Lib.hid (method_Push W g)
  have hP := Lib.hid (tim_mPush g mp sl p0 hs e w H he hne hn)
  have hl := Lib.hid (show (hs ++ [e]).length = hs.length + 1 by simp)
  obtain ⟨n, hnn⟩ : ∃ n, n = hs.length := ⟨_, rfl⟩
  have HN := Lib.hid hnn
  rw [← hnn] at hn
  have d1 : IntKind.i64.wrap (((n + 1 : Nat) : Int) - 1) = (n : Int) := by
    rw [show ((n + 1 : Nat) : Int) - 1 = (n : Int) by omega]; exact IntWalk.i64_in _ (by omega)
  have d2 : IntKind.i64.wrap ((n : Int) + 1 - 1) = (n : Int) := by
    rw [show (n : Int) + 1 - 1 = (n : Int) by omega]; exact IntWalk.i64_in _ (by omega)
  obtain ⟨x, hx⟩ : ∃ x, x = e.blk := ⟨_, rfl⟩
  have HX := Lib.hid hx
  rw [← hx] at hP ⊢
  clear hnn hx
  have m1 := (mP w).out
  go_enter Try.func25, Try.ntmps25
  go_wp2_with fail
  refine hP.out.mono ?_
  rintro r w1 ⟨rfl, sl1, H1, O1, N1⟩
  obtain ⟨b, cap, rfl, hat⟩ := H1.hat (by simp)
  have HH := Lib.hid H1
  have HA := Lib.hid hat
  have HO1 := Lib.hid O1
  have HN1 := Lib.hid N1
  have q1 := hat.q
  rw [hl.out, ← HN.out] at q1
  clear H1 hat O1 N1 m1
  have m2 := method_Len q1
  go_wp2_with fail
  refine (tim_Len _ _ _ _).mono ?_
  rintro r w2 ⟨rfl, rfl⟩
  clear m2 q1
  go_wp2_with fail
  refine (tim_up g b cap (n + 1) (hs ++ [e]) n _ HA (by omega) (by omega) (Lib.hid (by rw [hl.out, ← HN.out]; exact Nat.le_refl _)) (Lib.hid (by rw [HN.out]; exact up_start e hh.out))).mono ?_
  rintro r w3 ⟨rfl, hs', a1, a2, a3, _, a5⟩
  have K1 := Lib.hid a1
  have K2 := Lib.hid a2
  have K3 := Lib.hid a3
  have K5 := Lib.hid a5
  clear a1 a2 a3 a5
  go_wp2
  go_end0
  have hlen : hs'.length = (hs ++ [e]).length := K2.out.length_eq
  refine ⟨rfl, _, hs', HH.out.of_hat K1.out hlen K5.out, ?_, K2.out.trans (List.perm_append_comm (l₁ := hs) (l₂ := [e])), HO1.out.join K5.out (fun _ h => h) (fun y hy h => ?_), fun y hy => ?_⟩
  · rw [hlen, hl.out, ← HN.out]; exact K3.out
  · rcases HN1.out y (OwnQ.of_l h) with h1 | h1 | h1
    · exact .inl h1
    · exact .inr h1
    · omega
  · have hy2 := OwnQ.perm K2.out hy
    rw [hlen] at hy2
    exact HN1.out y hy2
theorem tim_SwapA (b cap : Nat) (hs : List Ent) (i k n : Nat) (w : World) (H : Hid (Lies w b cap hs)) (hn : Hid (n = hs.length)) (hi : i < n) (hk : k < n) :
    Calls Try.prog 74 #[.slice (some ⟨b, 0, none⟩) n cap, .int .i64 (i : Int), .int .i64 (k : Int)] w fun e w' => e = .returned (.tuple #[]) ∧ Lies w' b cap (swp hs i k) ∧ Only (OwnL b hs) w w' := by
  by_cases h : i = k
  · subst h
    rw [swp_self (by rw [← hn.out]; exact hi)]
    exact tim_Swap0 b cap hs i n w H hn hi
  · exact tim_Swap b cap hs i k n w H hn hi hk h
theorem hole_swap {hs : List Ent} {p i : Nat} (h : HeapN hs (p + 1)) (hl : hs.length = p + 1) (hi : i ≤ p) : HoleN (swp hs i p) p i := by
  have hg := swp_get (l := hs) (i := i) (j := p) (by omega) (by omega)
  refine ⟨fun k k0 kp h1 h2 => ?_, fun k k0 kp h1 i0 => ?_⟩
  · rw [hg, hg, if_neg (by omega), if_neg h1, if_neg (by omega), if_neg h2]
    exact h k k0 (by omega)
  · rw [hg, hg, if_neg (by omega), if_neg (by omega), if_neg (by omega), if_neg (by omega)]
    exact leE_trans (h i i0 (by omega)) (by rw [← h1]; exact h k k0 (by omega))
theorem last_perm {hs hs2 : List Ent} {p i : Nat} (hl : hs2.length = p + 1) (hp : hs2.Perm hs) (he : gE hs2 p = gE hs i) : hs.Perm (gE hs i :: hs2.dropLast) := by
  have hne : hs2 ≠ [] := by intro h; rw [h] at hl; simp at hl
  have h1 := List.dropLast_concat_getLast hne
  have h2 : hs2.getLast hne = gE hs2 p := by
    rw [List.getLast_eq_getElem]
    have : hs2.length - 1 = p := by omega
    simp only [this]
    unfold gE
    rw [List.getD, List.getElem?_eq_getElem (by omega)]; rfl
  rw [h2, he] at h1
  have h3 : (hs2.dropLast ++ [gE hs i]).Perm (gE hs i :: hs2.dropLast) := List.perm_append_comm
  rw [h1] at h3
  exact hp.symm.trans h3
theorem heap_dropLast {hs : List Ent} {p : Nat} (hl : hs.length = p + 1) (h : HeapN hs p) : HeapN hs.dropLast hs.dropLast.length := by
  intro k k0 kn
  rw [List.length_dropLast] at kn
  rw [dropLast_get (by omega), dropLast_get kn]
  exact h k k0 (by omega)
/-- What Pop and Remove leave: the entry x is out. -/
def Took (g : Nat) (mp sl : Value) (hs : List Ent) (x : Ent) (w : World) (r : Ending) (w' : World) : Prop :=
  ∃ v sl' hs', r = .returned v ∧ HeapQ w' g mp sl' hs' ∧ HeapN hs' hs'.length ∧ hs.Perm (x :: hs') ∧ Only (OwnQ g sl hs) w w' ∧ (∀ y, OwnQ g sl' hs' y → OwnQ g sl hs y)
/-- The last step, common to both. -/
theorem took_pop {g p b c i : Nat} {mp : Value} {hs hs2 : List Ent} {w w2 : World} (hl : hs.length = p + 1) (hp : p < 8192) (H2 : HeapQ w2 g mp (.slice (some ⟨b, 0, none⟩) (p + 1) c) hs2) (hp2 : hs2.Perm hs) (he : gE hs2 p = gE hs i) (hh : HeapN hs2 p)
    (ho : Only (OwnQ g (.slice (some ⟨b, 0, none⟩) (p + 1) c) hs) w w2) :
    Calls Try.prog 75 #[.pointer (some ⟨g, 0, none⟩)] w2 (Took g mp (.slice (some ⟨b, 0, none⟩) (p + 1) c) hs (gE hs i) w) := by
  have hl2 : hs2.length = p + 1 := hp2.length_eq.trans hl
  refine (tim_mPop g p b c mp hs2 w2 (Lib.hid H2) (Lib.hid hl2) hp).mono ?_
  rintro r w3 ⟨rfl, h3, o3, n3⟩
  refine ⟨_, _, _, rfl, h3, heap_dropLast hl2 hh, last_perm hl2 hp2 he, ho.trans (o3.mono fun x _ hx => .inl hx), fun y hy => OwnQ.perm hp2 (n3 y hy)⟩
set_option maxRecDepth 100000 in
set_option maxHeartbeats 1000000 in
theorem tim_hPop (g : Nat) (mp sl : Value) (hs : List Ent) (w : World) (H : Hid (HeapQ w g mp sl hs)) (h0 : Hid (0 < hs.length)) (hn : hs.length < 8192) (hh : Hid (HeapN hs hs.length)) :
    Calls Try.prog 27 #[.iface 59 (.pointer (some ⟨g, 0, none⟩))] w (Took g mp sl hs (gE hs 0) w) := by
  have mP := fun W => Lib.hid (method_Pop W g)
  obtain ⟨p, hp⟩ : ∃ p, hs.length = p + 1 := ⟨hs.length - 1, by have := h0.out; omega⟩
  have hpn : p < 8192 := by omega
  have HP := Lib.hid hp
  obtain ⟨b, c, rfl, hat⟩ := H.out.hat h0.out
  rw [hp] at H hh
  have HA := Lib.hid hat
  have q1 := hat.q
  rw [hp] at q1 ⊢
  clear hat hp hn
  have d1 : IntKind.i64.wrap (((p + 1 : Nat) : Int) - 1) = (p : Int) := by
    rw [show ((p + 1 : Nat) : Int) - 1 = (p : Int) by omega]; exact IntWalk.i64_in _ (by omega)
  have d2 : IntKind.i64.wrap ((p : Int) + 1 - 1) = (p : Int) := by
    rw [show (p : Int) + 1 - 1 = (p : Int) by omega]; exact IntWalk.i64_in _ (by omega)
  have m1 := method_Len q1
  have m2 := method_Swap q1
  go_enter Try.func27, Try.ntmps27
  go_wp2_with fail
  refine (tim_Len _ _ _ _).mono ?_
  rintro r w2 ⟨rfl, rfl⟩
  clear m1 q1
  go_wp2_with fail
  refine (tim_SwapA b c hs 0 p (p + 1) _ (Lib.hid HA.out.lies) (Lib.hid HP.out.symm) (by omega) (by omega)).mono ?_
  rintro r w2 ⟨rfl, hL, hO⟩
  have hsl := swp_len hs 0 p
  have A2 := Lib.hid (HA.out.step h0.out hL hsl hO)
  have O2 := Lib.hid hO
  have HS := Lib.hid (hsl.trans HP.out)
  clear hL hO hsl m2
  go_wp2_with fail
  refine (tim_down g b c p (swp hs 0 p) 0 _ A2 (by omega) (by omega) (Lib.hid (by rw [HS.out]; omega)) (Lib.hid (hole_swap hh.out HP.out (by omega)))).mono ?_
  rintro r w3 ⟨mv, hs2, rfl, hD⟩
  have hpm : (swp hs 0 p).Perm hs := swp_perm (by rw [HP.out]; omega) (by rw [HP.out]; omega)
  have hl2 : hs2.length = hs.length := hD.perm.length_eq.trans (swp_len _ _ _)
  have ho3 : Only (OwnL b hs) w w3 := O2.out.trans (hD.only.mono fun x _ hx => OwnL.perm hpm.symm hx)
  have H3 : HeapQ w3 g mp (.slice (some ⟨b, 0, none⟩) (p + 1) c) hs2 := by
    have h := H.out
    rw [← HP.out] at h
    have := h.of_hat hD.at_ hl2 ho3
    rwa [hl2, HP.out] at this
  have hh3 : HeapN hs2 p := by
    cases mv
    · obtain ⟨e1, e2⟩ := hD.no rfl
      rw [e1]
      exact down_done (hole_swap hh.out HP.out (by omega)) (fun h => absurd h (by omega)) e2
    · exact hD.yes rfl
  have he3 : gE hs2 p = gE hs 0 := by
    rw [hD.far p (Nat.le_refl _), swp_get (by rw [HP.out]; omega) (by rw [HP.out]; omega), if_pos rfl]
  have T := Lib.hid (took_pop HP.out hpn H3 (hD.perm.trans hpm) he3 hh3 (ho3.mono fun x _ hx => OwnQ.of_l hx))
  clear hD hpm hl2 ho3 H3 hh3 he3
  have m3 := (mP w3).out
  go_wp2_with fail
  refine T.out.mono ?_
  rintro r w4 ⟨v, sl', hs', rfl, hT⟩
  have HT := Lib.hid hT
  clear hT m3
  go_wp2
  go_ret
  exact ⟨_, sl', hs', rfl, HT.out⟩
set_option maxRecDepth 100000 in
set_option maxHeartbeats 1000000 in
theorem tim_hRemove (g i : Nat) (mp sl : Value) (hs : List Ent) (w : World) (H : Hid (HeapQ w g mp sl hs)) (h0 : Hid (i < hs.length)) (hn : hs.length < 8192) (hh : Hid (HeapN hs hs.length)) :
    Calls Try.prog 26 #[.iface 59 (.pointer (some ⟨g, 0, none⟩)), .int .i64 (i : Int)] w (Took g mp sl hs (gE hs i) w) := by
  have mP := fun W => Lib.hid (method_Pop W g)
  obtain ⟨p, hp⟩ : ∃ p, hs.length = p + 1 := ⟨hs.length - 1, by have := h0.out; omega⟩
  have hpn : p < 8192 := by omega
  have hip : i ≤ p := by have := h0.out; omega
  have HP := Lib.hid hp
  have h00 := Lib.hid (show 0 < hs.length by omega)
  obtain ⟨b, c, rfl, hat⟩ := H.out.hat h00.out
  rw [hp] at H hh
  have HA := Lib.hid hat
  have q1 := hat.q
  rw [hp] at q1 ⊢
  clear hat hp hn
  have d1 : IntKind.i64.wrap (((p + 1 : Nat) : Int) - 1) = (p : Int) := by
    rw [show ((p + 1 : Nat) : Int) - 1 = (p : Int) by omega]; exact IntWalk.i64_in _ (by omega)
  have d2 : IntKind.i64.wrap ((p : Int) + 1 - 1) = (p : Int) := by
    rw [show (p : Int) + 1 - 1 = (p : Int) by omega]; exact IntWalk.i64_in _ (by omega)
  have m1 := method_Len q1
  have m2 := method_Swap q1
  by_cases hne : i = p
  · subst hne
    have T := Lib.hid (took_pop (i := i) HP.out hpn H.out (.refl _) rfl (fun k k0 kn => hh.out k k0 (by omega)) (Only.refl _ w))
    have m3 := (mP w).out
    go_enter Try.func26, Try.ntmps26
    go_wp2_with fail
    refine (tim_Len _ _ _ _).mono ?_
    rintro r w2 ⟨rfl, rfl⟩
    clear m1 q1
    go_wp2_with fail
    refine T.out.mono ?_
    rintro r w4 ⟨v, sl', hs', rfl, hT⟩
    have HT := Lib.hid hT
    clear hT m3
    go_wp2
    go_ret
    exact ⟨_, sl', hs', rfl, HT.out⟩
  · have dne : ((p : Int) != (i : Int)) = true := by simp; omega
    have hip2 : i < p := by omega
    clear hne
    go_enter Try.func26, Try.ntmps26
    go_wp2_with fail
    refine (tim_Len _ _ _ _).mono ?_
    rintro r w2 ⟨rfl, rfl⟩
    clear m1 q1
    go_wp2_with fail
    refine (tim_SwapA b c hs i p (p + 1) _ (Lib.hid HA.out.lies) (Lib.hid HP.out.symm) (by omega) (by omega)).mono ?_
    rintro r w2 ⟨rfl, hL, hO⟩
    have hsl := swp_len hs i p
    have A2 := Lib.hid (HA.out.step h00.out hL hsl hO)
    have O2 := Lib.hid hO
    have HS := Lib.hid (hsl.trans HP.out)
    clear hL hO hsl m2
    have hho := Lib.hid (hole_swap hh.out HP.out hip)
    go_wp2_with fail
    refine (tim_down g b c p (swp hs i p) i _ A2 (by omega) (by omega) (Lib.hid (by rw [HS.out]; omega)) hho).mono ?_
    rintro r w3 ⟨mv, hs2, rfl, hD⟩
    have hpm : Hid ((swp hs i p).Perm hs) := swp_perm (by rw [HP.out]; omega) (by rw [HP.out]; omega)
    have far : Hid (gE (swp hs i p) p = gE hs i) := by
      show _ = _
      rw [swp_get (by rw [HP.out]; omega) (by rw [HP.out]; omega), if_pos rfl]
    have hl2 : Hid (hs2.length = hs.length) := hD.perm.length_eq.trans (swp_len _ _ _)
    have ho3 : Hid (Only (OwnL b hs) w w3) := O2.out.trans (hD.only.mono fun x _ hx => OwnL.perm hpm.out.symm hx)
    have HD := Lib.hid hD
    clear hD
    cases mv
    · obtain ⟨e1, e2⟩ := HD.out.no rfl
      subst e1
      have U := Lib.hid (hole_up hho.out e2)
      clear e2
      go_wp2_with fail
      refine (tim_up g b c p (swp hs i p) i _ (Lib.hid HD.out.at_) hip2 (by omega) (Lib.hid (by rw [HS.out]; omega)) U).mono ?_
      rintro r w4 ⟨rfl, hs3, a1, a2, a3, a4, a5⟩
      have ho4 : Only (OwnL b hs) w w4 := ho3.out.trans (a5.mono fun x _ hx => OwnL.perm hpm.out.symm hx)
      have hl4 : hs3.length = hs.length := a2.length_eq.trans hl2.out
      have H4 : HeapQ w4 g mp (.slice (some ⟨b, 0, none⟩) (p + 1) c) hs3 := by
        have h := H.out
        rw [← HP.out] at h
        have := h.of_hat a1 hl4 ho4
        rwa [hl4, HP.out] at this
      have T := Lib.hid (took_pop HP.out hpn H4 (a2.trans hpm.out) ((a4 p (Nat.le_refl _)).trans far.out) a3 (ho4.mono fun x _ hx => OwnQ.of_l hx))
      clear a1 a2 a3 a4 a5 ho4 hl4 H4
      have m3 := (mP w4).out
      go_wp2_with fail
      refine T.out.mono ?_
      rintro r w4 ⟨v, sl', hs', rfl, hT⟩
      have HT := Lib.hid hT
      clear hT m3
      go_wp2
      go_ret
      exact ⟨_, sl', hs', rfl, HT.out⟩
    · have H4 : HeapQ w3 g mp (.slice (some ⟨b, 0, none⟩) (p + 1) c) hs2 := by
        have h := H.out
        rw [← HP.out] at h
        have := h.of_hat HD.out.at_ hl2.out ho3.out
        rwa [hl2.out, HP.out] at this
      have T := Lib.hid (took_pop HP.out hpn H4 (HD.out.perm.trans hpm.out) ((HD.out.far p (Nat.le_refl _)).trans far.out) (HD.out.yes rfl) (ho3.out.mono fun x _ hx => OwnQ.of_l hx))
      clear H4
      have m3 := (mP w3).out
      go_wp2_with fail
      refine T.out.mono ?_
      rintro r w4 ⟨v, sl', hs', rfl, hT⟩
      have HT := Lib.hid hT
      clear hT m3
      go_wp2
      go_ret
      exact ⟨_, sl', hs', rfl, HT.out⟩
end Go.Proofs.Ytkcggnfbmbfciaa
