/- Joined: Package parse: is, fresh. Printed by gen_paF.py. Package parse: trees of new memory. Printed by gen_paE0.py. Rows that grow, what their elements lead to being held. Package parse: choice. Printed by gen_paE1.py. -/
import Derived.Test.YtkpjhjoopdbkaaaGreatDoorG08
import Derived.Deep.RegionLaw
namespace Go.Proofs.YtkpjhjoopdbkaaaGreatDoor
open Go.RowKit
section
variable {T : List Tok} {en : Int} {g : Nat} {A : Option Addr} {c : Nat} {h : Hs} {s : Ps}
/-- A closure's box: who finds. -/
def FBox (w : World) (b g : Nat) (f : FuncId) : Prop := w.cell? ⟨b, 0, none⟩ = some (.func (.func f) #[.pointer (some ⟨g, 0, none⟩)] #[])
theorem pa_is (f : FuncId) (w : World) : Calls Tryz.prog 126 #[.func (.func f) #[.pointer (some ⟨g, 0, none⟩)] #[]] w fun e w' => e = .returned (.func (.func 161) #[] #[.pointer (some ⟨w.heap.size, 0, none⟩)]) ∧ Below w.heap.size w w' ∧ FBox w' w.heap.size g f ∧ w.heap.size < w'.heap.size := by
  have HB := Lib.hid (alrB w (.cells #[.func (.func f) #[.pointer (some ⟨g, 0, none⟩)] #[]] 127))
  have HF := Lib.hid (show FBox (w.alloc (.cells #[.func (.func f) #[.pointer (some ⟨g, 0, none⟩)] #[]] 127)) w.heap.size g f from cell_new w _ _ 0 _ rfl)
  go_enter Tryz.func126, Tryz.ntmps126
  go_wp2
  go_ret
  exact ⟨rfl, HB.out, HF.out, by rw [World.size_alloc]; omega⟩
set_option maxHeartbeats 1000000 in
theorem pa_is1 (f : FuncId) (find : ByteArray → Int) (b : Nat) (x : ByteArray) (w : World) (hp : Hid (PAt T en g A c h s w)) (hC : Hid (Finds T en g A c h s f find w)) (hF : Hid (FBox w b g f)) :
    Calls Tryz.prog 161 #[.string x, .pointer (some ⟨b, 0, none⟩)] w fun e w' => e = .returned (.bool (hadT find x)) ∧ Below w.heap.size w w' := by
  obtain ⟨hent, hlo, hcall⟩ := hC.out
  have eF : ∀ args w, (callFunc f args).run Tryz.prog w = .ok (.enter f args) w := hent
  have cF := hcall x w hp.out (AgH.refl _ _)
  obtain ⟨r, hr⟩ : ∃ r, r = find x := ⟨_, rfl⟩
  have HR := Lib.hid (show hadT find x = decide (0 ≤ r) by unfold hadT; rw [← hr])
  rw [← hr] at cF
  have CF := Lib.hid cF
  have f0 := hF.out
  unfold FBox at f0
  obtain ⟨R, hRR⟩ : ∃ R, R = hadT find x := ⟨_, rfl⟩
  rw [← hRR] at HR ⊢
  clear hr hlo hcall hent hC cF hRR
  go_enter Tryz.func161, Tryz.ntmps161
  go_wp2_with (go_at_fn f; refine CF.out.mono ?_; rintro e w3 ⟨rfl, hb⟩; have HB3 := Lib.hid hb; clear hb)
  go_ret
  refine ⟨ret1b ?_, HB3.out⟩
  rw [HR.out]
/-- Tells of a text what it has. -/
def Tells (T : List Tok) (en : Int) (g : Nat) (A : Option Addr) (c : Nat) (h : Hs) (s : Ps) (f : FuncId) (caps : Array Value) (has : ByteArray → Bool) (w : World) : Prop :=
  Enters Tryz.prog f ∧ ∀ x W, PAt T en g A c h s W → AgH (only g) w W → Calls Tryz.prog f (#[.string x] ++ caps) W fun e w' => e = .returned (.bool (has x)) ∧ Below W.heap.size W w'
set_option maxHeartbeats 1000000 in
theorem pa_fresh_at (f : FuncId) (b : Nat) (has : ByteArray → Bool) (w : World) (hp : Hid (PAt T en g A c h s w)) (hC : Hid (Tells T en g A c h s f #[.pointer (some ⟨b, 0, none⟩)] has w)) :
    Calls Tryz.prog 125 #[.pointer (some ⟨g, 0, none⟩), .func (.func f) #[] #[.pointer (some ⟨b, 0, none⟩)]] w fun e w' => e = .returned (.string (nameV (ktOf T) s)) ∧ Turned T en g A c h (freshS (ktOf T) has s) w w' := by
  obtain ⟨hent, hcall⟩ := hC.out
  have eF : ∀ args w, (callFunc f args).run Tryz.prog w = .ok (.enter f args) w := hent
  have cN := pa_name w hp
  obtain ⟨x, hx⟩ : ∃ x, x = nameV (ktOf T) s := ⟨_, rfl⟩
  have cF : ∀ W, PAt T en g A c h s W → AgH (only g) w W → Calls Tryz.prog f #[.string x, .pointer (some ⟨b, 0, none⟩)] W fun e w' => e = .returned (.bool (has x)) ∧ Below W.heap.size W w' := fun W => hcall x W
  obtain ⟨r, hr⟩ : ∃ r, r = has x := ⟨_, rfl⟩
  rw [← hr] at cF
  have CFF := Lib.hid cF
  have HB := Lib.hid (show nameQ (ktOf T) s = if nameB (ktOf T) s then s else wrongP 4 s from rfl)
  have HQ := Lib.hid (show freshS (ktOf T) has s = freshQ (if nameB (ktOf T) s && r then wrongP 5 s else nameQ (ktOf T) s) by unfold freshS; rw [← hx, ← hr])
  have HL := Lib.hid (show nameB (ktOf T) s = true → s.err = 0 ∧ s.at_ < T.length from fun e => by have := name_lt e; rwa [ktOf_len] at this)
  rw [← hx] at cN ⊢
  obtain ⟨N, hN⟩ : ∃ N, N = nameB (ktOf T) s := ⟨_, rfl⟩
  obtain ⟨Q, hQ⟩ : ∃ Q, Q = freshS (ktOf T) has s := ⟨_, rfl⟩
  obtain ⟨P, hP⟩ : ∃ P, P = nameQ (ktOf T) s := ⟨_, rfl⟩
  rw [← hN] at cN HB HQ HL
  rw [← hP] at cN HB HQ
  rw [← hQ] at HQ ⊢
  have CN := Lib.hid cN
  have hs9 := hp.out.small.len
  clear hN hQ hP cN cF hr hx hcall hent hC
  go_enter Tryz.func125, Tryz.ntmps125
  go_wp2_with fail
  refine CN.out.mono ?_
  rintro e w2 ⟨rfl, hT⟩
  have HT := Lib.hid hT
  clear hT CN
  cases N with
  | false =>
    have he : P.err ≠ 0 := by
      rw [show P = wrongP 4 s from HB.out]
      exact wrong_err (by decide)
    have HQ2 := Lib.hid (show Q = P by
      rw [HQ.out]
      show freshQ P = P
      unfold freshQ
      rw [if_neg he])
    have z0 : (P.err == 0) = false := beq_of_ne he
    have b3 := HT.out.1.blk.c3
    clear he
    go_wp2
    go_ret
    refine ⟨rfl, ?_⟩
    rw [HQ2.out]
    exact HT.out
  | true =>
    have HP2 : P = s := HB.out
    subst HP2
    obtain ⟨he0, hlt⟩ := HL.out rfl
    cases r with
    | true =>
      have he : (wrongP 5 P).err ≠ 0 := wrong_err (by decide)
      have HQ2 := Lib.hid (show Q = wrongP 5 P by
        rw [HQ.out]
        show freshQ (wrongP 5 P) = _
        unfold freshQ
        rw [if_neg he])
      have HE := Lib.hid he
      clear he he0
      go_wp2_with (go_at_fn f; refine (CFF.out _ HT.out.1 HT.out.2).mono ?_; rintro e w3 ⟨rfl, hb⟩; have HB3 := Lib.hid hb; clear hb)
      refine (pa_wrong 5 (by decide) w3 (Lib.hid (HT.out.1.below HB3.out))).mono ?_
      rintro e w4 ⟨rfl, hT⟩
      have HT2 := Lib.hid hT
      have b3 := hT.1.blk.c3
      have z0 : ((wrongP 5 P).err == 0) = false := beq_of_ne HE.out
      clear hT
      go_wp2
      go_ret
      refine ⟨rfl, ?_⟩
      rw [HQ2.out]
      exact (HT.out.below HB3.out).then_ HT2.out
    | false =>
      have HQ2 := Lib.hid (show Q = stepP P by
        rw [HQ.out]
        show freshQ P = _
        unfold freshQ
        rw [if_pos he0])
      have z0 : (P.err == 0) = true := by simpa using he0
      have CX := Lib.hid (fun W (hb : Below w2.heap.size w2 W) => (HT.out.1.below hb).blk)
      clear he0
      go_wp2_with (go_at_fn f; refine (CFF.out _ HT.out.1 HT.out.2).mono ?_; rintro e w3 ⟨rfl, hb⟩; have HB3 := Lib.hid hb; have b3 := (CX.out _ hb).c3; have b1 := (CX.out _ hb).c1; have f1 := (CX.out _ hb).froz 1; clear hb)
      go_ret
      refine ⟨rfl, ?_⟩
      rw [HQ2.out]
      exact HT.out.then_ (turned_step HT.out.1 HB3.out hlt)
set_option maxHeartbeats 1000000 in
theorem pa_fresh_no (f : FuncId) (has : ByteArray → Bool) (w : World) (hp : Hid (PAt T en g A c h s w)) (hC : Hid (Tells T en g A c h s f #[] has w)) :
    Calls Tryz.prog 125 #[.pointer (some ⟨g, 0, none⟩), .func (.func f) #[] #[]] w fun e w' => e = .returned (.string (nameV (ktOf T) s)) ∧ Turned T en g A c h (freshS (ktOf T) has s) w w' := by
  obtain ⟨hent, hcall⟩ := hC.out
  have eF : ∀ args w, (callFunc f args).run Tryz.prog w = .ok (.enter f args) w := hent
  have cN := pa_name w hp
  obtain ⟨x, hx⟩ : ∃ x, x = nameV (ktOf T) s := ⟨_, rfl⟩
  have cF : ∀ W, PAt T en g A c h s W → AgH (only g) w W → Calls Tryz.prog f #[.string x] W fun e w' => e = .returned (.bool (has x)) ∧ Below W.heap.size W w' := fun W => hcall x W
  obtain ⟨r, hr⟩ : ∃ r, r = has x := ⟨_, rfl⟩
  rw [← hr] at cF
  have CFF := Lib.hid cF
  have HB := Lib.hid (show nameQ (ktOf T) s = if nameB (ktOf T) s then s else wrongP 4 s from rfl)
  have HQ := Lib.hid (show freshS (ktOf T) has s = freshQ (if nameB (ktOf T) s && r then wrongP 5 s else nameQ (ktOf T) s) by unfold freshS; rw [← hx, ← hr])
  have HL := Lib.hid (show nameB (ktOf T) s = true → s.err = 0 ∧ s.at_ < T.length from fun e => by have := name_lt e; rwa [ktOf_len] at this)
  rw [← hx] at cN ⊢
  obtain ⟨N, hN⟩ : ∃ N, N = nameB (ktOf T) s := ⟨_, rfl⟩
  obtain ⟨Q, hQ⟩ : ∃ Q, Q = freshS (ktOf T) has s := ⟨_, rfl⟩
  obtain ⟨P, hP⟩ : ∃ P, P = nameQ (ktOf T) s := ⟨_, rfl⟩
  rw [← hN] at cN HB HQ HL
  rw [← hP] at cN HB HQ
  rw [← hQ] at HQ ⊢
  have CN := Lib.hid cN
  have hs9 := hp.out.small.len
  clear hN hQ hP cN cF hr hx hcall hent hC
  go_enter Tryz.func125, Tryz.ntmps125
  go_wp2_with fail
  refine CN.out.mono ?_
  rintro e w2 ⟨rfl, hT⟩
  have HT := Lib.hid hT
  clear hT CN
  cases N with
  | false =>
    have he : P.err ≠ 0 := by
      rw [show P = wrongP 4 s from HB.out]
      exact wrong_err (by decide)
    have HQ2 := Lib.hid (show Q = P by
      rw [HQ.out]
      show freshQ P = P
      unfold freshQ
      rw [if_neg he])
    have z0 : (P.err == 0) = false := beq_of_ne he
    have b3 := HT.out.1.blk.c3
    clear he
    go_wp2
    go_ret
    refine ⟨rfl, ?_⟩
    rw [HQ2.out]
    exact HT.out
  | true =>
    have HP2 : P = s := HB.out
    subst HP2
    obtain ⟨he0, hlt⟩ := HL.out rfl
    cases r with
    | true =>
      have he : (wrongP 5 P).err ≠ 0 := wrong_err (by decide)
      have HQ2 := Lib.hid (show Q = wrongP 5 P by
        rw [HQ.out]
        show freshQ (wrongP 5 P) = _
        unfold freshQ
        rw [if_neg he])
      have HE := Lib.hid he
      clear he he0
      go_wp2_with (go_at_fn f; refine (CFF.out _ HT.out.1 HT.out.2).mono ?_; rintro e w3 ⟨rfl, hb⟩; have HB3 := Lib.hid hb; clear hb)
      refine (pa_wrong 5 (by decide) w3 (Lib.hid (HT.out.1.below HB3.out))).mono ?_
      rintro e w4 ⟨rfl, hT⟩
      have HT2 := Lib.hid hT
      have b3 := hT.1.blk.c3
      have z0 : ((wrongP 5 P).err == 0) = false := beq_of_ne HE.out
      clear hT
      go_wp2
      go_ret
      refine ⟨rfl, ?_⟩
      rw [HQ2.out]
      exact (HT.out.below HB3.out).then_ HT2.out
    | false =>
      have HQ2 := Lib.hid (show Q = stepP P by
        rw [HQ.out]
        show freshQ P = _
        unfold freshQ
        rw [if_pos he0])
      have z0 : (P.err == 0) = true := by simpa using he0
      have CX := Lib.hid (fun W (hb : Below w2.heap.size w2 W) => (HT.out.1.below hb).blk)
      clear he0
      go_wp2_with (go_at_fn f; refine (CFF.out _ HT.out.1 HT.out.2).mono ?_; rintro e w3 ⟨rfl, hb⟩; have HB3 := Lib.hid hb; have b3 := (CX.out _ hb).c3; have b1 := (CX.out _ hb).c1; have f1 := (CX.out _ hb).froz 1; clear hb)
      go_ret
      refine ⟨rfl, ?_⟩
      rw [HQ2.out]
      exact HT.out.then_ (turned_step HT.out.1 HB3.out hlt)
theorem pa_nobody (x : ByteArray) (w : World) : Calls Tryz.prog 129 #[.string x] w fun e w' => e = .returned (.bool (nobody x)) ∧ Below w.heap.size w w' := by
  go_enter Tryz.func129, Tryz.ntmps129
  go_wp2
  go_ret
  exact ⟨rfl, Below.refl _ _⟩
theorem pa_fresh_nobody (w : World) (hp : Hid (PAt T en g A c h s w)) :
    Calls Tryz.prog 125 #[.pointer (some ⟨g, 0, none⟩), .func (.func 129) #[] #[]] w fun e w' => e = .returned (.string (nameV (ktOf T) s)) ∧ Turned T en g A c h (freshS (ktOf T) nobody s) w w' :=
  pa_fresh_no 129 nobody w hp (Lib.hid ⟨enters_of Tryz.func129 (by kernel_rfl) rfl, fun x W _ _ => pa_nobody x W⟩)
/-- Fresh: none that is found. -/
theorem pa_fresh_is (f : FuncId) (b : Nat) (find : ByteArray → Int) (w : World) (hp : Hid (PAt T en g A c h s w)) (hC : Hid (Finds T en g A c h s f find w)) (hb : Hid (FBox w b g f)) (hg : b ≠ g) :
    Calls Tryz.prog 125 #[.pointer (some ⟨g, 0, none⟩), .func (.func 161) #[] #[.pointer (some ⟨b, 0, none⟩)]] w fun e w' => e = .returned (.string (nameV (ktOf T) s)) ∧ Turned T en g A c h (freshS (ktOf T) (hadT find) s) w w' :=
  pa_fresh_at 161 b (hadT find) w hp (Lib.hid ⟨enters_of Tryz.func161 (by kernel_rfl) rfl, fun x W p a =>
    pa_is1 f find b x W (Lib.hid p) (Lib.hid (hC.out.go a)) (Lib.hid (by
      have h0 := hb.out
      unfold FBox at h0 ⊢
      have hl := World.block_lt_of_cell? w _ h0
      rw [World.cell?_of_block (a := ⟨b, 0, none⟩) (a.block b hl hg)]
      exact h0))⟩)
/-- The finders of variables. -/
theorem finds_var (w : World) : Finds T en g A c h s 121 (findVar s) w :=
  ⟨enters_of Tryz.func121 (by kernel_rfl) rfl, fun x => (findN_lo _ x).1, fun x W p _ => pa_find_var x W (Lib.hid p)⟩
theorem finds_col (w : World) (hr : HeldH (only g) w fun W => Cols W h.A1 h.n1 h.c1 s.cols) : Finds T en g A c h s 127 (findCol s) w :=
  ⟨enters_of Tryz.func127 (by kernel_rfl) rfl, fun x => (findN_lo _ x).1, fun x W p a => pa_find_col x W (Lib.hid p) (Lib.hid (hr W a))⟩
theorem finds_pl (w : World) (hr : HeldH (only g) w fun W => SlOf 3 PlAt W h.A2 h.n2 h.c2 s.pls) : Finds T en g A c h s 73 (findPl s) w :=
  ⟨enters_of Tryz.func73 (by kernel_rfl) rfl, fun x => (findN_lo _ x).1, fun x W p a => pa_find_pl x W (Lib.hid p) (Lib.hid (hr W a))⟩
theorem finds_tk (w : World) (hr : HeldH (only g) w fun W => SlOf 14 TkAt W h.A3 h.n3 h.c3 s.tks) : Finds T en g A c h s 132 (findTk s) w :=
  ⟨enters_of Tryz.func132 (by kernel_rfl) rfl, fun x => (findN_lo _ x).1, fun x W p a => pa_find_tk x W (Lib.hid p) (Lib.hid (hr W a))⟩
end
end Go.Proofs.YtkpjhjoopdbkaaaGreatDoor
namespace Go.Proofs.YtkpjhjoopdbkaaaGreatDoor
open Go.RowKit
/-- A tree, held against all that turns no block from B on. -/
abbrev TrH (B : Nat) (w : World) (A : Option Addr) (m c : Nat) (t : Tr) : Prop := HeldH (under B) w fun W => TrAt W A m c t
theorem TrH.leaf (B : Nat) (w : World) {k n : Int} (hk : I64 k) (hn : I64 n) : TrH B w none 0 0 (.mk k n []) := fun W _ => by
  show TrAt W none 0 0 (.mk k n [])
  rw [TrAt]
  exact ⟨hk, hn, rfl, Nat.le_refl _, by omega, .inl rfl⟩
theorem TrH.mk_ {B : Nat} {w : World} {b m c : Nat} {k n : Int} {kids : List Tr} (hk : I64 k) (hn : I64 n) (hB : B ≤ b) (hb : b < w.heap.size) (hl : kids.length = m) (hm : m ≤ c) (hc : c ≤ 9223372036854775807)
    (h : ∀ j, j < kids.length → ∃ A' m' c', w.cell? ⟨b, j * 3, none⟩ = some (.int .i64 (kids.getD j default).kind) ∧ w.cell? ⟨b, j * 3 + 1, none⟩ = some (.int .i64 (kids.getD j default).num) ∧ w.cell? ⟨b, j * 3 + 2, none⟩ = some (.slice A' m' c') ∧ TrH B w A' m' c' (kids.getD j default)) :
    TrH B w (some ⟨b, 0, none⟩) m c (.mk k n kids) := fun W a => by
  show TrAt W (some ⟨b, 0, none⟩) m c (.mk k n kids)
  rw [TrAt]
  refine ⟨hk, hn, hl, hm, hc, .inr ⟨b, 0, rfl, KidsAt.mk_ fun j hj => ?_⟩⟩
  obtain ⟨A', m', c', h0, h1, h2, h3⟩ := h j hj
  have hw : W.heap[b]? = w.heap[b]? := a.block b hb (by show ¬ b < B; omega)
  have cc : ∀ o, W.cell? ⟨b, o, none⟩ = w.cell? ⟨b, o, none⟩ := fun o => World.cell?_of_block (a := ⟨b, o, none⟩) hw
  refine ⟨A', m', c', ⟨?_, ?_, ?_, h3 W a⟩⟩
  · rw [show 0 + (0 + j) * 3 = j * 3 by omega, cc]; exact h0
  · rw [show 0 + (0 + j) * 3 + 1 = j * 3 + 1 by omega, cc]; exact h1
  · rw [show 0 + (0 + j) * 3 + 2 = j * 3 + 2 by omega, cc]; exact h2
theorem TrH.i64 {B : Nat} {w : World} {A : Option Addr} {m c : Nat} {t : Tr} (h : TrH B w A m c t) : I64 t.kind ∧ I64 t.num := by
  have := h.now
  obtain ⟨k, n, l⟩ := t
  rw [TrAt] at this
  exact ⟨this.1, this.2.1⟩
theorem TrH.go {B B' : Nat} {w W : World} {A : Option Addr} {m c : Nat} {t : Tr} {H : Nat → Prop} (h : TrH B w A m c t) (a : AgH H w W) (hH : ∀ i, i < w.heap.size → H i → i < B) (hB : B' ≤ B) : TrH B' W A m c t :=
  (h.keep a hH).mono fun _ _ e => Nat.lt_of_lt_of_le e hB
/-- What reads an expression tells. -/
def ExP (T : List Tok) (en : Int) (g : Nat) (A : Option Addr) (c : Nat) (h : Hs) (r : Tr × Ps) (w : World) (e : Ending) (w' : World) : Prop :=
  ∃ A2 m2 c2, e = .returned (r.1.val A2 m2 c2) ∧ TrH w.heap.size w' A2 m2 c2 r.1 ∧ Turned T en g A c h r.2 w w'
theorem row_keep {g b : Nat} {o : Obj} {w W : World} (h : w.heap[b]? = some o) (a : AgH (only g) w W) (hg : b ≠ g) : W.heap[b]? = some o :=
  (a.block b (Array.getElem?_eq_some_iff.1 h).1 hg).trans h
theorem row_alloc {b : Nat} {o : Obj} {w : World} (h : w.heap[b]? = some o) (p : Obj) : (w.alloc p).heap[b]? = some o :=
  (Below.heap_alloc w p b (Array.getElem?_eq_some_iff.1 h).1).trans h
theorem row_below {b : Nat} {o : Obj} {w W : World} (h : w.heap[b]? = some o) (a : Below w.heap.size w W) : W.heap[b]? = some o :=
  (a.block b (Array.getElem?_eq_some_iff.1 h).1).trans h
/-- Three cells put into a block. -/
theorem ag_put3 {H : Nat → Prop} {w W : World} {b : Nat} (h : AgH H w W) (hb : H b ∨ w.heap.size ≤ b) (x y z : Value) : AgH H w (((W.setCell ⟨b, 0, none⟩ x).setCell ⟨b, 1, none⟩ y).setCell ⟨b, 2, none⟩ z) :=
  ((h.setCell (p := ⟨b, 0, none⟩) hb x).setCell (p := ⟨b, 1, none⟩) hb y).setCell (p := ⟨b, 2, none⟩) hb z
theorem row_put3 {w : World} {g t : Nat} {a b d : Value} {z : Nat × Nat} (h : w.heap[g]? = some (.cells #[a, b, d] t z)) (x y u : Value) : (((w.setCell ⟨g, 0, none⟩ x).setCell ⟨g, 1, none⟩ y).setCell ⟨g, 2, none⟩ u).heap[g]? = some (.cells #[x, y, u] t z) :=
  row_put (row_put (row_put h 0 x) 1 y) 2 u
theorem res_expr {W : World} {b : Nat} {x y : Int} {A : Option Addr} {m c : Nat} {tmps : Array Value} (h : W.heap[b]? = some (.cells #[.int .i64 x, .int .i64 y, .slice A m c] 30 (0, 0))) (ht : tmps[6]? = some (.pointer (some ⟨b, 0, none⟩))) :
    (results Tryz.f29 tmps).run Tryz.prog W = .ok (.agg #[.int .i64 x, .int .i64 y, .slice A m c]) W := by
  have q0 := row_cell h 0 _ rfl
  have q1 := row_cell h 1 _ rfl
  have q2 := row_cell h 2 _ rfl
  simp [results, Tryz.results29, go_sem, q0, q1, q2, ht]
theorem res_unary {W : World} {b : Nat} {x y : Int} {A : Option Addr} {m c : Nat} {tmps : Array Value} (h : W.heap[b]? = some (.cells #[.int .i64 x, .int .i64 y, .slice A m c] 30 (0, 0))) (ht : tmps[4]? = some (.pointer (some ⟨b, 0, none⟩))) :
    (results Tryz.f64 tmps).run Tryz.prog W = .ok (.agg #[.int .i64 x, .int .i64 y, .slice A m c]) W := by
  have q0 := row_cell h 0 _ rfl
  have q1 := row_cell h 1 _ rfl
  have q2 := row_cell h 2 _ rfl
  simp [results, Tryz.results64, go_sem, q0, q1, q2, ht]
theorem res_turned {W : World} {b : Nat} {x y : Int} {A : Option Addr} {m c : Nat} {tmps : Array Value} (h : W.heap[b]? = some (.cells #[.int .i64 x, .int .i64 y, .slice A m c] 30 (0, 0))) (ht : tmps[6]? = some (.pointer (some ⟨b, 0, none⟩))) :
    (results Tryz.f117 tmps).run Tryz.prog W = .ok (.agg #[.int .i64 x, .int .i64 y, .slice A m c]) W := by
  have q0 := row_cell h 0 _ rfl
  have q1 := row_cell h 1 _ rfl
  have q2 := row_cell h 2 _ rfl
  simp [results, Tryz.results117, go_sem, q0, q1, q2, ht]
theorem res_choice {W : World} {b : Nat} {x y : Int} {A : Option Addr} {m c : Nat} {tmps : Array Value} (h : W.heap[b]? = some (.cells #[.int .i64 x, .int .i64 y, .slice A m c] 30 (0, 0))) (ht : tmps[4]? = some (.pointer (some ⟨b, 0, none⟩))) :
    (results Tryz.f118 tmps).run Tryz.prog W = .ok (.agg #[.int .i64 x, .int .i64 y, .slice A m c]) W := by
  have q0 := row_cell h 0 _ rfl
  have q1 := row_cell h 1 _ rfl
  have q2 := row_cell h 2 _ rfl
  simp [results, Tryz.results118, go_sem, q0, q1, q2, ht]
section
variable {T : List Tok} {en : Int} {g : Nat} {A : Option Addr} {c : Nat} {h : Hs} {s : Ps}
/-- The parser behind more that turned new blocks alone. -/
theorem Turned.out {s' : Ps} {w w1 W W' : World} (hp : PAt T en g A c h s w) (hb : Below w.heap.size w w1) (ht : Turned T en g A c h s' w1 W) (hv : s'.vars = s.vars) (a : AgH (fun k => w.heap.size ≤ k ∧ k ≠ g) W W') : Turned T en g A c h s' w W' := by
  have a1 : AgH (only g) w W := (AgH.of_below hb).trans ht.2
  have a2 : AgH (only g) w W' := a1.then_ a fun i hi e => absurd e.1 (by omega)
  exact ⟨hp.turn a2 (ht.1.blk.keep a fun e => e.2 rfl) hv ht.1.at_, a2⟩
theorem exp_finish {s' : Ps} {w w1 W W' : World} {A2 : Option Addr} {m2 c2 : Nat} {t : Tr} (hp : PAt T en g A c h s w) (hb : Below w.heap.size w w1) (ht : Turned T en g A c h s' w1 W) (hv : s'.vars = s.vars) (a : AgH (fun k => w.heap.size ≤ k ∧ k ≠ g) W W') (tr : TrH w.heap.size W' A2 m2 c2 t) :
    ExP T en g A c h (t, s') w (.returned (t.val A2 m2 c2)) W' := ⟨_, _, _, rfl, tr, Turned.out hp hb ht hv a⟩
/-- One kid, in a block of its own, and a struct put. -/
theorem tree_one {B b0 : Nat} {w W : World} {A2 : Option Addr} {m2 c2 : Nat} {t : Tr} {k n : Int} (hk : I64 k) (hn : I64 n) (hB : B ≤ w.heap.size) (hT : TrH B w A2 m2 c2 t)
    (a : AgH (only b0) (w.alloc (.cells #[.int .i64 t.kind, .int .i64 t.num, .slice A2 m2 c2] 30)) W) (h0 : b0 < B) : TrH B W (some ⟨w.heap.size, 0, none⟩) 1 1 (.mk k n [t]) := by
  have r0 := heap_alloc_new w (.cells #[.int .i64 t.kind, .int .i64 t.num, .slice A2 m2 c2] 30)
  have r1 := row_keep r0 a (show w.heap.size ≠ b0 by omega)
  have hl := (Array.getElem?_eq_some_iff.1 r1).1
  refine TrH.mk_ hk hn hB hl rfl (Nat.le_refl _) (by omega) fun j hj => ?_
  obtain rfl : j = 0 := by simp at hj; exact hj
  refine ⟨A2, m2, c2, ?_, ?_, ?_, ?_⟩
  · rw [cell_of_row _ _ _ _ _ _ r1]; rfl
  · rw [cell_of_row _ _ _ _ _ _ r1]; rfl
  · rw [cell_of_row _ _ _ _ _ _ r1]; rfl
  · exact (hT.go (AgH.of_below (H := fun _ => False) (alrB w _)) (fun _ _ e => e.elim) (Nat.le_refl _)).go a (fun i _ e => by rw [show i = b0 from e]; exact h0) (Nat.le_refl _)
/-- The parts, so much deeper, are read. -/
def UnC (T : List Tok) (en : Int) (g : Nat) (A : Option Addr) (c : Nat) (h : Hs) (f : Nat) (d : Int) : Prop :=
  ∀ (s : Ps) (w : World), PAt T en g A c h s w → Calls Tryz.prog 64 #[.pointer (some ⟨g, 0, none⟩), .int .i64 d] w (ExP T en g A c h ((exprsP (ktOf T) f).1 s) w)
def ExC (T : List Tok) (en : Int) (g : Nat) (A : Option Addr) (c : Nat) (h : Hs) (f : Nat) (d : Int) : Prop :=
  ∀ (st : Int) (s : Ps) (w : World), 0 ≤ st → st ≤ 100 → PAt T en g A c h s w → Calls Tryz.prog 29 #[.pointer (some ⟨g, 0, none⟩), .int .i64 st, .int .i64 d] w (ExP T en g A c h ((exprsP (ktOf T) f).2 st s) w)
set_option maxHeartbeats 2000000 in
theorem pa_turned (f : Nat) (d d' kd : Int) (hd : 0 ≤ d) (hd1 : d ≤ 40) (hd' : Hid (d' = d + 1)) (hk : kd = 3 ∨ kd = 4) (hU : Hid (UnC T en g A c h f d')) (w : World) (hp : Hid (PAt T en g A c h s w)) :
    Calls Tryz.prog 117 #[.pointer (some ⟨g, 0, none⟩), .int .i64 kd, .int .i64 d] w (ExP T en g A c h (.mk kd 0 [((exprsP (ktOf T) f).1 s).1], ((exprsP (ktOf T) f).1 s).2) w) := by
  have hgl := hp.out.blk.lt
  obtain ⟨w1, hw1⟩ : ∃ y, y = w.alloc (.cells #[.int .i64 0, .int .i64 0, .slice none 0 0] 30) := ⟨_, rfl⟩
  have HB1 := Lib.hid (show Below w.heap.size w w1 by rw [hw1]; exact alrB w _)
  have R1 := Lib.hid (show w1.heap[w.heap.size]? = some (.cells #[.int .i64 0, .int .i64 0, .slice none 0 0] 30 (0, 0)) by rw [hw1]; exact heap_alloc_new w _)
  have HP1 := Lib.hid (hp.out.below HB1.out)
  have HW := Lib.hid hw1.symm
  have hsz : w1.heap.size = w.heap.size + 1 := by rw [hw1, World.size_alloc]
  obtain ⟨g1, hg1⟩ : ∃ y, y = w.heap.size := ⟨_, rfl⟩
  have HG := Lib.hid hg1.symm
  rw [← hg1] at R1
  have hne : g1 ≠ g := by omega
  have HNE := Lib.hid hne
  have HSZ := Lib.hid hsz
  clear hw1 hg1 hsz
  have wd : IntKind.i64.wrap (d + 1) = d' := by rw [hd'.out]; exact IntWalk.i64_in _ ⟨by omega, by omega⟩
  have wd2 : d + 1 = d' := hd'.out.symm
  have cU := hU.out s w1 HP1.out
  have hmv := ((mv_exprs (K := ktOf T) f).1 s).vars
  obtain ⟨r, hr⟩ : ∃ r, r = (exprsP (ktOf T) f).1 s := ⟨_, rfl⟩
  rw [← hr] at cU hmv ⊢
  obtain ⟨t, s'⟩ := r
  have CU := Lib.hid cU
  have HK := Lib.hid (show I64 kd by unfold I64; omega)
  have HMV := Lib.hid hmv
  clear hr cU hU hmv hk
  go_enter Tryz.func117, Tryz.ntmps117
  go_upto_region 1 with fail
  rw [HW.out, HG.out]
  go_wp2_with fail
  refine CU.out.mono ?_
  rintro e w2 ⟨A2, m2, c2, rfl, hT, hS⟩
  have HT := Lib.hid hT
  have HS := Lib.hid hS
  have R2 := Lib.hid (row_keep R1.out hS.2 HNE.out)
  have R3 := row_alloc R2.out (.cells #[.int .i64 t.kind, .int .i64 t.num, .slice A2 m2 c2] 30)
  have HR3 := Lib.hid R3
  have c0 := row_cell R3 0 _ rfl
  have c1 := row_cell R3 1 _ rfl
  have c2' := row_cell R3 2 _ rfl
  have f0 := frozen_row (o := 0) R3
  have f1 := frozen_row (o := 1) R3
  have f2 := frozen_row (o := 2) R3
  have hgw := hS.2.size
  have HGW := Lib.hid hgw
  clear hT hS R3 hgw
  go_wp2
  have hsz := HSZ.out
  have hgw := HGW.out
  have hG := HG.out
  refine bodyPost_ret (res_turned (row_put3 HR3.out _ _ _) rfl) rfl ?_
  refine exp_finish hp.out HB1.out HS.out HMV.out (ag_put3 ((AgH.refl _ _).alloc _) (.inl ⟨by omega, HNE.out⟩) _ _ _) ?_
  refine (tree_one (b0 := g1) (B := w1.heap.size) HK.out (by unfold I64; omega) hgw HT.out (ag_put3 (H := only g1) (AgH.refl _ _) (.inl rfl) _ _ _) (by omega)).mono fun i _ e => ?_
  show i < w1.heap.size
  have : i < w.heap.size := e
  omega
end
end Go.Proofs.YtkpjhjoopdbkaaaGreatDoor
namespace Go.Proofs.YtkpjhjoopdbkaaaGreatDoor
open Go.RowKit
theorem own_form {w : World} {base : Nat} {e : TypeId} {size n : Nat} {v : Value} {xs : List Value} (h : w.ownsRow base e size v n xs) : ∃ A c, v = .slice A n c ∧ n ≤ c ∧ c ≤ 9223372036854775807 := by
  rcases h.2 with ⟨rfl, rfl⟩ | ⟨g, cap, cur, rfl, _, _, hnc, hm, _⟩
  · exact ⟨none, 0, rfl, Nat.le_refl _, by omega⟩
  · exact ⟨_, cap, rfl, hnc, hm⟩
theorem own_keep {w W : World} {base : Nat} {e : TypeId} {size n : Nat} {v : Value} {xs : List Value} {H : Nat → Prop} (h : w.ownsRow base e size v n xs) (a : AgH H w W) (hv : ∀ k, v.ownBlock = some k → ¬ H k) : W.ownsRow base e size v n xs := by
  have hlt := h.lt
  refine ⟨h.1, ?_⟩
  rcases h.2 with hn | ⟨g, cap, cur, rfl, hbg, hgg, rest⟩
  · exact .inl hn
  · refine .inr ⟨g, cap, cur, rfl, hbg, ?_, rest⟩
    rw [a.block g (hlt g rfl).2 (hv g rfl)]; exact hgg
/-- A row of one's own, what its elements lead to held against H and the row itself. -/
structure OwnR {α : Type} (size : Nat) (cells : α → List Value) (Q : α → World → Prop) (ty : TypeId) (base : Nat) (H : Nat → Prop) (V : Value) (l : List α) (w : World) : Prop where
  own : w.ownsRow base ty size V l.length (l.flatMap cells)
  held : ∀ x ∈ l, HeldH (fun i => H i ∨ V.ownBlock = some i) w (Q x)
section
variable {α : Type} {size : Nat} {cells : α → List Value} {Q : α → World → Prop} {ty : TypeId} {base : Nat} {H : Nat → Prop} {V : Value} {l : List α} {w W : World}
theorem OwnR.nil : OwnR size cells Q ty base H (.slice none 0 0) ([] : List α) w := ⟨World.ownsRow_nil _ _ _ _, fun x hx => by simp at hx⟩
theorem OwnR.keep {H' : Nat → Prop} (h : OwnR size cells Q ty base H V l w) (a : AgH H' w W) (hH : ∀ i, i < w.heap.size → H' i → H i ∧ V.ownBlock ≠ some i) : OwnR size cells Q ty base H V l W :=
  ⟨own_keep h.own a fun k hk e => (hH k (h.own.lt k hk).2 e).2 hk, fun x hx => (h.held x hx).keep a fun i hi e => .inl (hH i hi e).1⟩
theorem OwnR.append {w' : World} {V' : Value} {x : α} (h : OwnR size cells Q ty base H V l w) (hown : w'.ownsRow base ty size V' (l.length + 1) (l.flatMap cells ++ cells x)) (hg : w.grownBy w' V.ownBlock) (hat : V'.ownBlock = V.ownBlock ∨ V'.ownBlock = some w.heap.size)
    (hx : HeldH (fun i => H i ∨ V.ownBlock = some i) w (Q x)) : OwnR size cells Q ty base H V' (l ++ [x]) w' := by
  have a : AgH (fun i => V.ownBlock = some i) w w' := (AgH.refl _ w).grown hg fun k hk _ => hk
  refine ⟨?_, fun y hy => ?_⟩
  · rw [List.length_append, List.flatMap_append]
    simpa using hown
  · have key : HeldH (fun i => H i ∨ V.ownBlock = some i) w (Q y) := by
      rcases List.mem_append.1 hy with hy | hy
      · exact h.held y hy
      · rw [List.mem_singleton.1 hy]; exact hx
    intro W' a'
    refine key W' ((a.mono fun _ _ e => .inr e).then_ a' fun i hi e => ?_)
    rcases e with e | e
    · exact .inl e
    · rcases hat with h1 | h1
      · rw [h1] at e; exact .inr e
      · rw [h1] at e; injection e with e; omega
end
end Go.Proofs.YtkpjhjoopdbkaaaGreatDoor
namespace Go.Proofs.YtkpjhjoopdbkaaaGreatDoor
open Go.RowKit
/-- A kid: the tree, its slice. -/
structure KidV where
  t : Tr
  A : Option Addr
  m : Nat
  c : Nat
def KidV.cells (k : KidV) : List Value := [.int .i64 k.t.kind, .int .i64 k.t.num, .slice k.A k.m k.c]
def KidV.at_ (k : KidV) (W : World) : Prop := TrAt W k.A k.m k.c k.t
theorem kids_ty : SlTy Tryz.prog 28 30 3 40 := SlTy.mk (z := .agg #[.int .i64 0, .int .i64 0, .slice none 0 0]) (by kernel_rfl) (by kernel_rfl) rfl (by decide)
theorem kidv_one (k : KidV) : ∀ u ∈ k.cells, u.oneCell' = true := by
  intro u hu
  simp only [KidV.cells, List.mem_cons, List.not_mem_nil, or_false] at hu
  rcases hu with rfl | rfl | rfl <;> rfl
theorem kidv_at (l : List KidV) : ∀ (j i : Nat) (h : j < l.length), i < 3 → (l.flatMap KidV.cells)[j * 3 + i]? = (l[j].cells)[i]? := by
  induction l with
  | nil => intro j i h; exact absurd h (by simp)
  | cons t l ih =>
    intro j i h hi
    rw [List.flatMap_cons]
    have hc : t.cells.length = 3 := rfl
    rcases j with _ | j
    · rw [List.getElem?_append_left (by omega)]; simp
    · rw [List.getElem?_append_right (by omega), hc]
      have := ih j i (by simpa using h) hi
      rw [show (j + 1) * 3 + i - 3 = j * 3 + i by omega, this]; rfl
/-- A row of kids is a tree's. -/
theorem kids_tree {B base : Nat} {H : Nat → Prop} {V : Value} {l : List KidV} {w : World} {k n : Int} (h : OwnR 3 KidV.cells KidV.at_ 30 base H V l w) (hk : I64 k) (hn : I64 n) (hB : B ≤ base) (hH : ∀ i, i < B → H i) :
    ∃ A c, V = .slice A l.length c ∧ TrH B w A l.length c (.mk k n (l.map (·.t))) := by
  rcases h.own.2 with ⟨hv, h0⟩ | ⟨g, cap, cur, hv, hbg, hgg, hnc, hm, _⟩
  · have e : l = [] := List.length_eq_zero_iff.1 h0
    subst e
    exact ⟨none, 0, hv, TrH.leaf B w hk hn⟩
  · refine ⟨_, cap, hv, ?_⟩
    have hc := fun j u hu => h.own.cells (g := g) (by rw [hv]; rfl) j u hu
    refine TrH.mk_ hk hn (Nat.le_trans hB hbg) (Array.getElem?_eq_some_iff.1 hgg).1 (by rw [List.length_map]) hnc (by unfold maxLen at hm; exact hm) fun j hj => ?_
    rw [List.length_map] at hj
    have e : (l.map (·.t)).getD j default = l[j].t := by simp [List.getD, hj]
    rw [e]
    refine ⟨l[j].A, l[j].m, l[j].c, ?_, ?_, ?_, ?_⟩
    · have := hc (j * 3 + 0) _ ((kidv_at l j 0 hj (by omega)).trans rfl)
      rwa [Go.WideShapes.add_plain, Nat.zero_add] at this
    · have := hc (j * 3 + 1) _ ((kidv_at l j 1 hj (by omega)).trans rfl)
      rwa [Go.WideShapes.add_plain, Nat.zero_add] at this
    · have := hc (j * 3 + 2) _ ((kidv_at l j 2 hj (by omega)).trans rfl)
      rwa [Go.WideShapes.add_plain, Nat.zero_add] at this
    · exact (h.held l[j] (List.getElem_mem hj)).mono fun i _ e => .inl (hH i e)
def signT (k : Nat) : ByteArray := if k = 0 then ⟨#[40]⟩ else ⟨#[44]⟩
theorem signT_ne (k : Nat) : signT k ≠ ByteArray.empty := by unfold signT; split <;> decide
/-- The kids read so far, and the parser. -/
def chP (K : List Kt) (ex : Int → Ps → Tr × Ps) (s : Ps) : Nat → List Tr × Ps
  | 0 => ([], s)
  | k + 1 => ((chP K ex s k).1 ++ [(ex 0 (wantP K (signT k) (chP K ex s k).2)).1], (ex 0 (wantP K (signT k) (chP K ex s k).2)).2)
theorem choice_ch (K : List Kt) (ex : Int → Ps → Tr × Ps) (s : Ps) : choiceP K ex s = (.mk 6 0 (chP K ex s 3).1, wantP K ⟨#[41]⟩ (chP K ex s 3).2) := rfl
theorem mv_ch {K : List Kt} {ex : Int → Ps → Tr × Ps} (hx : ∀ st s, Mv K s (ex st s).2) (s : Ps) : ∀ k, Mv K s (chP K ex s k).2
  | 0 => Mv.refl s
  | k + 1 => ((mv_ch hx s k).trans (mv_want (signT_ne k) _)).trans (hx _ _)
theorem row_set {w : World} {g t o : Nat} {cs cs' : Array Value} {z : Nat × Nat} {u : Value} (h : w.heap[g]? = some (.cells cs t z)) (hc : cs.setIfInBounds o u = cs') : (w.setCell ⟨g, o, none⟩ u).heap[g]? = some (.cells cs' t z) := by rw [← hc]; exact row_put h o u
section
variable {T : List Tok} {en : Int} {g : Nat} {A : Option Addr} {c : Nat} {h : Hs} {s : Ps}
/-- The choice's loop. -/
structure ChI (T : List Tok) (en : Int) (g : Nat) (A : Option Addr) (c : Nat) (h : Hs) (f : Nat) (w : World) (g1 g2 g3 base : Nat) (s : Ps) (k : Nat) (l : List KidV) (V : Value) (wr : World) : Prop where
  bs : base ≤ wr.heap.size
  len : l.length = k
  trees : l.map (·.t) = (chP (ktOf T) (exprsP (ktOf T) f).2 s k).1
  own : OwnR 3 KidV.cells KidV.at_ 30 base (fun i => i < base) V l wr
  r1 : wr.heap[g1]? = some (.cells #[.int .i64 0, .int .i64 0, .slice none 0 0] 30 (0, 0))
  r2 : wr.heap[g2]? = some (.cells #[.int .i64 6, .int .i64 0, V] 30 (0, 0))
  r3 : wr.heap[g3]? = some (.cells #[.string ⟨#[40]⟩, .string ⟨#[44]⟩, .string ⟨#[44]⟩] 9 (0, 0))
  tn : Turned T en g A c h (chP (ktOf T) (exprsP (ktOf T) f).2 s k).2 w wr
theorem ChI.step {f : Nat} {w : World} {g1 g2 g3 base k : Nat} {l : List KidV} {V : Value} {wr : World} (hp : PAt T en g A c h s w) (hg : g < w.heap.size) (h1 : w.heap.size ≤ g1) (h12 : g1 < g2) (h23 : g2 < g3) (h3b : g3 < base) (I : ChI T en g A c h f w g1 g2 g3 base s k l V wr)
    {w3 w4 w6 : World} {A2 : Option Addr} {m2 c2 : Nat} {t : Tr} {s1 s2 : Ps} (h31 : s1 = wantP (ktOf T) (signT k) (chP (ktOf T) (exprsP (ktOf T) f).2 s k).2) (hex : (t, s2) = (exprsP (ktOf T) f).2 0 s1)
    (ht1 : Turned T en g A c h s1 wr w3) (htr : TrH w3.heap.size w4 A2 m2 c2 t) (ht2 : Turned T en g A c h s2 w3 w4) {V' : Value}
    (hO : w6.ownsRow base 30 3 V' (l.length + 1) (l.flatMap KidV.cells ++ (KidV.mk t A2 m2 c2).cells)) (hgr : (w4.alloc (.cells #[.int .i64 t.kind, .int .i64 t.num, .slice A2 m2 c2] 30)).grownBy w6 V.ownBlock)
    (hat : V'.ownBlock = V.ownBlock ∨ V'.ownBlock = some (w4.alloc (.cells #[.int .i64 t.kind, .int .i64 t.num, .slice A2 m2 c2] 30)).heap.size) :
    ChI T en g A c h f w g1 g2 g3 base s (k + 1) (l ++ [⟨t, A2, m2, c2⟩]) V' (w6.setCell ⟨g2, 2, none⟩ V') := by
  have hlt2 : g3 < wr.heap.size := (Array.getElem?_eq_some_iff.1 I.r3).1
  have hl1 : g1 < wr.heap.size := (Array.getElem?_eq_some_iff.1 I.r1).1
  have hl2 : g2 < wr.heap.size := (Array.getElem?_eq_some_iff.1 I.r2).1
  have a34 : AgH (only g) wr w4 := ht1.2.trans ht2.2
  have hs34 := ht2.2.size
  have hbs := I.bs
  have hs3 := ht1.2.size
  have oV : ∀ i, V.ownBlock = some i → base ≤ i ∧ i < wr.heap.size := fun i e => I.own.own.lt i e
  have a46 : AgH (fun i => V.ownBlock = some i) w4 w6 := ((AgH.refl _ w4).alloc _).grown hgr fun i e _ => e
  have o4 : OwnR 3 KidV.cells KidV.at_ 30 base (fun i => i < base) V l w4 := I.own.keep a34 fun i _ e => by
    rw [show i = g from e]
    exact ⟨by show g < base; omega, fun e => by have := (oV g e).1; omega⟩
  have o5 : OwnR 3 KidV.cells KidV.at_ 30 base (fun i => i < base) V l (w4.alloc (.cells #[.int .i64 t.kind, .int .i64 t.num, .slice A2 m2 c2] 30)) :=
    o4.keep (H' := fun _ => False) (AgH.of_below (alrB w4 _)) fun _ _ e => e.elim
  have hx5 : HeldH (fun i => i < base ∨ V.ownBlock = some i) (w4.alloc (.cells #[.int .i64 t.kind, .int .i64 t.num, .slice A2 m2 c2] 30)) (KidV.at_ ⟨t, A2, m2, c2⟩) :=
    (HeldH.keep (H' := fun _ => False) htr (AgH.of_below (alrB w4 _)) fun _ _ e => e.elim).mono fun i _ e => by
      show i < w3.heap.size
      rcases e with e | e
      · omega
      · have := (oV i e).2; omega
  have o6 := o5.append hO hgr hat hx5
  have sz6 := hgr.size
  have sza : (w4.alloc (.cells #[.int .i64 t.kind, .int .i64 t.num, .slice A2 m2 c2] 30)).heap.size = w4.heap.size + 1 := World.size_alloc _ _
  have a67 : AgH (only g2) w6 (w6.setCell ⟨g2, 2, none⟩ V') := (AgH.refl (only g2) _).setCell (.inl rfl) _
  have kp : ∀ (b : Nat) (o : Obj), b < base → b ≠ g → wr.heap[b]? = some o → w6.heap[b]? = some o := fun b o hb hn hr =>
    (a46.block b (by have := (Array.getElem?_eq_some_iff.1 hr).1; omega) fun e => by have := (oV b e).1; omega).trans (row_keep hr a34 hn)
  have sz7 := a67.size
  refine ⟨by omega, by rw [List.length_append, I.len]; rfl, ?_, ?_, ?_, ?_, ?_, ?_⟩
  · rw [List.map_append, I.trees, chP, ← h31, ← hex]; rfl
  · refine o6.keep a67 fun i _ e => ?_
    rw [show i = g2 from e]
    refine ⟨by show g2 < base; omega, fun e => ?_⟩
    have := (o6.own.lt g2 e).1
    omega
  · exact row_keep (kp g1 _ (by omega) (by omega) I.r1) a67 (by omega)
  · exact row_set (kp g2 _ (by omega) (by omega) I.r2) rfl
  · exact row_keep (kp g3 _ (by omega) (by omega) I.r3) a67 (by omega)
  · have e : (chP (ktOf T) (exprsP (ktOf T) f).2 s (k + 1)).2 = s2 := by rw [chP, ← h31, ← hex]
    rw [e]
    have mv := (mv_ch (K := ktOf T) (mv_exprs f).2 s (k + 1)).vars
    rw [e] at mv
    refine Turned.out hp (Below.refl _ _) ((I.tn.then_ ht1).then_ ht2) mv ?_
    have hws := I.tn.2.size
    refine (a46.mono fun i _ e => ?_).trans (a67.mono fun i _ e => ?_)
    · have := (oV i e).1; exact ⟨by omega, by omega⟩
    · rw [show i = g2 from e]; exact ⟨by omega, by omega⟩
end
end Go.Proofs.YtkpjhjoopdbkaaaGreatDoor
