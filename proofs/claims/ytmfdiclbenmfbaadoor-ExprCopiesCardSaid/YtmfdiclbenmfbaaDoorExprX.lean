/- Text of each kind, Text: the document's. Printed by gen_exprX.py. -/
import Derived.Test.YtmfdiclbenmfbaaDoorExprV
import Derived.Deep.RegionHeld3
import Derived.Deep.QuietTactic
import Derived.BigQuiet
namespace Go.Proofs.YtmfdiclbenmfbaaDoor
open Go.RowKit
set_option maxRecDepth 100000 in
set_option maxHeartbeats 4000000 in
theorem r_text_minus (names : List ByteArray) (NA : Option Addr) (nn nc : Nat) (N : Nat) (IH : Hid (RTextAt names NA nn nc N)) (t : Tr) (hN : t.sz ≤ N + 1) (A : Option Addr) (m c : Nat) (w : World) (h : Hid (TrAt w A m c t)) (hS : Hid (Sl w (.slice NA nn nc) nn 1 (strCells names))) (hlen : (textT names t).length ≤ 1000000000000) (hk : t.kind = 3) :
    Calls Tryd.prog 18 #[t.val A m c, .slice NA nn nc] w fun e w' => e = .returned (.string (bs (textT names t))) ∧ Below w.heap.size w w' := by
  have hb1 := (Below.refl w.heap.size w).alloc (Nat.le_refl _) (.cells #[.int .i64 t.kind, .int .i64 t.num, .slice A m c] 24)
  have hT := fun W (hb : Below w.heap.size w W) => Lib.hid (h.out.kept hb)
  have hS2 := fun W (hb : Below w.heap.size w W) => Lib.hid (hS.out.below hb)
  have CL := fun (j : Nat) (s : Int) W (hb : Below w.heap.size w W) (hj : j ≤ 2) => r_loose t A m c j s W (hT W hb) hj
  have CK := fun (j : Nat) (around : Bool) W (hb : Below w.heap.size w W) (hj : j ≤ 2) (hl : (kidR names t j around).length ≤ 1000000000000) => r_kid names NA nn nc N IH t hN A m c j around W (hT W hb) (hS2 W hb) hj hl
  obtain ⟨hi1, hi2⟩ := h.out.nums
  have HT := textT_eq names t
  obtain ⟨n, hn⟩ : ∃ n, n = t.num := ⟨_, rfl⟩
  obtain ⟨k, hkk⟩ : ∃ k, k = t.kind := ⟨_, rfl⟩
  have hv : t.val A m c = .agg #[.int .i64 k, .int .i64 n, .slice A m c] := by rw [hn, hkk]
  rw [hv] at CL CK ⊢
  rw [← hn, ← hkk] at HT
  rw [← hkk] at hk hb1
  rw [← hn] at hi2 hb1
  rw [show textN names k n (textL names t.kids) = [45] ++ kidS (textL names t.kids) 0 9 by unfold textN; rw [hk]; simp] at HT
  rw [HT] at hlen
  simp only [List.length_append, List.length_cons, List.length_nil] at hlen
  have hkr := kidR_kidS names t 0 9
  have CLL := Lib.hid (fun W hb => CL 0 9 W hb (by decide))
  have CKK := Lib.hid (fun W hb => CK 0 (looseB t 0 9) W hb (by decide) (by rw [hkr]; omega))
  rw [hkr] at CKK
  obtain ⟨y0, hy0⟩ : ∃ y, y = kidS (textL names t.kids) 0 9 := ⟨_, rfl⟩
  rw [← hy0] at HT CKK hlen
  have hsz := bs_size y0
  have hbe : (⟨#[45]⟩ ++ bs y0 : ByteArray) = bs (textT names t) := bs_eq (by rw [HT]; simp [bs])
  obtain ⟨d, hd⟩ : ∃ d, d = bs y0 := ⟨_, rfl⟩
  rw [← hd] at CKK hsz hbe
  have q1 : (9223372036854775807 < 1 + d.size) = False := eq_false (by omega)
  have HBE := Lib.hid hbe
  clear hy0 hkr HT hsz hbe hd CL CK hlen
  clear hv hn hkk
  have HB1 := Lib.hid hb1
  have x0 := cell_new w #[.int .i64 k, .int .i64 n, .slice A m c] 24 0 _ rfl
  have x1 := cell_new w #[.int .i64 k, .int .i64 n, .slice A m c] 24 1 _ rfl
  have x2 := cell_new w #[.int .i64 k, .int .i64 n, .slice A m c] 24 2 _ rfl
  obtain ⟨w1, hw1⟩ : ∃ w1, w1 = w.alloc (.cells #[.int .i64 k, .int .i64 n, .slice A m c] 24) := ⟨_, rfl⟩
  obtain ⟨g, hg⟩ : ∃ g, g = w.heap.size := ⟨_, rfl⟩
  have HW1 := Lib.hid hw1
  have HG := Lib.hid hg
  rw [← hw1] at HB1 x0 x1 x2
  rw [← hg] at x0 x1 x2
  clear hw1 hg hb1
  subst hk
  go_enter Tryd.func18, Tryd.ntmps18
  go_upto_region 1 with fail
  rw [← HG.out, ← HW1.out]
  go_wp2_with fail
  have HC := Lib.hid (show ∀ W, Below w1.heap.size w1 W → W.cell? ⟨g, 0, none⟩ = some (.int .i64 3) ∧ W.cell? ⟨g, 1, none⟩ = some (.int .i64 n) ∧ W.cell? ⟨g, 2, none⟩ = some (.slice A m c) from fun W h => ⟨cell_kept h x0, cell_kept h x1, cell_kept h x2⟩)
  have BD := Lib.hid (below_drewN' (Below.refl w1.heap.size w1) 1)
  go_region_held3 (fun W => W.cell? ⟨g, 0, none⟩ = some (.int .i64 3) ∧ W.cell? ⟨g, 1, none⟩ = some (.int .i64 n) ∧ W.cell? ⟨g, 2, none⟩ = some (.slice A m c))
    (first | exact HC.out _ BD2.out | exact HC.out _ BD1.out | exact HC.out _ BD.out)
    (first
      | (go_at_call 39; refine (CLL.out _ (below_then HB1.out BD.out)).mono ?_; rintro e wa ⟨rfl, hba⟩; have BD1 := Lib.hid (below_then (show Below w1.heap.size w1 w1.drew from BD.out) hba); clear hba)
      | (go_at_call 38; refine (CKK.out _ (below_then HB1.out BD1.out)).mono ?_; rintro e wb ⟨rfl, hbb⟩; have BD2 := Lib.hid (below_then BD1.out hbb); clear hbb))
  all_goals
    have HB2 := Lib.hid (below_then HB1.out BD2.out)
    go_wp2_with fail
    go_ret
    exact ⟨by rw [← HBE.out]; rfl, HB2.out⟩
set_option maxRecDepth 100000 in
set_option maxHeartbeats 4000000 in
theorem r_text_not (names : List ByteArray) (NA : Option Addr) (nn nc : Nat) (N : Nat) (IH : Hid (RTextAt names NA nn nc N)) (t : Tr) (hN : t.sz ≤ N + 1) (A : Option Addr) (m c : Nat) (w : World) (h : Hid (TrAt w A m c t)) (hS : Hid (Sl w (.slice NA nn nc) nn 1 (strCells names))) (hlen : (textT names t).length ≤ 1000000000000) (hk : t.kind = 4) :
    Calls Tryd.prog 18 #[t.val A m c, .slice NA nn nc] w fun e w' => e = .returned (.string (bs (textT names t))) ∧ Below w.heap.size w w' := by
  have hb1 := (Below.refl w.heap.size w).alloc (Nat.le_refl _) (.cells #[.int .i64 t.kind, .int .i64 t.num, .slice A m c] 24)
  have hT := fun W (hb : Below w.heap.size w W) => Lib.hid (h.out.kept hb)
  have hS2 := fun W (hb : Below w.heap.size w W) => Lib.hid (hS.out.below hb)
  have CL := fun (j : Nat) (s : Int) W (hb : Below w.heap.size w W) (hj : j ≤ 2) => r_loose t A m c j s W (hT W hb) hj
  have CK := fun (j : Nat) (around : Bool) W (hb : Below w.heap.size w W) (hj : j ≤ 2) (hl : (kidR names t j around).length ≤ 1000000000000) => r_kid names NA nn nc N IH t hN A m c j around W (hT W hb) (hS2 W hb) hj hl
  obtain ⟨hi1, hi2⟩ := h.out.nums
  have HT := textT_eq names t
  obtain ⟨n, hn⟩ : ∃ n, n = t.num := ⟨_, rfl⟩
  obtain ⟨k, hkk⟩ : ∃ k, k = t.kind := ⟨_, rfl⟩
  have hv : t.val A m c = .agg #[.int .i64 k, .int .i64 n, .slice A m c] := by rw [hn, hkk]
  rw [hv] at CL CK ⊢
  rw [← hn, ← hkk] at HT
  rw [← hkk] at hk hb1
  rw [← hn] at hi2 hb1
  rw [show textN names k n (textL names t.kids) = [33] ++ kidS (textL names t.kids) 0 9 by unfold textN; rw [hk]; simp] at HT
  rw [HT] at hlen
  simp only [List.length_append, List.length_cons, List.length_nil] at hlen
  have hkr := kidR_kidS names t 0 9
  have CLL := Lib.hid (fun W hb => CL 0 9 W hb (by decide))
  have CKK := Lib.hid (fun W hb => CK 0 (looseB t 0 9) W hb (by decide) (by rw [hkr]; omega))
  rw [hkr] at CKK
  obtain ⟨y0, hy0⟩ : ∃ y, y = kidS (textL names t.kids) 0 9 := ⟨_, rfl⟩
  rw [← hy0] at HT CKK hlen
  have hsz := bs_size y0
  have hbe : (⟨#[33]⟩ ++ bs y0 : ByteArray) = bs (textT names t) := bs_eq (by rw [HT]; simp [bs])
  obtain ⟨d, hd⟩ : ∃ d, d = bs y0 := ⟨_, rfl⟩
  rw [← hd] at CKK hsz hbe
  have q1 : (9223372036854775807 < 1 + d.size) = False := eq_false (by omega)
  have HBE := Lib.hid hbe
  clear hy0 hkr HT hsz hbe hd CL CK hlen
  clear hv hn hkk
  have HB1 := Lib.hid hb1
  have x0 := cell_new w #[.int .i64 k, .int .i64 n, .slice A m c] 24 0 _ rfl
  have x1 := cell_new w #[.int .i64 k, .int .i64 n, .slice A m c] 24 1 _ rfl
  have x2 := cell_new w #[.int .i64 k, .int .i64 n, .slice A m c] 24 2 _ rfl
  obtain ⟨w1, hw1⟩ : ∃ w1, w1 = w.alloc (.cells #[.int .i64 k, .int .i64 n, .slice A m c] 24) := ⟨_, rfl⟩
  obtain ⟨g, hg⟩ : ∃ g, g = w.heap.size := ⟨_, rfl⟩
  have HW1 := Lib.hid hw1
  have HG := Lib.hid hg
  rw [← hw1] at HB1 x0 x1 x2
  rw [← hg] at x0 x1 x2
  clear hw1 hg hb1
  subst hk
  go_enter Tryd.func18, Tryd.ntmps18
  go_upto_region 1 with fail
  rw [← HG.out, ← HW1.out]
  go_wp2_with fail
  have HC := Lib.hid (show ∀ W, Below w1.heap.size w1 W → W.cell? ⟨g, 0, none⟩ = some (.int .i64 4) ∧ W.cell? ⟨g, 1, none⟩ = some (.int .i64 n) ∧ W.cell? ⟨g, 2, none⟩ = some (.slice A m c) from fun W h => ⟨cell_kept h x0, cell_kept h x1, cell_kept h x2⟩)
  have BD := Lib.hid (below_drewN' (Below.refl w1.heap.size w1) 1)
  go_region_held3 (fun W => W.cell? ⟨g, 0, none⟩ = some (.int .i64 4) ∧ W.cell? ⟨g, 1, none⟩ = some (.int .i64 n) ∧ W.cell? ⟨g, 2, none⟩ = some (.slice A m c))
    (first | exact HC.out _ BD2.out | exact HC.out _ BD1.out | exact HC.out _ BD.out)
    (first
      | (go_at_call 39; refine (CLL.out _ (below_then HB1.out BD.out)).mono ?_; rintro e wa ⟨rfl, hba⟩; have BD1 := Lib.hid (below_then (show Below w1.heap.size w1 w1.drew from BD.out) hba); clear hba)
      | (go_at_call 38; refine (CKK.out _ (below_then HB1.out BD1.out)).mono ?_; rintro e wb ⟨rfl, hbb⟩; have BD2 := Lib.hid (below_then BD1.out hbb); clear hbb))
  all_goals
    have HB2 := Lib.hid (below_then HB1.out BD2.out)
    go_wp2_with fail
    go_ret
    exact ⟨by rw [← HBE.out]; rfl, HB2.out⟩
set_option maxRecDepth 100000 in
set_option maxHeartbeats 4000000 in
theorem r_text_two (names : List ByteArray) (NA : Option Addr) (nn nc : Nat) (N : Nat) (IH : Hid (RTextAt names NA nn nc N)) (t : Tr) (hN : t.sz ≤ N + 1) (A : Option Addr) (m c : Nat) (w : World) (h : Hid (TrAt w A m c t)) (hS : Hid (Sl w (.slice NA nn nc) nn 1 (strCells names))) (hlen : (textT names t).length ≤ 1000000000000) (hk : t.kind = 5) :
    Calls Tryd.prog 18 #[t.val A m c, .slice NA nn nc] w fun e w' => e = .returned (.string (bs (textT names t))) ∧ Below w.heap.size w w' := by
  have hb1 := (Below.refl w.heap.size w).alloc (Nat.le_refl _) (.cells #[.int .i64 t.kind, .int .i64 t.num, .slice A m c] 24)
  have hT := fun W (hb : Below w.heap.size w W) => Lib.hid (h.out.kept hb)
  have hS2 := fun W (hb : Below w.heap.size w W) => Lib.hid (hS.out.below hb)
  have CL := fun (j : Nat) (s : Int) W (hb : Below w.heap.size w W) (hj : j ≤ 2) => r_loose t A m c j s W (hT W hb) hj
  have CK := fun (j : Nat) (around : Bool) W (hb : Below w.heap.size w W) (hj : j ≤ 2) (hl : (kidR names t j around).length ≤ 1000000000000) => r_kid names NA nn nc N IH t hN A m c j around W (hT W hb) (hS2 W hb) hj hl
  obtain ⟨hi1, hi2⟩ := h.out.nums
  have HT := textT_eq names t
  obtain ⟨n, hn⟩ : ∃ n, n = t.num := ⟨_, rfl⟩
  obtain ⟨k, hkk⟩ : ∃ k, k = t.kind := ⟨_, rfl⟩
  have hv : t.val A m c = .agg #[.int .i64 k, .int .i64 n, .slice A m c] := by rw [hn, hkk]
  rw [hv] at CL CK ⊢
  rw [← hn, ← hkk] at HT
  rw [← hkk] at hk hb1
  rw [← hn] at hi2 hb1
  rw [show textN names k n (textL names t.kids) = kidS (textL names t.kids) 0 (strI n) ++ ([32] ++ (signOf n).data.toList ++ [32]) ++ kidS (textL names t.kids) 1 (strI n + 1) by unfold textN; rw [hk]; simp] at HT
  rw [HT] at hlen
  simp only [List.length_append, List.length_cons, List.length_nil] at hlen
  have CS := ref01_Strength n
  have CG := ref01_Sign n
  have hyb := strI_bd n
  have hsg := sign_len n
  obtain ⟨y, hy⟩ : ∃ y, y = strI n := ⟨_, rfl⟩
  obtain ⟨sg, hsgn⟩ : ∃ sg, sg = signOf n := ⟨_, rfl⟩
  rw [← hy] at HT hyb CS hlen
  rw [← hsgn] at HT hsg CG hlen
  have hszg : sg.data.toList.length = sg.size := by simp
  rw [hszg] at hsg hlen
  have hkr0 := kidR_kidS names t 0 y
  have hkr1 := kidR_kidS names t 1 (y + 1)
  have CLLa := Lib.hid (fun W hb => CL 0 y W hb (by decide))
  have CLLb := Lib.hid (fun W hb => CL 1 (y + 1) W hb (by decide))
  have CKKa := Lib.hid (fun W hb => CK 0 (looseB t 0 y) W hb (by decide) (by rw [hkr0]; omega))
  have CKKb := Lib.hid (fun W hb => CK 1 (looseB t 1 (y + 1)) W hb (by decide) (by rw [hkr1]; omega))
  rw [hkr0] at CKKa
  rw [hkr1] at CKKb
  obtain ⟨y0, hy0⟩ : ∃ y_, y_ = kidS (textL names t.kids) 0 y := ⟨_, rfl⟩
  obtain ⟨y1, hy1⟩ : ∃ y_, y_ = kidS (textL names t.kids) 1 (y + 1) := ⟨_, rfl⟩
  rw [← hy0] at HT CKKa hlen
  rw [← hy1] at HT CKKb hlen
  have hsz0 := bs_size y0
  have hsz1 := bs_size y1
  have hbe : (bs y0 ++ ⟨#[32]⟩ ++ sg ++ ⟨#[32]⟩ ++ bs y1 : ByteArray) = bs (textT names t) := bs_eq (by rw [HT]; simp [bs])
  obtain ⟨d0, hd0⟩ : ∃ d, d = bs y0 := ⟨_, rfl⟩
  obtain ⟨d1, hd1⟩ : ∃ d, d = bs y1 := ⟨_, rfl⟩
  rw [← hd0] at CKKa hsz0 hbe
  rw [← hd1] at CKKb hsz1 hbe
  have q1 : (9223372036854775807 < d0.size + 1) = False := eq_false (by omega)
  have q2 : (9223372036854775807 < d0.size + 1 + sg.size) = False := eq_false (by omega)
  have q3 : (9223372036854775807 < d0.size + 1 + sg.size + 1) = False := eq_false (by omega)
  have q4 : (9223372036854775807 < d0.size + 1 + sg.size + 1 + d1.size) = False := eq_false (by omega)
  have ws : IntKind.i64.wrap (y + 1) = y + 1 := IntWalk.i64_in _ (by omega)
  have HBE := Lib.hid hbe
  clear hy0 hy1 hkr0 hkr1 HT hsz0 hsz1 hbe hd0 hd1 CL CK hlen hy hsgn hszg
  clear hv hn hkk
  have HB1 := Lib.hid hb1
  have x0 := cell_new w #[.int .i64 k, .int .i64 n, .slice A m c] 24 0 _ rfl
  have x1 := cell_new w #[.int .i64 k, .int .i64 n, .slice A m c] 24 1 _ rfl
  have x2 := cell_new w #[.int .i64 k, .int .i64 n, .slice A m c] 24 2 _ rfl
  obtain ⟨w1, hw1⟩ : ∃ w1, w1 = w.alloc (.cells #[.int .i64 k, .int .i64 n, .slice A m c] 24) := ⟨_, rfl⟩
  obtain ⟨g, hg⟩ : ∃ g, g = w.heap.size := ⟨_, rfl⟩
  have HW1 := Lib.hid hw1
  have HG := Lib.hid hg
  rw [← hw1] at HB1 x0 x1 x2
  rw [← hg] at x0 x1 x2
  clear hw1 hg hb1
  subst hk
  go_enter Tryd.func18, Tryd.ntmps18
  go_upto_region 1 with fail
  rw [← HG.out, ← HW1.out]
  go_wp2_with fail
  refine (CS _).mono ?_
  rintro e w2 ⟨rfl, hb2⟩
  have HB2 := Lib.hid (below_then HB1.out hb2)
  have r0 := cell_kept hb2 x0
  have r1 := cell_kept hb2 x1
  have r2 := cell_kept hb2 x2
  clear hb2 x0 x1 x2
  go_wp2_with fail
  have HCa := Lib.hid (show ∀ W, Below w2.heap.size w2 W → W.cell? ⟨g, 0, none⟩ = some (.int .i64 5) ∧ W.cell? ⟨g, 1, none⟩ = some (.int .i64 n) ∧ W.cell? ⟨g, 2, none⟩ = some (.slice A m c) from fun W h => ⟨cell_kept h r0, cell_kept h r1, cell_kept h r2⟩)
  have BDa := Lib.hid (below_drewN' (Below.refl w2.heap.size w2) 1)
  go_region_held3 (fun W => W.cell? ⟨g, 0, none⟩ = some (.int .i64 5) ∧ W.cell? ⟨g, 1, none⟩ = some (.int .i64 n) ∧ W.cell? ⟨g, 2, none⟩ = some (.slice A m c))
    (first | exact HCa.out _ BD2a.out | exact HCa.out _ BD1a.out | exact HCa.out _ BDa.out)
    (first
      | (go_at_call 39; refine (CLLa.out _ (below_then HB2.out BDa.out)).mono ?_; rintro e waa ⟨rfl, hba⟩; have BD1a := Lib.hid (below_then (show Below w2.heap.size w2 w2.drew from BDa.out) hba); clear hba)
      | (go_at_call 38; refine (CKKa.out _ (below_then HB2.out BD1a.out)).mono ?_; rintro e wba ⟨rfl, hbb⟩; have BD2a := Lib.hid (below_then BD1a.out hbb); clear hbb))
  all_goals
    have HB3 := Lib.hid (below_then HB2.out BD2a.out)
    obtain ⟨x0, x1, x2⟩ := HCa.out _ BD2a.out
    clear HCa BDa BD1a BD2a r0 r1 r2
    go_wp2_with fail
    have HCb := Lib.hid (show ∀ W, Below wba.heap.size wba W → W.cell? ⟨g, 0, none⟩ = some (.int .i64 5) ∧ W.cell? ⟨g, 1, none⟩ = some (.int .i64 n) ∧ W.cell? ⟨g, 2, none⟩ = some (.slice A m c) from fun W h => ⟨cell_kept h x0, cell_kept h x1, cell_kept h x2⟩)
    have BDb := Lib.hid (below_drewN' (Below.refl wba.heap.size wba) 1)
    go_region_held3 (fun W => W.cell? ⟨g, 0, none⟩ = some (.int .i64 5) ∧ W.cell? ⟨g, 1, none⟩ = some (.int .i64 n) ∧ W.cell? ⟨g, 2, none⟩ = some (.slice A m c))
      (first | exact HCb.out _ BD2b.out | exact HCb.out _ BD1b.out | exact HCb.out _ BDb.out)
      (first
        | (go_at_call 39; refine (CLLb.out _ (below_then HB3.out BDb.out)).mono ?_; rintro e wab ⟨rfl, hba⟩; have BD1b := Lib.hid (below_then (show Below wba.heap.size wba wba.drew from BDb.out) hba); clear hba)
        | (go_at_call 38; refine (CKKb.out _ (below_then HB3.out BD1b.out)).mono ?_; rintro e wbb ⟨rfl, hbb⟩; have BD2b := Lib.hid (below_then BD1b.out hbb); clear hbb))
    all_goals
      have HB4 := Lib.hid (below_then HB3.out BD2b.out)
      have r1 := (HCb.out _ BD2b.out).2.1
      clear HCb BDb BD1b BD2b x0 x1 x2
      go_wp2_with fail
      refine (CG _).mono ?_
      rintro e w5 ⟨rfl, hb5⟩
      have HB5 := Lib.hid (below_then HB4.out hb5)
      clear hb5
      go_wp2_with fail
      go_ret
      exact ⟨by rw [← HBE.out]; rfl, HB5.out⟩
set_option maxRecDepth 100000 in
set_option maxHeartbeats 4000000 in
theorem r_text_if (names : List ByteArray) (NA : Option Addr) (nn nc : Nat) (N : Nat) (IH : Hid (RTextAt names NA nn nc N)) (t : Tr) (hN : t.sz ≤ N + 1) (A : Option Addr) (m c : Nat) (w : World) (h : Hid (TrAt w A m c t)) (hS : Hid (Sl w (.slice NA nn nc) nn 1 (strCells names))) (hlen : (textT names t).length ≤ 1000000000000) (hk : t.kind = 6) :
    Calls Tryd.prog 18 #[t.val A m c, .slice NA nn nc] w fun e w' => e = .returned (.string (bs (textT names t))) ∧ Below w.heap.size w w' := by
  have hb1 := (Below.refl w.heap.size w).alloc (Nat.le_refl _) (.cells #[.int .i64 t.kind, .int .i64 t.num, .slice A m c] 24)
  have hT := fun W (hb : Below w.heap.size w W) => Lib.hid (h.out.kept hb)
  have hS2 := fun W (hb : Below w.heap.size w W) => Lib.hid (hS.out.below hb)
  have CL := fun (j : Nat) (s : Int) W (hb : Below w.heap.size w W) (hj : j ≤ 2) => r_loose t A m c j s W (hT W hb) hj
  have CK := fun (j : Nat) (around : Bool) W (hb : Below w.heap.size w W) (hj : j ≤ 2) (hl : (kidR names t j around).length ≤ 1000000000000) => r_kid names NA nn nc N IH t hN A m c j around W (hT W hb) (hS2 W hb) hj hl
  obtain ⟨hi1, hi2⟩ := h.out.nums
  have HT := textT_eq names t
  obtain ⟨n, hn⟩ : ∃ n, n = t.num := ⟨_, rfl⟩
  obtain ⟨k, hkk⟩ : ∃ k, k = t.kind := ⟨_, rfl⟩
  have hv : t.val A m c = .agg #[.int .i64 k, .int .i64 n, .slice A m c] := by rw [hn, hkk]
  rw [hv] at CL CK ⊢
  rw [← hn, ← hkk] at HT
  rw [← hkk] at hk hb1
  rw [← hn] at hi2 hb1
  rw [show textN names k n (textL names t.kids) = [105, 102, 40] ++ kidS (textL names t.kids) 0 0 ++ [44, 32] ++ kidS (textL names t.kids) 1 0 ++ [44, 32] ++ kidS (textL names t.kids) 2 0 ++ [41] by unfold textN; rw [hk]; simp] at HT
  rw [HT] at hlen
  simp only [List.length_append, List.length_cons, List.length_nil] at hlen
  have hkr0 := kidR_kidS0 names t 0
  have CK0 := Lib.hid (fun W hb => CK 0 false W hb (by decide) (by rw [hkr0]; omega))
  rw [hkr0] at CK0
  obtain ⟨y0, hy0⟩ : ∃ y_, y_ = kidS (textL names t.kids) 0 0 := ⟨_, rfl⟩
  rw [← hy0] at HT CK0 hlen
  have hsz0 := bs_size y0
  have hkr1 := kidR_kidS0 names t 1
  have CK1 := Lib.hid (fun W hb => CK 1 false W hb (by decide) (by rw [hkr1]; omega))
  rw [hkr1] at CK1
  obtain ⟨y1, hy1⟩ : ∃ y_, y_ = kidS (textL names t.kids) 1 0 := ⟨_, rfl⟩
  rw [← hy1] at HT CK1 hlen
  have hsz1 := bs_size y1
  have hkr2 := kidR_kidS0 names t 2
  have CK2 := Lib.hid (fun W hb => CK 2 false W hb (by decide) (by rw [hkr2]; omega))
  rw [hkr2] at CK2
  obtain ⟨y2, hy2⟩ : ∃ y_, y_ = kidS (textL names t.kids) 2 0 := ⟨_, rfl⟩
  rw [← hy2] at HT CK2 hlen
  have hsz2 := bs_size y2
  have hbe : (⟨#[105, 102, 40]⟩ ++ bs y0 ++ ⟨#[44, 32]⟩ ++ bs y1 ++ ⟨#[44, 32]⟩ ++ bs y2 ++ ⟨#[41]⟩ : ByteArray) = bs (textT names t) := bs_eq (by rw [HT]; simp [bs])
  obtain ⟨d0, hd0⟩ : ∃ d, d = bs y0 := ⟨_, rfl⟩
  rw [← hd0] at CK0 hsz0 hbe
  obtain ⟨d1, hd1⟩ : ∃ d, d = bs y1 := ⟨_, rfl⟩
  rw [← hd1] at CK1 hsz1 hbe
  obtain ⟨d2, hd2⟩ : ∃ d, d = bs y2 := ⟨_, rfl⟩
  rw [← hd2] at CK2 hsz2 hbe
  have q1 : (9223372036854775807 < 3 + d0.size) = False := eq_false (by omega)
  have q2 : (9223372036854775807 < 3 + d0.size + 2) = False := eq_false (by omega)
  have q3 : (9223372036854775807 < 3 + d0.size + 2 + d1.size) = False := eq_false (by omega)
  have q4 : (9223372036854775807 < 3 + d0.size + 2 + d1.size + 2) = False := eq_false (by omega)
  have q5 : (9223372036854775807 < 3 + d0.size + 2 + d1.size + 2 + d2.size) = False := eq_false (by omega)
  have q6 : (9223372036854775807 < 3 + d0.size + 2 + d1.size + 2 + d2.size + 1) = False := eq_false (by omega)
  have HBE := Lib.hid hbe
  clear HT hbe CL CK hlen hy0 hy1 hy2 hkr0 hkr1 hkr2 hsz0 hsz1 hsz2 hd0 hd1 hd2
  clear hv hn hkk
  have HB1 := Lib.hid hb1
  have x0 := cell_new w #[.int .i64 k, .int .i64 n, .slice A m c] 24 0 _ rfl
  have x1 := cell_new w #[.int .i64 k, .int .i64 n, .slice A m c] 24 1 _ rfl
  have x2 := cell_new w #[.int .i64 k, .int .i64 n, .slice A m c] 24 2 _ rfl
  obtain ⟨w1, hw1⟩ : ∃ w1, w1 = w.alloc (.cells #[.int .i64 k, .int .i64 n, .slice A m c] 24) := ⟨_, rfl⟩
  obtain ⟨g, hg⟩ : ∃ g, g = w.heap.size := ⟨_, rfl⟩
  have HW1 := Lib.hid hw1
  have HG := Lib.hid hg
  rw [← hw1] at HB1 x0 x1 x2
  rw [← hg] at x0 x1 x2
  clear hw1 hg hb1
  subst hk
  go_enter Tryd.func18, Tryd.ntmps18
  go_upto_region 1 with fail
  rw [← HG.out, ← HW1.out]
  go_wp2_with fail
  refine (CK0.out _ HB1.out).mono ?_
  rintro e w2 ⟨rfl, hb2⟩
  have HB2 := Lib.hid (below_then HB1.out hb2)
  have c20 := cell_kept hb2 x0
  have c21 := cell_kept hb2 x1
  have c22 := cell_kept hb2 x2
  clear hb2 x0 x1 x2
  go_wp2_with fail
  refine (CK1.out _ HB2.out).mono ?_
  rintro e w3 ⟨rfl, hb3⟩
  have HB3 := Lib.hid (below_then HB2.out hb3)
  have c30 := cell_kept hb3 c20
  have c31 := cell_kept hb3 c21
  have c32 := cell_kept hb3 c22
  clear hb3 c20 c21 c22
  go_wp2_with fail
  refine (CK2.out _ HB3.out).mono ?_
  rintro e w4 ⟨rfl, hb4⟩
  have HB4 := Lib.hid (below_then HB3.out hb4)
  have c40 := cell_kept hb4 c30
  have c41 := cell_kept hb4 c31
  have c42 := cell_kept hb4 c32
  clear hb4 c30 c31 c32
  go_wp2_with fail
  go_ret
  exact ⟨by rw [← HBE.out]; rfl, HB4.out⟩
set_option maxRecDepth 100000 in
set_option maxHeartbeats 4000000 in
theorem r_text_other (names : List ByteArray) (NA : Option Addr) (nn nc : Nat) (N : Nat) (IH : Hid (RTextAt names NA nn nc N)) (t : Tr) (hN : t.sz ≤ N + 1) (A : Option Addr) (m c : Nat) (w : World) (h : Hid (TrAt w A m c t)) (hS : Hid (Sl w (.slice NA nn nc) nn 1 (strCells names))) (_hlen : (textT names t).length ≤ 1000000000000) (hk : ¬ (1 ≤ t.kind ∧ t.kind ≤ 6)) :
    Calls Tryd.prog 18 #[t.val A m c, .slice NA nn nc] w fun e w' => e = .returned (.string (bs (textT names t))) ∧ Below w.heap.size w w' := by
  have hb1 := (Below.refl w.heap.size w).alloc (Nat.le_refl _) (.cells #[.int .i64 t.kind, .int .i64 t.num, .slice A m c] 24)
  have hT := fun W (hb : Below w.heap.size w W) => Lib.hid (h.out.kept hb)
  have hS2 := fun W (hb : Below w.heap.size w W) => Lib.hid (hS.out.below hb)
  have CL := fun (j : Nat) (s : Int) W (hb : Below w.heap.size w W) (hj : j ≤ 2) => r_loose t A m c j s W (hT W hb) hj
  have CK := fun (j : Nat) (around : Bool) W (hb : Below w.heap.size w W) (hj : j ≤ 2) (hl : (kidR names t j around).length ≤ 1000000000000) => r_kid names NA nn nc N IH t hN A m c j around W (hT W hb) (hS2 W hb) hj hl
  obtain ⟨hi1, hi2⟩ := h.out.nums
  have HT := textT_eq names t
  obtain ⟨n, hn⟩ : ∃ n, n = t.num := ⟨_, rfl⟩
  obtain ⟨k, hkk⟩ : ∃ k, k = t.kind := ⟨_, rfl⟩
  have hv : t.val A m c = .agg #[.int .i64 k, .int .i64 n, .slice A m c] := by rw [hn, hkk]
  rw [hv] at CL CK ⊢
  rw [← hn, ← hkk] at HT
  rw [← hkk] at hk hb1
  rw [← hn] at hi2 hb1
  rw [show textN names k n (textL names t.kids) = [63] by unfold textN; repeat (rw [if_neg (by omega)])] at HT
  have HBE := Lib.hid (show (⟨#[63]⟩ : ByteArray) = bs (textT names t) from bs_eq (by rw [HT]))
  have k1 : (k == 1) = false := by simp; omega
  have k2 : (k == 2) = false := by simp; omega
  have k3 : (k == 3) = false := by simp; omega
  have k4 : (k == 4) = false := by simp; omega
  have k5 : (k == 5) = false := by simp; omega
  have k6 : (k == 6) = false := by simp; omega
  clear HT CL CK
  clear hv hn hkk
  have HB1 := Lib.hid hb1
  have x0 := cell_new w #[.int .i64 k, .int .i64 n, .slice A m c] 24 0 _ rfl
  have x1 := cell_new w #[.int .i64 k, .int .i64 n, .slice A m c] 24 1 _ rfl
  have x2 := cell_new w #[.int .i64 k, .int .i64 n, .slice A m c] 24 2 _ rfl
  obtain ⟨w1, hw1⟩ : ∃ w1, w1 = w.alloc (.cells #[.int .i64 k, .int .i64 n, .slice A m c] 24) := ⟨_, rfl⟩
  obtain ⟨g, hg⟩ : ∃ g, g = w.heap.size := ⟨_, rfl⟩
  have HW1 := Lib.hid hw1
  have HG := Lib.hid hg
  rw [← hw1] at HB1 x0 x1 x2
  rw [← hg] at x0 x1 x2
  clear hw1 hg hb1
  clear hk
  go_enter Tryd.func18, Tryd.ntmps18
  go_upto_region 1 with fail
  rw [← HG.out, ← HW1.out]
  go_wp2_with fail
  go_ret
  exact ⟨by rw [← HBE.out]; rfl, HB1.out⟩
set_option maxRecDepth 100000 in
set_option maxHeartbeats 4000000 in
theorem r_text_number (names : List ByteArray) (NA : Option Addr) (nn nc : Nat) (N : Nat) (IH : Hid (RTextAt names NA nn nc N)) (t : Tr) (hN : t.sz ≤ N + 1) (A : Option Addr) (m c : Nat) (w : World) (h : Hid (TrAt w A m c t)) (hS : Hid (Sl w (.slice NA nn nc) nn 1 (strCells names))) (_hlen : (textT names t).length ≤ 1000000000000) (hk : t.kind = 1) :
    Calls Tryd.prog 18 #[t.val A m c, .slice NA nn nc] w fun e w' => e = .returned (.string (bs (textT names t))) ∧ Below w.heap.size w w' := by
  have hb1 := (Below.refl w.heap.size w).alloc (Nat.le_refl _) (.cells #[.int .i64 t.kind, .int .i64 t.num, .slice A m c] 24)
  have hT := fun W (hb : Below w.heap.size w W) => Lib.hid (h.out.kept hb)
  have hS2 := fun W (hb : Below w.heap.size w W) => Lib.hid (hS.out.below hb)
  have CL := fun (j : Nat) (s : Int) W (hb : Below w.heap.size w W) (hj : j ≤ 2) => r_loose t A m c j s W (hT W hb) hj
  have CK := fun (j : Nat) (around : Bool) W (hb : Below w.heap.size w W) (hj : j ≤ 2) (hl : (kidR names t j around).length ≤ 1000000000000) => r_kid names NA nn nc N IH t hN A m c j around W (hT W hb) (hS2 W hb) hj hl
  obtain ⟨hi1, hi2⟩ := h.out.nums
  have HT := textT_eq names t
  obtain ⟨n, hn⟩ : ∃ n, n = t.num := ⟨_, rfl⟩
  obtain ⟨k, hkk⟩ : ∃ k, k = t.kind := ⟨_, rfl⟩
  have hv : t.val A m c = .agg #[.int .i64 k, .int .i64 n, .slice A m c] := by rw [hn, hkk]
  rw [hv] at CL CK ⊢
  rw [← hn, ← hkk] at HT
  rw [← hkk] at hk hb1
  rw [← hn] at hi2 hb1
  rw [show textN names k n (textL names t.kids) = decP n by unfold textN; rw [hk]; simp] at HT
  have hdl := dec_len hi2
  have CD := r_Decimals n hi2
  rw [show (⟨(Lib.itoa n).toArray⟩ : ByteArray) = bs (Lib.itoa n) from rfl] at CD
  have hsz := bs_size (Lib.itoa n)
  have hbe1 : n < 0 → (⟨#[40]⟩ ++ bs (Lib.itoa n) ++ ⟨#[41]⟩ : ByteArray) = bs (textT names t) := fun hn => bs_eq (by rw [HT]; unfold decP; rw [if_pos hn]; simp [bs])
  have hbe2 : ¬ n < 0 → bs (Lib.itoa n) = bs (textT names t) := fun hn => by rw [HT]; unfold decP; rw [if_neg hn]
  obtain ⟨d, hd⟩ : ∃ d, d = bs (Lib.itoa n) := ⟨_, rfl⟩
  rw [← hd] at CD hsz hbe1 hbe2
  have HE1 := Lib.hid hbe1
  have HE2 := Lib.hid hbe2
  have q1 : (9223372036854775807 < 1 + d.size) = False := eq_false (by omega)
  have q2 : (9223372036854775807 < 1 + d.size + 1) = False := eq_false (by omega)
  clear HT CL CK hsz hbe1 hbe2 hd hdl
  clear hv hn hkk
  have HB1 := Lib.hid hb1
  have x0 := cell_new w #[.int .i64 k, .int .i64 n, .slice A m c] 24 0 _ rfl
  have x1 := cell_new w #[.int .i64 k, .int .i64 n, .slice A m c] 24 1 _ rfl
  have x2 := cell_new w #[.int .i64 k, .int .i64 n, .slice A m c] 24 2 _ rfl
  obtain ⟨w1, hw1⟩ : ∃ w1, w1 = w.alloc (.cells #[.int .i64 k, .int .i64 n, .slice A m c] 24) := ⟨_, rfl⟩
  obtain ⟨g, hg⟩ : ∃ g, g = w.heap.size := ⟨_, rfl⟩
  have HW1 := Lib.hid hw1
  have HG := Lib.hid hg
  rw [← hw1] at HB1 x0 x1 x2
  rw [← hg] at x0 x1 x2
  clear hw1 hg hb1
  subst hk
  by_cases hneg : n < 0
  · have HN := Lib.hid hneg
    go_enter Tryd.func18, Tryd.ntmps18
    go_upto_region 1 with fail
    rw [← HG.out, ← HW1.out]
    go_wp2_with fail
    refine (CD _).mono ?_
    rintro e w2 ⟨rfl, hb2⟩
    have HB2 := Lib.hid (below_then HB1.out hb2)
    have r0 := cell_kept hb2 x0
    have r1 := cell_kept hb2 x1
    have r2 := cell_kept hb2 x2
    clear hb2 x0 x1 x2
    go_wp2_with fail
    go_ret
    exact ⟨by rw [← HE1.out HN.out]; rfl, HB2.out⟩
  · have HN := Lib.hid hneg
    have hd0 : decide (n < 0) = false := decide_eq_false hneg
    clear hneg
    go_enter Tryd.func18, Tryd.ntmps18
    go_upto_region 1 with fail
    rw [← HG.out, ← HW1.out]
    go_wp2_with fail
    refine (CD _).mono ?_
    rintro e w2 ⟨rfl, hb2⟩
    have HB2 := Lib.hid (below_then HB1.out hb2)
    have r0 := cell_kept hb2 x0
    have r1 := cell_kept hb2 x1
    have r2 := cell_kept hb2 x2
    clear hb2 x0 x1 x2
    go_wp2_with fail
    go_ret
    exact ⟨by rw [← HE2.out HN.out]; rfl, HB2.out⟩
set_option maxRecDepth 100000 in
set_option maxHeartbeats 4000000 in
theorem r_text_variable (names : List ByteArray) (NA : Option Addr) (nn nc : Nat) (N : Nat) (IH : Hid (RTextAt names NA nn nc N)) (t : Tr) (hN : t.sz ≤ N + 1) (A : Option Addr) (m c : Nat) (w : World) (h : Hid (TrAt w A m c t)) (hS : Hid (Sl w (.slice NA nn nc) nn 1 (strCells names))) (_hlen : (textT names t).length ≤ 1000000000000) (hk : t.kind = 2) :
    Calls Tryd.prog 18 #[t.val A m c, .slice NA nn nc] w fun e w' => e = .returned (.string (bs (textT names t))) ∧ Below w.heap.size w w' := by
  have hb1 := (Below.refl w.heap.size w).alloc (Nat.le_refl _) (.cells #[.int .i64 t.kind, .int .i64 t.num, .slice A m c] 24)
  have hT := fun W (hb : Below w.heap.size w W) => Lib.hid (h.out.kept hb)
  have hS2 := fun W (hb : Below w.heap.size w W) => Lib.hid (hS.out.below hb)
  have CL := fun (j : Nat) (s : Int) W (hb : Below w.heap.size w W) (hj : j ≤ 2) => r_loose t A m c j s W (hT W hb) hj
  have CK := fun (j : Nat) (around : Bool) W (hb : Below w.heap.size w W) (hj : j ≤ 2) (hl : (kidR names t j around).length ≤ 1000000000000) => r_kid names NA nn nc N IH t hN A m c j around W (hT W hb) (hS2 W hb) hj hl
  obtain ⟨hi1, hi2⟩ := h.out.nums
  have HT := textT_eq names t
  obtain ⟨n, hn⟩ : ∃ n, n = t.num := ⟨_, rfl⟩
  obtain ⟨k, hkk⟩ : ∃ k, k = t.kind := ⟨_, rfl⟩
  have hv : t.val A m c = .agg #[.int .i64 k, .int .i64 n, .slice A m c] := by rw [hn, hkk]
  rw [hv] at CL CK ⊢
  rw [← hn, ← hkk] at HT
  rw [← hkk] at hk hb1
  rw [← hn] at hi2 hb1
  rw [show textN names k n (textL names t.kids) = nameS names n by unfold textN; rw [hk]; simp] at HT
  have hnl : names.length = nn := by have := hS.out.len; rw [strCells, List.length_map] at this; omega
  have HTT := Lib.hid HT
  clear HT
  clear CL CK
  clear hv hn hkk
  have HB1 := Lib.hid hb1
  have x0 := cell_new w #[.int .i64 k, .int .i64 n, .slice A m c] 24 0 _ rfl
  have x1 := cell_new w #[.int .i64 k, .int .i64 n, .slice A m c] 24 1 _ rfl
  have x2 := cell_new w #[.int .i64 k, .int .i64 n, .slice A m c] 24 2 _ rfl
  obtain ⟨w1, hw1⟩ : ∃ w1, w1 = w.alloc (.cells #[.int .i64 k, .int .i64 n, .slice A m c] 24) := ⟨_, rfl⟩
  obtain ⟨g, hg⟩ : ∃ g, g = w.heap.size := ⟨_, rfl⟩
  have HW1 := Lib.hid hw1
  have HG := Lib.hid hg
  rw [← hw1] at HB1 x0 x1 x2
  rw [← hg] at x0 x1 x2
  clear hw1 hg hb1
  subst hk
  by_cases n0 : n < 0
  · have HBE := Lib.hid (show (⟨#[63]⟩ : ByteArray) = bs (textT names t) from bs_eq (by rw [HTT.out]; unfold nameS; rw [if_neg (by omega)]))
    clear hnl
    go_enter Tryd.func18, Tryd.ntmps18
    go_upto_region 1 with fail
    rw [← HG.out, ← HW1.out]
    go_wp2_with fail
    go_ret
    exact ⟨by rw [← HBE.out]; rfl, HB1.out⟩
  · have HN0 := Lib.hid (decide_eq_false n0)
    by_cases n1 : (nn : Int) ≤ n
    · have HBE := Lib.hid (show (⟨#[63]⟩ : ByteArray) = bs (textT names t) from bs_eq (by rw [HTT.out]; unfold nameS; rw [if_neg (by rw [hnl]; omega)]))
      have d0 := HN0.out
      clear hnl n0
      go_enter Tryd.func18, Tryd.ntmps18
      go_upto_region 1 with fail
      rw [← HG.out, ← HW1.out]
      go_wp2_with fail
      go_ret
      exact ⟨by rw [← HBE.out]; rfl, HB1.out⟩
    · obtain ⟨j, hj⟩ : ∃ j : Nat, n = (j : Int) := ⟨n.toNat, by omega⟩
      subst hj
      have hjn : j < nn := by omega
      obtain ⟨nb, noff, rfl, hcell⟩ := (hS.out.below HB1.out).at_ (by omega)
      have hcj := hcell j (.string (names.getD j ⟨#[]⟩)) (by simp [strCells, List.getElem?_map, List.getD, List.getElem?_eq_getElem (show j < names.length by omega)])
      have HBE := Lib.hid (show names.getD j ⟨#[]⟩ = bs (textT names t) from bs_eq (by rw [HTT.out]; unfold nameS; rw [if_pos (by rw [hnl]; omega)]; simp))
      obtain ⟨d, hd⟩ : ∃ d, d = names.getD j ⟨#[]⟩ := ⟨_, rfl⟩
      rw [← hd] at hcj HBE
      have d1 : (j : Int) < (nn : Int) := by omega
      have d00 : (0 : Int) ≤ (j : Int) := by omega
      have d0 := HN0.out
      clear hnl hcell hd n0 n1
      go_enter Tryd.func18, Tryd.ntmps18
      go_upto_region 1 with fail
      rw [← HG.out, ← HW1.out]
      go_wp2_with fail
      go_ret
      exact ⟨by rw [← HBE.out]; rfl, HB1.out⟩
theorem r_Text_at (names : List ByteArray) (NA : Option Addr) (nn nc : Nat) : ∀ N, RTextAt names NA nn nc N
  | 0 => fun t hN _ _ _ _ _ _ _ => by have := t.sz_pos; omega
  | N + 1 => by
    have IH := Lib.hid (r_Text_at names NA nn nc N)
    intro t hN A m c w h hS hlen
    by_cases h1 : t.kind = 1
    · exact r_text_number names NA nn nc N IH t hN A m c w h hS hlen h1
    by_cases h2 : t.kind = 2
    · exact r_text_variable names NA nn nc N IH t hN A m c w h hS hlen h2
    by_cases h3 : t.kind = 3
    · exact r_text_minus names NA nn nc N IH t hN A m c w h hS hlen h3
    by_cases h4 : t.kind = 4
    · exact r_text_not names NA nn nc N IH t hN A m c w h hS hlen h4
    by_cases h5 : t.kind = 5
    · exact r_text_two names NA nn nc N IH t hN A m c w h hS hlen h5
    by_cases h6 : t.kind = 6
    · exact r_text_if names NA nn nc N IH t hN A m c w h hS hlen h6
    exact r_text_other names NA nn nc N IH t hN A m c w h hS hlen (by omega)
end Go.Proofs.YtmfdiclbenmfbaaDoor
