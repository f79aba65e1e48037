/- Contracts of package mark: numbers as bytes. -/
import Derived.Test.YtajcleobmgjhoaaGreatDoorMarkD
import Derived.Laws.ShiftsVar
import Derived.Lib.OwnKind
namespace Go.Proofs.YtajcleobmgjhoaaGreatDoor
open Go.RowKit Go.Lib
/-- Bytes as cells. -/
def u8Cells (l : List Int) : List Value := l.map (Value.int .u8)
theorem u8_one (l : List Int) : ∀ u ∈ u8Cells l, u.oneCell' = true := by
  intro u hu
  obtain ⟨x, _, rfl⟩ := List.mem_map.1 hu
  rfl
theorem u8Cells_app (l m : List Int) : u8Cells (l ++ m) = u8Cells l ++ u8Cells m := by simp [u8Cells]
theorem u8s_ty : SlTy Tryz.prog 28 5 1 1 := SlTy.mk (z := .int .u8 0) (by kernel_rfl) (by kernel_rfl) rfl (by decide)
/-- The k-th byte of a number, from the right. -/
def byt (n : Int) (k : Nat) : Int := (n / 2 ^ (8 * k)) % 256
/-- The first j of a number's s bytes. -/
def beT (s : Nat) (n : Int) (j : Nat) : List Int := (List.range j).map fun i => byt n (s - 1 - i)
def be (s : Nat) (n : Int) : List Int := beT s n s
theorem beT_succ (s : Nat) (n : Int) (j : Nat) : beT s n (j + 1) = beT s n j ++ [byt n (s - 1 - j)] := by simp [beT, List.range_succ]
theorem beT_len (s : Nat) (n : Int) (j : Nat) : (beT s n j).length = j := by simp [beT]
def beL (s : Nat) (l : List Int) : List Int := l.flatMap (be s)
theorem beL_len (s : Nat) : ∀ l : List Int, (beL s l).length = l.length * s
  | [] => by simp [beL]
  | x :: r => by
    have := beL_len s r
    unfold beL at this ⊢
    rw [List.flatMap_cons, List.length_append, this, be, beT_len, List.length_cons, Nat.add_mul]
    omega
theorem beL_snoc (s : Nat) (l : List Int) (x : Int) : beL s (l ++ [x]) = beL s l ++ be s x := by simp [beL]
def PutP (base s : Nat) (b ls : List Int) (w : World) (e : Ending) (w' : World) : Prop :=
  ∃ A c j, e = .returned (.slice A j c) ∧ j = b.length + ls.length * s ∧ w'.ownsRow base 5 1 (.slice A j c) j (u8Cells (b ++ beL s ls)) ∧ Below base w w' ∧ w.heap.size ≤ w'.heap.size
theorem kinds_ne {w : World} {b1 b2 s1 s2 n1 n2 : Nat} {e1 e2 : TypeId} {v1 v2 : Value} {x1 x2 : List Value} (h1 : w.ownsRow b1 e1 s1 v1 n1 x1) (h2 : w.ownsRow b2 e2 s2 v2 n2 x2) (he : e1 ≠ e2) : v1.ownBlock = none ∨ v1.ownBlock ≠ v2.ownBlock := by
  rcases h : v1.ownBlock with _ | g
  · exact .inl rfl
  · refine .inr fun h3 => ?_
    obtain ⟨c1, f1, k1⟩ := ownsRow_kind h1 g h
    obtain ⟨c2, f2, k2⟩ := ownsRow_kind h2 g h3.symm
    rw [k1] at k2
    injection k2 with k2
    injection k2 with _ k2 _
    exact he k2
theorem byt_0 (x : Int) : byt x 0 = x % 256 := by unfold byt; simp
theorem byt_1 (x : Int) : byt x 1 = (x / 256) % 256 := rfl
theorem byt_2 (x : Int) : byt x 2 = (x / 65536) % 256 := rfl
theorem byt_3 (x : Int) : byt x 3 = (x / 16777216) % 256 := rfl
set_option maxRecDepth 100000 in
set_option maxHeartbeats 4000000 in
theorem mark_put (base : Nat) (A : Option Addr) (n c : Nat) (b : List Int) (s : Nat) (A2 : Option Addr) (n2 c2 b2 : Nat) (ls : List Int) (w : World) (hb : Hid (w.ownsRow base 5 1 (.slice A n c) n (u8Cells b))) (hL : Hid (w.ownsRow b2 3 1 (.slice A2 n2 c2) n2 (intCells ls))) (hbase : base ≤ w.heap.size) (hs : s ≤ 4) (hn : n < 100000000) (hn2 : n2 < 100) :
    Calls Tryz.prog 34 #[.slice A n c, .int .i64 (s : Int), .slice A2 n2 c2] w (PutP base s b ls w) := by
  have lL := Lib.hid (show ls.length = n2 by have := hL.out.1; rw [intCells_len] at this; omega)
  have lb := Lib.hid (show n = b.length by have := hb.out.1; unfold u8Cells at this; rw [List.length_map] at this; omega)
  go_enter Tryz.func34, Tryz.ntmps34
  go_wp2
  go_loopw [0, 8, 9, 12] (fun o _ _ v wr => ∃ (k j : Nat) (A' : Option Addr) (c' : Nat), k ≤ n2 ∧ v = .int .i64 (k : Int) ∧ o = .slice A' j c' ∧ j = n + k * s ∧ Hid (wr.ownsRow base 5 1 (.slice A' j c') j (u8Cells (b ++ beL s (ls.take k)))) ∧ Hid (wr.ownsRow b2 3 1 (.slice A2 n2 c2) n2 (intCells ls)) ∧ Hid (Below base w wr) ∧ w.heap.size ≤ wr.heap.size) (fun _ _ _ v _ => n2 - (RowKit.intOf v).toNat)
  case atStart => exact ⟨0, n, A, c, by omega, rfl, rfl, by omega, (by show World.ownsRow _ _ _ _ _ _ _; simpa [beL] using hb.out), hL.out, Below.refl _ _, Nat.le_refl _⟩
  case round =>
    obtain ⟨k, j, A', c', hk, rfl, rfl, hj, ho, hl, hB, hsz⟩ := hrel
    have hks : k * s ≤ 100 * 4 := Nat.mul_le_mul (by omega) hs
    by_cases hlt : k < n2
    · have hSl := Sl.of_own hl.out
      obtain ⟨g, o2, rfl, e1⟩ := hSl.int_at hlt
      obtain ⟨x, hx⟩ : ∃ x, x = ls.getD k 0 := ⟨_, rfl⟩
      rw [← hx] at e1
      have hts := Lib.hid (take_snocI (K := ls) (k := k) (by rw [lL.out]; exact hlt))
      rw [← hx] at hts
      have hlt2 : (k : Int) < (n2 : Int) := by omega
      have hk0 : (0 : Int) ≤ (k : Int) := by omega
      obtain ⟨t, ht⟩ : ∃ t, t = k * s := ⟨_, rfl⟩
      rw [← ht] at hj hks
      have HT := Lib.hid ht
      clear hx hSl ht
      go_wp2
      go_loopw [0, 9] (fun o v wr => ∃ (i j : Nat) (A' : Option Addr) (c' : Nat) (z : Int), i ≤ s ∧ v = .int .i64 z ∧ z = (s : Int) - 1 - (i : Int) ∧ o = .slice A' j c' ∧ j = n + t + i ∧ Hid (wr.ownsRow base 5 1 (.slice A' j c') j (u8Cells (b ++ beL s (ls.take k) ++ beT s x i))) ∧ Hid (wr.ownsRow b2 3 1 (.slice (some ⟨g, o2, none⟩) n2 c2) n2 (intCells ls)) ∧ Hid (Below base w wr) ∧ w.heap.size ≤ wr.heap.size) (fun _ v _ => (RowKit.intOf v + 1).toNat)
      case atStart => exact ⟨0, j, A', c', _, by omega, rfl, by omega, rfl, by omega, (by show World.ownsRow _ _ _ _ _ _ _; simpa [beT] using ho.out), hl.out, hB.out, hsz⟩
      case round =>
        clear hB ho hsz
        obtain ⟨i, j2, A3, c3, z, hi, rfl, hz, rfl, hj2, ho, hl2, hB, hsz⟩ := hrel
        have HJ := Lib.hid hj2
        have hj2b : j2 ≤ 200000000 := by omega
        clear hj2
        by_cases h0 : 0 ≤ z
        · obtain ⟨q, rfl⟩ : ∃ q : Nat, z = (q : Int) := ⟨z.toNat, by omega⟩
          have hi2 : i < s := by omega
          have hq3 : q ≤ 3 := by omega
          have HQ := Lib.hid (show s - 1 - i = q by omega)
          have hst := Lib.hid (beT_succ s x i)
          have hone := Lib.hid (u8_one [byt x q])
          have HZ := Lib.hid hz
          clear hz
          go_wp2_with (at_builtin; refine wpList_append_sl u8s_ty rfl (.tmp 22) (.tmp 28) rfl base rfl (by exact (ho.out.alloc _)) rfl (by exact Sl.new _ _ [Value.int .u8 (byt x q)] 1 1 rfl (by omega)) hone.out (by omega) (by omega) (by simp; omega) ?_; intro v4 w4 hown4 hg4 hat4; obtain ⟨A4, c4, rfl, _, _⟩ := own_form hown4; have HO4 := Lib.hid hown4; have HG4 := Lib.hid hg4; clear hown4 hg4 hat4)
          have hz2 : IntKind.i64.wrap ((q : Int) + -1) = (q : Int) - 1 := by rw [IntWalk.i64_in _ (by omega)]; omega
          go_roundw
          case rel =>
            refine ⟨i + 1, j2 + 1, A4, c4, _, by omega, rfl, by have := HZ.out; omega, rfl, by have := HJ.out; omega, ?_, ?_, ?_, ?_⟩
            · show World.ownsRow _ _ _ _ _ _ _
              rw [hst.out, HQ.out, ← List.append_assoc, u8Cells_app]
              exact HO4.out
            · exact (World.ownsRow.alloc hl2.out _).kept HG4.out (kinds_ne hl2.out ho.out (by decide))
            · exact (hB.out.alloc (Nat.le_trans hbase hsz) _).grown HG4.out (by simp; omega) (fun q hq => (ho.out.lt q hq).1)
            · have := HG4.out.size
              simp at this
              omega
          case measure => simp [RowKit.intOf]
        · have e9 : i = s := by omega
          have hfin := Lib.hid (show b ++ beL s (ls.take k) ++ beT s x i = b ++ beL s (ls.take (k + 1)) by rw [hts.out, beL_snoc, e9, List.append_assoc]; rfl)
          have HE := Lib.hid e9
          clear hz e9
          go_wp2
          go_roundw
          case rel =>
            refine ⟨k + 1, j2, A3, c3, by omega, by go_num, rfl, ?_, ?_, hl2.out, hB.out, hsz⟩
            · have := HT.out
              have := HE.out
              have := HJ.out
              rw [Nat.add_mul]
              omega
            · show World.ownsRow _ _ _ _ _ _ _
              rw [← hfin.out]; exact ho.out
          case measure => simp [RowKit.intOf]; omega
    · go_wp2
      go_ret
      have e1 : ls.take k = ls := List.take_of_length_le (by rw [lL.out]; omega)
      have h1 := ho.out
      rw [e1] at h1
      have e2 : k = n2 := by omega
      exact ⟨A', c', j, rfl, by rw [← lb.out, lL.out, hj, e2], h1, hB.out, hsz⟩
end Go.Proofs.YtajcleobmgjhoaaGreatDoor
