/- The document's answer of layer 09: four. -/
import Derived.Test.YtajcleobmgjhoaaGreatDoorMarkJ
namespace Go.Proofs.YtajcleobmgjhoaaGreatDoor
open Go.RowKit Go.Lib
theorem be4 (x : Int) : be 4 x = [x / 16777216 % 256, x / 65536 % 256, x / 256 % 256, x % 256] := by
  have e : be 4 x = [byt x 3, byt x 2, byt x 1, byt x 0] := by
    unfold be beT
    rw [show List.range 4 = [0, 1, 2, 3] from rfl]
    rfl
  rw [e, byt_0]
  rfl
theorem be2 (x : Int) : be 2 x = [x / 256 % 256, x % 256] := by
  have e : be 2 x = [byt x 1, byt x 0] := by
    unfold be beT
    rw [show List.range 2 = [0, 1] from rfl]
    rfl
  rw [e, byt_0]
  rfl
theorem tdiv_nn {x : Int} (h : 0 ≤ x) (d : Int) : x.tdiv d = x / d := Int.tdiv_eq_ediv_of_nonneg h
set_option maxRecDepth 100000 in
set_option maxHeartbeats 4000000 in
theorem ref_four (base : Nat) (A : Option Addr) (n c : Nat) (b : List Int) (x : Int) (w : World) (hb : Hid (w.ownsRow base 5 1 (.slice A n c) n (u8Cells b))) (hbase : base ≤ w.heap.size) (hx : 0 ≤ x) (hx2 : x ≤ 9223372036854775807) (hn : n < 100000000) :
    Calls Tryz.prog 37 #[.slice A n c, .int .i64 x] w fun e w' => ∃ A' c', e = .returned (.slice A' (n + 4) c') ∧ w'.ownsRow base 5 1 (.slice A' (n + 4) c') (n + 4) (u8Cells (b ++ be 4 x)) ∧ Below base w w' ∧ w.heap.size ≤ w'.heap.size := by
  have t3 := tdiv_nn hx 16777216
  have t2 := tdiv_nn hx 65536
  have t1 := tdiv_nn hx 256
  have hone := Lib.hid (u8_one [x / 16777216 % 256, x / 65536 % 256, x / 256 % 256, x % 256])
  go_enter Tryz.func37, Tryz.ntmps37
  go_wp2_with (at_builtin; refine wpList_append_sl u8s_ty rfl (.tmp 5) (.tmp 17) rfl base rfl (by exact (hb.out.alloc _)) rfl (by exact Sl.new _ _ [Value.int .u8 (x / 16777216 % 256), Value.int .u8 (x / 65536 % 256), Value.int .u8 (x / 256 % 256), Value.int .u8 (x % 256)] 4 1 rfl (by omega)) hone.out (by omega) (by omega) (by simp; omega) ?_; intro v4 w4 hown4 hg4 hat4; obtain ⟨A4, c4, rfl, _, _⟩ := own_form hown4; have HO4 := Lib.hid hown4; have HG4 := Lib.hid hg4; clear hown4 hg4 hat4)
  go_ret
  refine ⟨A4, c4, rfl, ?_, ((Below.refl base w).alloc hbase _).grown HG4.out (by simp; omega) (fun q hq => (hb.out.lt q hq).1), ?_⟩
  · rw [be4, u8Cells_app]
    exact HO4.out
  · have := HG4.out.size
    simp at this
    omega
end Go.Proofs.YtajcleobmgjhoaaGreatDoor
