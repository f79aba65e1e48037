/- The small net: its colour. -/
import Derived.Test.YtajcleobmgjhoaaGreatDoorMarkJ
namespace Go.Proofs.YtajcleobmgjhoaaGreatDoor
open Go.RowKit Go.Lib
def sN : ByteArray := ⟨#[110]⟩
set_option maxRecDepth 100000 in
set_option maxHeartbeats 1000000 in
theorem col_letter (w : World) : Calls Tryz.prog 90 #[.int .u8 110] w fun e w' => e = .returned (.bool true) ∧ w' = w := by
  go_enter Tryz.func90, Tryz.ntmps90
  go_wp2
  go_ret
  exact ⟨rfl, rfl⟩
set_option maxRecDepth 100000 in
set_option maxHeartbeats 1000000 in
theorem col_Name (w : World) : Calls Tryz.prog 78 #[.string ⟨#[110]⟩] w fun e w' => e = .returned (.bool true) ∧ w' = w := by
  go_enter Tryz.func78, Tryz.ntmps78
  go_wp2_with (go_at_call 90; refine (col_letter _).mono ?_; rintro e w' ⟨rfl, rfl⟩)
  refine wp_loop_rounds 2 ?_
  rw [rounds_succ]
  go_wp2_with (go_at_call 90; refine (col_letter _).mono ?_; rintro e w' ⟨rfl, rfl⟩)
  rw [rounds_succ]
  go_wp2
  go_ret
  exact ⟨rfl, rfl⟩
set_option maxRecDepth 100000 in
set_option maxHeartbeats 1000000 in
theorem col_span (w : World) : Calls Tryz.prog 88 #[.int .i64 0, .int .i64 3] w fun e w' => e = .returned (.int .i64 4) ∧ w' = w := by
  go_enter Tryz.func88, Tryz.ntmps88
  go_wp2
  go_ret
  exact ⟨rfl, rfl⟩
abbrev colV : Value := .agg #[.string ⟨#[110]⟩, .int .i64 1, .int .i64 0, .int .i64 3, .slice none 0 0, .int .i64 0, .int .i64 0]
set_option maxRecDepth 100000 in
set_option maxHeartbeats 1000000 in
theorem col_size (v : Value) (w : World) : Calls Tryz.prog 77 #[colV, v] w fun e w' => e = .returned (.int .i64 4) ∧ Below w.heap.size w w' := by
  have HB0 := Lib.hid ((Below.refl w.heap.size w).alloc (Nat.le_refl _) (.cells #[.string ⟨#[110]⟩, .int .i64 1, .int .i64 0, .int .i64 3, .slice none 0 0, .int .i64 0, .int .i64 0] 63))
  go_enter Tryz.func77, Tryz.ntmps77
  go_wp2_with (go_at_call 88; refine (col_span _).mono ?_; rintro e w' ⟨rfl, rfl⟩)
  go_ret
  exact ⟨rfl, HB0.out⟩
end Go.Proofs.YtajcleobmgjhoaaGreatDoor
