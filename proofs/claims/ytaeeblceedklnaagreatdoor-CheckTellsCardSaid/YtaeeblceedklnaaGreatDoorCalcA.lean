/- Contracts of the functions of package calc and of its reference. -/
import Derived.Test.YtaeeblceedklnaaGreatDoorRows
import Derived.Test.YtaeeblceedklnaaGreatDoorCalcP
import Derived.WalkKit
import Derived.WalkSpells
import Derived.WalkLawsBesides
import Derived.Deep.QuietTactic
import Derived.BigQuiet
namespace Go.Proofs.YtaeeblceedklnaaGreatDoor
open Go.RowKit

set_option maxHeartbeats 400000 in
theorem calc_Known (op : Int) (w : World) :
    Calls Tryz.prog 133 #[.int .i64 op] w fun e w' => e = .returned (.bool (knownB op)) ∧ w = w' := by
  go_enter Tryz.func133, Tryz.ntmps133
  go_wp2
  all_goals
    go_ret
    exact ⟨ret1b (by simp [knownB]; omega), rfl⟩
set_option maxHeartbeats 400000 in
theorem ref01_Known (op : Int) (w : World) :
    Calls Tryz.prog 144 #[.int .i64 op] w fun e w' => e = .returned (.bool (knownB op)) ∧ w = w' := by
  go_enter Tryz.func144, Tryz.ntmps144
  go_wp2
  all_goals
    go_ret
    exact ⟨ret1b (by simp [knownB]; omega), rfl⟩
end Go.Proofs.YtaeeblceedklnaaGreatDoor
