/- Joined: The listed tables: powers of ten, blanks. -/
import Derived.Test.YtkpjhjoopdbkaaaGreatDoorRows
import Derived.Test.YtkpjhjoopdbkaaaGreatDoorG27
import Derived.Test.YtkpjhjoopdbkaaaGreatDoorG04
import Derived.Lib.LaidTab
import Derived.LaidSub
import Derived.MakeChecks
namespace Go.Proofs.YtkpjhjoopdbkaaaGreatDoor
open Go.RowKit
theorem tab_below {W W' : World} (ht : TabT W) (hb : Below W.heap.size W W') : TabT W' := by
  have hg : Tryz.prog.globalNamed "internal/strconv.uint64pow10" = some 2 := by kernel_rfl
  refine var?_below hb hg ?_ ht
  unfold TabT Lib.TabIs World.var? at ht
  rw [hg, Option.bind_some] at ht
  rcases Nat.lt_or_ge 2 W.heap.size with h | h
  · exact h
  · rw [Array.getElem?_eq_none h] at ht
    cases ht
theorem tab_type : (Tryz.prog.globals[2]?).map (·.type) = some 223 := by kernel_rfl
theorem tab_data : (Rows.laid_internal_strconv_uint64pow10 : DataW Unit) = Lib.tabData .u64 Lib.pow10Tab := by kernel_rfl
theorem tab_of {W : World} {l : List (String × DataW Unit)} (h1 : (l.all fun x => x.2.handleName?.isNone) = true) (h2 : (l.filter fun x => x.1 == "internal/strconv.uint64pow10") = [("internal/strconv.uint64pow10", Rows.laid_internal_strconv_uint64pow10)]) (hL : laidMetH Tryz.prog l W) : TabT W := by
  rw [MakeChecks.laidMetH_plain _ _ _ h1] at hL
  have h3 := laidMet.filter (fun x => x.1 == "internal/strconv.uint64pow10") hL
  rw [h2, tab_data] at h3
  exact Lib.tabIs_of_head (by kernel_rfl) tab_type Tryz.underlying223 Tryz.underlying203 (by kernel_rfl) (by kernel_rfl) h3
theorem tab8_type : (Tryz.prog.globals[1]?).map (·.type) = some 208 := by kernel_rfl
theorem tab8_data : (Rows.laid_strings_asciiSpace : DataW Unit) = Lib.tabData .u8 Lib.asciiSpaceTab := by kernel_rfl
theorem tab8_of {W : World} {l : List (String × DataW Unit)} (h1 : (l.all fun x => x.2.handleName?.isNone) = true) (h2 : (l.filter fun x => x.1 == "strings.asciiSpace") = [("strings.asciiSpace", Rows.laid_strings_asciiSpace)]) (hL : laidMetH Tryz.prog l W) : TabOk W := by
  rw [MakeChecks.laidMetH_plain _ _ _ h1] at hL
  have h3 := laidMet.filter (fun x => x.1 == "strings.asciiSpace") hL
  rw [h2, tab8_data] at h3
  exact Lib.tabIs_of_head (by kernel_rfl) tab8_type Tryz.underlying208 Tryz.underlying5 (by kernel_rfl) (by kernel_rfl) h3
end Go.Proofs.YtkpjhjoopdbkaaaGreatDoor
