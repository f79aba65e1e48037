/- The table of powers of ten. -/
import Derived.Test.YtmfdiclbenmfbaaDoorExprN
import Derived.Lib.LaidTab
import Derived.LaidSub
import Derived.MakeChecks
namespace Go.Proofs.YtmfdiclbenmfbaaDoor
open Go.RowKit
theorem tab_below {W W' : World} (ht : TabT W) (hb : Below W.heap.size W W') : TabT W' := by
  have hg : Tryd.prog.globalNamed "internal/strconv.uint64pow10" = some 0 := by kernel_rfl
  refine var?_below hb hg ?_ ht
  unfold TabT Lib.TabIs World.var? at ht
  rw [hg, Option.bind_some] at ht
  rcases Nat.lt_or_ge 0 W.heap.size with h | h
  · exact h
  · rw [Array.getElem?_eq_none h] at ht
    cases ht
theorem tab_type : (Tryd.prog.globals[0]?).map (·.type) = some 121 := by kernel_rfl
theorem tab_data : (Rows.laid_internal_strconv_uint64pow10 : DataW Unit) = Lib.tabData .u64 Lib.pow10Tab := by kernel_rfl
theorem tab_of {W : World} {l : List (String × DataW Unit)} (h1 : (l.all fun x => x.2.handleName?.isNone) = true) (h2 : (l.filter fun x => x.1 == "internal/strconv.uint64pow10") = [("internal/strconv.uint64pow10", Rows.laid_internal_strconv_uint64pow10)]) (hL : laidMetH Tryd.prog l W) : TabT W := by
  rw [MakeChecks.laidMetH_plain _ _ _ h1] at hL
  have h3 := laidMet.filter (fun x => x.1 == "internal/strconv.uint64pow10") hL
  rw [h2, tab_data] at h3
  exact Lib.tabIs_of_head (by kernel_rfl) tab_type Tryd.underlying121 Tryd.underlying97 (by kernel_rfl) (by kernel_rfl) h3
end Go.Proofs.YtmfdiclbenmfbaaDoor
