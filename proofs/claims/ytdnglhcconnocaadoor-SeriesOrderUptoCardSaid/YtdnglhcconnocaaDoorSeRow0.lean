/- What a call's first world gives the laws of series: the library's table of powers of ten. No condition. -/
import Derived.Test.YtdnglhcconnocaaDoorSeL0
import Derived.Test.YtdnglhcconnocaaDoorGlobOf
import Derived.Test.YtdnglhcconnocaaDoorRows
import Derived.Deep.DeepHandedRow
import Derived.Lay
import Derived.LaidMore
namespace Go.Proofs.YtdnglhcconnocaaDoor
open Go.RowKit Go.ChangeShapes Go.WideShapes

theorem laidOutS : laidOutB Tryd.prog = true := by kernel_rfl
theorem pow_of {W : World} (h : laidMet Tryd.prog Rows.seriesPlaysUptoRow.laid W) : PowG (World.all W) := by
  have h2 : laidMet Tryd.prog (("internal/strconv.uint64pow10", Lib.tabData .u64 Lib.pow10Tab) :: Rows.seriesPlaysUptoRow.laid.drop 3) W := h.tail.tail
  exact tab_all gPow (Lib.tabIs_of_head gPow tPow Tryd.underlying139 Tryd.underlying104 (by kernel_rfl) (by kernel_rfl) h2)
theorem upto_bound {H : Type} {l : List (DataW H)} (hk : Rows.uptoSmall H l = true) : Rows.uptoBulkAll l ≤ 1048576 := of_decide_eq_true hk
end Go.Proofs.YtdnglhcconnocaaDoor
