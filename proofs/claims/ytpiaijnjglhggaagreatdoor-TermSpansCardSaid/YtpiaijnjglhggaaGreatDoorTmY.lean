/- TermSpans: from the row's laid tables to the one that is read. -/
import Derived.Test.YtpiaijnjglhggaaGreatDoorRows
import Derived.Test.YtpiaijnjglhggaaGreatDoorTmX
import Derived.MakeChecks
import Derived.Stop.LaidErr
namespace Go.Proofs.YtpiaijnjglhggaaGreatDoor
open Go.RowKit Go.Vx
theorem tab_of3 {w : World} {x y : String × DataW Unit} (hx : x.2.handleName?.isNone = true) (hy : y.2.handleName?.isNone = true)
    (h : laidMetH Tryz.prog [x, y, ("internal/strconv.uint64pow10", Rows.laid_internal_strconv_uint64pow10)] w) : Tab w := by
  rw [MakeChecks.laidMetH_plain _ _ _ (by simp [hx, hy]; rfl)] at h
  have h2 : laidMet Tryz.prog (("internal/strconv.uint64pow10", Lib.tabData .u64 Lib.pow10Tab) :: []) w := h.tail.tail
  exact Lib.tabIs_of_head (g := 0) (t := 148) (e := 135) (n := 20) (by kernel_rfl) (by kernel_rfl) (by kernel_rfl) (by kernel_rfl) (by kernel_rfl) (by kernel_rfl) h2
theorem termSpans_laid {w : World} (h : laidMetH Tryz.prog Rows.termSpansRow.laid w) : Tab w := tab_of3 rfl rfl h
end Go.Proofs.YtpiaijnjglhggaaGreatDoor
