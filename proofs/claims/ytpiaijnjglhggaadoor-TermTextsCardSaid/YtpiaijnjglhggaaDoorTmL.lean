/- Term: from the row's laid tables to the one that is read. -/
import Derived.Test.YtpiaijnjglhggaaDoorRows
import Derived.Test.YtpiaijnjglhggaaDoorTmE
import Derived.MakeChecks
import Derived.Stop.LaidErr
namespace Go.Proofs.YtpiaijnjglhggaaDoor
open Go.RowKit Go.Vx
theorem tab_of3 {w : World} {x y : String × DataW Unit} (hx : x.2.handleName?.isNone = true) (hy : y.2.handleName?.isNone = true)
    (h : laidMetH Tryd.prog [x, y, ("internal/strconv.uint64pow10", Rows.laid_internal_strconv_uint64pow10)] w) : Tab w := by
  rw [MakeChecks.laidMetH_plain _ _ _ (by simp [hx, hy]; rfl)] at h
  have h2 : laidMet Tryd.prog (("internal/strconv.uint64pow10", Lib.tabData .u64 Lib.pow10Tab) :: []) w := h.tail.tail
  exact Lib.tabIs_of_head (g := 3) (t := 88) (e := 57) (n := 20) (by kernel_rfl) (by kernel_rfl) (by kernel_rfl) (by kernel_rfl) (by kernel_rfl) (by kernel_rfl) h2
theorem termTells_laid {w : World} (h : laidMetH Tryd.prog Rows.termTellsRow.laid w) : Tab w := tab_of3 rfl rfl h
theorem termSteps_laid {w : World} (h : laidMetH Tryd.prog Rows.termStepsRow.laid w) : Tab w := tab_of3 rfl rfl h
theorem termYears_laid {w : World} (h : laidMetH Tryd.prog Rows.termYearsRow.laid w) : Tab w := tab_of3 rfl rfl h
theorem termTells_walkL {w : World} (ht : Tab w) (y : Int) (_ : (Lit.int .i64 y).wf = true) (m : Int) (_ : (Lit.int .i64 m).wf = true) (p : Int) (_ : (Lit.int .i64 p).wf = true) (n : Int) (_ : (Lit.int .i64 n).wf = true) :
    Calls Tryd.prog 3 #[.int .i64 y, .int .i64 m, .int .i64 p, .int .i64 n] w fun e w' => e = .returned (.bool true) ∧ Chg [] w w' := termTells_walk ht y m p n
end Go.Proofs.YtpiaijnjglhggaaDoor
