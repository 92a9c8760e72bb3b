/- Parse: the plain law of the months' texts. -/
import Derived.Test.YtpiaijnjglhggaaDoorTmP
import Derived.Lib.AtoiAll
namespace Go.Proofs.YtpiaijnjglhggaaDoor
open Go.RowKit Go.Vx
set_option linter.unusedVariables false
set_option linter.unusedSimpArgs false

def okIs : Lib.NumEnd Int → Int → Bool
  | .ok v, n => decide (v = n)
  | _, _ => false
theorem okIs_of {x : Lib.NumEnd Int} {n : Int} (h : okIs x n = true) : x = .ok n := by
  cases x <;> simp [okIs] at h
  rw [h]
theorem cut_text : ∀ p : Fin 1200, Lib.cut (textL p.val) [45] = (num4 (2000 + p.val / 12), num2 (p.val % 12 + 1), true) := by decide +kernel
theorem atoi_text : ∀ p : Fin 1200, okIs (Lib.atoiAll (num4 (2000 + p.val / 12))) (2000 + p.val / 12 : Nat) = true ∧ okIs (Lib.atoiAll (num2 (p.val % 12 + 1))) (p.val % 12 + 1 : Nat) = true := by decide +kernel
end Go.Proofs.YtpiaijnjglhggaaDoor
