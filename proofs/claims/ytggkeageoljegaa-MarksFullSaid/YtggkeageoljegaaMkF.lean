/- MarksFull: plain facts of the names that are made. -/
import Derived.Test.YtggkeageoljegaaMkE
namespace Go.Proofs.Ytggkeageoljegaa
open Go.RowKit Go.Vx Go.Maps
set_option linter.unusedVariables false
set_option linter.unusedSimpArgs false

def actuals : List UInt8 := [97, 99, 116, 117, 97, 108, 115]
def nm (i : Nat) : List UInt8 := [98, UInt8.ofNat (97 + i)]
def Lk : Nat → RL
  | 0 => putR [] actuals 1
  | i + 1 => putR (Lk i) (nm (i + 1)) ((i + 1 : Nat) : Int)
theorem lk1 : ∀ i : Fin 11, makeC (Lk i.val) (nm (i.val + 1)) ((i.val + 1 : Nat) : Int) = 0 := by decide +kernel
theorem lk2 : ∀ i : Fin 5, makeC (Lk 11) (nm (i.val + 12)) ((i.val + 12 : Nat) : Int) = 13 := by decide +kernel
theorem lk3 : (Lk 11).length = 12 := by decide +kernel
theorem lk4 : hasR (Lk 11) actuals = true := by decide +kernel
theorem lk5 : hasR (Lk 11) [98, 98] = true := by decide +kernel
theorem lk6 : hasR (delR (Lk 11) [98, 98]) [98, 98] = false := by decide +kernel
theorem lk7 : makeC (delR (Lk 11) [98, 98]) [98, 98] 9 = 0 := by decide +kernel
theorem lk8 : makeC [] actuals 1 = 0 := by decide +kernel
end Go.Proofs.Ytggkeageoljegaa
