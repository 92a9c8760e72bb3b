/- Parse: the plain law. -/
import Derived.Test.YtpiaijnjglhggaaDoorTmR
namespace Go.Proofs.YtpiaijnjglhggaaDoor
open Go.RowKit Go.Vx
set_option linter.unusedVariables false
set_option linter.unusedSimpArgs false

/-- A month's text parses. -/
theorem parse_text (n : Nat) (hn : n ≤ 1199) (s : ByteArray) (h : textC n = s) :
    Lib.cut s.data.toList [45] = (num4 (2000 + n / 12), num2 (n % 12 + 1), true) ∧ Lib.atoiAll (num4 (2000 + n / 12)) = .ok ((2000 + n / 12 : Nat) : Int) ∧ Lib.atoiAll (num2 (n % 12 + 1)) = .ok ((n % 12 + 1 : Nat) : Int) ∧
      ofC ((2000 + n / 12 : Nat) : Int) ((n % 12 + 1 : Nat) : Int) = ((n : Int), 0) := by
  have h1 := cut_text ⟨n, by omega⟩
  have h2 := atoi_text ⟨n, by omega⟩
  refine ⟨?_, okIs_of h2.1, okIs_of h2.2, ?_⟩
  · rw [← h, textL_is n hn]
    exact h1
  · unfold ofC
    rw [if_pos (by simp; omega)]
    simp
    omega
/-- A month that Of gives is one that there is. -/
theorem ofC_ok (y m : Int) : ofC y m = (0, 1) ∨ (0 ≤ (ofC y m).1 ∧ (ofC y m).1 ≤ 1199 ∧ (ofC y m).2 = 0) := by
  unfold ofC
  split
  · rename_i h
    simp at h
    right
    simp
    omega
  · left
    rfl
end Go.Proofs.YtpiaijnjglhggaaDoor
