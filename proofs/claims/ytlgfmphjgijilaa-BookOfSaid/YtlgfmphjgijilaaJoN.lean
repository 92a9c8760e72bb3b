/- Journals: Post, one above all others. -/
import Derived.Test.YtlgfmphjgijilaaJoM
namespace Go.Proofs.Ytlgfmphjgijilaa
open Go.RowKit Go.Vx
set_option linter.unusedVariables false
set_option linter.unusedSimpArgs false

def postE (Q : List JV) (j : Jn) : Int := if checkE j ≠ 0 then checkE j else if foundB Q j.id then 7 else if takenB Q j then 8 else if 200 ≤ Q.length then 13 else 0
theorem checkE_id {j : Jn} (h : checkE j = 0) : 1 ≤ j.id ∧ j.id ≤ 999999 := by
  unfold checkE at h
  cases hf : frontB j with
  | false => rw [hf] at h; simp at h
  | true => unfold frontB at hf; simp at hf; exact ⟨hf.1.1.1.1.1.1, hf.1.1.1.1.1.2⟩
end Go.Proofs.Ytlgfmphjgijilaa
