/- Journals: how many there are; All of none. -/
import Derived.Test.YtlgfmphjgijilaaJoI
namespace Go.Proofs.Ytlgfmphjgijilaa
open Go.RowKit Go.Vx
set_option linter.unusedVariables false
set_option linter.unusedSimpArgs false

theorem jb_len {w : World} {p : Nat} {Q : List JV} {R : List Nat} (h : BAt w p Q R) (hn : Q.length ≤ 1000) : Calls Try.prog 8 #[.pointer (some ⟨p, 0, none⟩)] w fun e w' => e = .returned (.int .i64 Q.length) ∧ Chg [] w w' := by
  obtain ⟨A, c, Ft, c0, -, hf, -, -, -, -⟩ := h.head
  clear h hf
  go_enter Try.func8, Try.ntmps8
  go_wp2_with fail
  go_ret
  exact ⟨rfl, Chg.refl _ _⟩
end Go.Proofs.Ytlgfmphjgijilaa
