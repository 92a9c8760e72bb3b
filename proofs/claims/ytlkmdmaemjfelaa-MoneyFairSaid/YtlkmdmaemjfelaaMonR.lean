/- MoneyFair, of every list. -/
import Derived.Test.YtlkmdmaemjfelaaMonQ
namespace Go.Proofs.Ytlkmdmaemjfelaa
open Go.RowKit Go.Vx
set_option linter.unusedVariables false

set_option maxRecDepth 8000 in
theorem moneyFair_walk (w : World) (a : Int) (wa : (Lit.int .i64 a).wf = true) (A : Option Addr) (n c : Nat) (l : List Int) (x : l.length = n ∧ n ≤ c ∧ c ≤ maxLen ∧ Src w 1 A n (l.map (Value.int .i64)) ∧ ∀ x ∈ l, (Lit.int .i64 x).wf = true) (y : n * 8 ≤ 140737488351232) :
    Calls Try.prog 8 #[.int .i64 a, .slice A n c] w fun e w' => e = .returned (.bool true) ∧ Chg [] w w' := by
  obtain ⟨h1, h2, h3, h4, h5⟩ := x
  by_cases h : n ≤ 20
  · exact moneyFair_in h4 h
  · have b1 : decide (20 < (n : Int)) = true := by simp; omega
    go_enter Try.func8, Try.ntmps8
    go_wp2_with (go_at_call 10; refine (m_alive _).mono ?_; rintro e w0 ⟨rfl, hc0⟩)
    go_ret
    exact ⟨by trivial, hc0⟩
end Go.Proofs.Ytlkmdmaemjfelaa
