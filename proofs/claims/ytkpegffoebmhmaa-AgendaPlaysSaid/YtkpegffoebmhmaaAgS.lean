/- AgendaPlays, whole. -/
import Derived.Test.YtkpegffoebmhmaaAgR
namespace Go.Proofs.Ytkpegffoebmhmaa
open Go.RowKit Go.Vx
set_option linter.unusedVariables false
set_option linter.unusedSimpArgs false

set_option maxRecDepth 100000 in
set_option maxHeartbeats 1000000 in
theorem agendaPlays_walk (w : World) (A : Option Addr) (n c : Nat) (l : List PlayV) (x : l.length = n ∧ n ≤ c ∧ c ≤ maxLen ∧ Src w 3 A n (l.flatMap playCells) ∧ ∀ x ∈ l, PlayOk w x) (y : n * 40 ≤ 140737488351232) :
    Calls Try.prog 4 #[.slice A n c] w fun e w' => e = .returned (.bool true) ∧ Chg [] w w' := by
  obtain ⟨h1, h2, h3, h4, h5⟩ := x
  by_cases h : n ≤ 40
  · exact plays_in8 h4 h1 h h5
  · have hb : decide (40 < (n : Int)) = true := by simp; omega
    clear h
    go_enter Try.func4, Try.ntmps4
    go_wp2_with (go_at_call 6; refine (ag_alive _).mono ?_; rintro e w0 ⟨rfl, hc0⟩)
    go_ret
    exact ⟨by trivial, hc0⟩
end Go.Proofs.Ytkpegffoebmhmaa
