/- Term: 'alive'; TermTells. -/
import Derived.Test.YtpiaijnjglhggaaGreatDoorTmC
namespace Go.Proofs.YtpiaijnjglhggaaGreatDoor
open Go.RowKit Go.Vx
set_option linter.unusedVariables false
set_option linter.unusedSimpArgs false

theorem text322 : textC 322 = ⟨#[50, 48, 50, 54, 45, 49, 49]⟩ := by
  have e1 : yearC 322 = ((2026 : Nat) : Int) := by decide
  have e2 : monthC 322 = ((11 : Nat) : Int) := by decide
  unfold textC
  rw [if_pos (by decide), e1, e2, if_neg (by omega)]
  unfold numC Lib.itoa
  rw [if_neg (by omega), if_neg (by omega), Int.toNat_natCast, Int.toNat_natCast]
  simp [Lib.decDigits]
  decide
set_option maxRecDepth 8000 in
set_option maxHeartbeats 1000000 in
theorem tm_alive {w : World} (ht : Tab w) : Calls Tryz.prog 4 #[] w fun e w' => e = .returned (.bool true) ∧ Chg [] w w' := by
  have ho := tm_of 2026 11
  rw [show ofC 2026 11 = (322, 0) by decide] at ho
  have hte : ∀ w, Tab w → Calls Tryz.prog 10 #[.int .i64 322] w fun e w' => e = .returned (.string ⟨#[50, 48, 50, 54, 45, 49, 49]⟩) ∧ Chg [] w w' := fun w h => text322 ▸ tm_text h 322
  have hye := tm_year 322
  rw [show yearC 322 = 2026 by decide] at hye
  have hmo := tm_month 322
  rw [show monthC 322 = 11 by decide] at hmo
  have hv : ∀ w : World, Calls Tryz.prog 13 #[.slice (some ⟨w.heap.size, 0, none⟩) 1 1] (w.alloc (.cells #[.int .i64 322] 3)) fun e w' => e = .returned (.bool true) ∧ Chg [] w w' := fun w => (tm_valid_one (p := 322) rfl).mono fun e w' h => ⟨h.1, h.2⟩
  go_enter Tryz.func4, Tryz.ntmps4
  go_wp2_with fail
  refine (ho _).mono ?_
  rintro e w1 ⟨rfl, rfl⟩
  dsimp only
  go_wp2_with fail
  refine (hte _ ht).mono ?_
  rintro e w1 ⟨rfl, hc1⟩
  dsimp only
  go_wp2_with fail
  refine (hye _).mono ?_
  rintro e w2 ⟨rfl, hc2⟩
  dsimp only
  go_wp2_with fail
  refine (hmo _).mono ?_
  rintro e w3 ⟨rfl, hc3⟩
  dsimp only
  go_wp2_with fail
  refine (hv _).mono ?_
  rintro e w4 ⟨rfl, hc4⟩
  dsimp only
  go_wp2_with fail
  go_ret
  exact ⟨by trivial, ((hc1.trans' hc2).trans' hc3).trans' hc4⟩
end Go.Proofs.YtpiaijnjglhggaaGreatDoor
