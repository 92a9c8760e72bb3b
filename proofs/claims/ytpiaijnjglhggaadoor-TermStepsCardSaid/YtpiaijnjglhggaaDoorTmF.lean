/- TermSteps. -/
import Derived.Test.YtpiaijnjglhggaaDoorTmE
import Derived.Test.YtpiaijnjglhggaaDoorTmL
namespace Go.Proofs.YtpiaijnjglhggaaDoor
open Go.RowKit Go.Vx
set_option linter.unusedVariables false
set_option linter.unusedSimpArgs false

/-- What the law asks of the month: the step fails, or it is undone and two steps are one. -/
def Steps (p a b : Int) : Prop :=
  onC p a = (0, 1) ∨ (∃ x, 0 ≤ x ∧ x ≤ 1199 ∧ 0 ≤ p ∧ p ≤ 1199 ∧ onC p a = (x, 0) ∧ onC x (-a) = (p, 0) ∧ onC x b = onC p (a + b))
theorem steps (p a b : Int) : Steps p a b := by
  unfold Steps
  by_cases h : okM p = true ∧ -p ≤ a ∧ a ≤ 1199 - p
  · obtain ⟨h0, h1, h2⟩ := h
    obtain ⟨p0, p1⟩ := okM_of h0
    refine .inr ⟨p + a, by omega, by omega, p0, p1, by simp [onC, h0, h1, h2], ?_, ?_⟩
    · unfold onC
      rw [okM_yes (by omega) (by omega), if_pos (by simp; omega)]
      simp
      omega
    · unfold onC
      rw [okM_yes (show 0 ≤ p + a by omega) (by omega), h0]
      by_cases h3 : -p ≤ a + b ∧ a + b ≤ 1199 - p
      · rw [if_pos (by simp; omega), if_pos (by simp; omega)]
        simp
        omega
      · rw [if_neg (by simp; omega), if_neg (by simp; omega)]
  · left
    unfold onC
    rw [if_neg]
    simp only [Bool.and_eq_true, decide_eq_true_eq]
    exact h
set_option maxRecDepth 8000 in
set_option maxHeartbeats 4000000 in
theorem termSteps_far {w : World} (ht : Tab w) (p a b : Int) (h : (decide (a < -2000) = true) ∨ (decide (a < -2000) = false ∧ decide (2000 < a) = true) ∨ (decide (a < -2000) = false ∧ decide (2000 < a) = false ∧ decide (b < -2000) = true) ∨
    (decide (a < -2000) = false ∧ decide (2000 < a) = false ∧ decide (b < -2000) = false ∧ decide (2000 < b) = true)) :
    Calls Tryd.prog 4 #[.int .i64 p, .int .i64 a, .int .i64 b] w fun e w' => e = .returned (.bool true) ∧ Chg [] w w' := by
  have ha := tm_alive ht
  rcases h with b1 | ⟨b1, b2⟩ | ⟨b1, b2, b3⟩ | ⟨b1, b2, b3, b4⟩
  all_goals
    go_enter Tryd.func4, Tryd.ntmps4
    go_wp2_with fail
    refine ha.mono ?_
    rintro e w1 ⟨rfl, hc1⟩
    dsimp only
    go_wp2_with fail
    go_ret
    exact ⟨by trivial, hc1⟩
set_option maxRecDepth 8000 in
set_option maxHeartbeats 4000000 in
theorem termSteps_near {w : World} (ht : Tab w) (p a b : Int) (b1 : decide (a < -2000) = false) (b2 : decide (2000 < a) = false) (b3 : decide (b < -2000) = false) (b4 : decide (2000 < b) = false) :
    Calls Tryd.prog 4 #[.int .i64 p, .int .i64 a, .int .i64 b] w fun e w' => e = .returned (.bool true) ∧ Chg [] w w' := by
  have ha := tm_alive ht
  have a1 : -2000 ≤ a := by simpa using b1
  have a2 : a ≤ 2000 := by simpa using b2
  have a3 : -2000 ≤ b := by simpa using b3
  have a4 : b ≤ 2000 := by simpa using b4
  have hs := tm_shift p a
  have h := steps p a b
  unfold Steps at h
  rcases h with h | ⟨x, x0, x1, p0, p1, h, h2, h3⟩
  · rw [h] at hs
    clear h
    go_enter Tryd.func4, Tryd.ntmps4
    go_wp2_with fail
    refine ha.mono ?_
    rintro e w1 ⟨rfl, hc1⟩
    dsimp only
    go_wp2_with fail
    refine (hs _).mono ?_
    rintro e w2 ⟨rfl, rfl⟩
    dsimp only
    go_wp2_with fail
    go_ret
    exact ⟨by trivial, hc1⟩
  · rw [h] at hs
    clear h
    have hs2 := tm_shift x (-a)
    rw [h2] at hs2
    clear h2
    have hs3 := tm_shift x b
    rw [h3] at hs3
    clear h3
    have hs4 := tm_shift p (a + b)
    generalize (onC p (a + b)).1 = c at *
    generalize (onC p (a + b)).2 = d at *
    go_enter Tryd.func4, Tryd.ntmps4
    go_wp2_with fail
    refine ha.mono ?_
    rintro e w1 ⟨rfl, hc1⟩
    dsimp only
    go_wp2_with fail
    refine (hs _).mono ?_
    rintro e w2 ⟨rfl, rfl⟩
    dsimp only
    go_wp2_with fail
    refine (hs2 _).mono ?_
    rintro e w2 ⟨rfl, rfl⟩
    dsimp only
    go_wp2_with fail
    refine (hs3 _).mono ?_
    rintro e w2 ⟨rfl, rfl⟩
    dsimp only
    go_wp2_with fail
    refine (hs4 _).mono ?_
    rintro e w2 ⟨rfl, rfl⟩
    dsimp only
    go_wp2_with fail
    go_ret
    exact ⟨by simp, hc1⟩
theorem termSteps_walkL {w : World} (ht : Tab w) (p : Int) (_ : (Lit.int .i64 p).wf = true) (a : Int) (_ : (Lit.int .i64 a).wf = true) (b : Int) (_ : (Lit.int .i64 b).wf = true) :
    Calls Tryd.prog 4 #[.int .i64 p, .int .i64 a, .int .i64 b] w fun e w' => e = .returned (.bool true) ∧ Chg [] w w' := by
  by_cases h : -2000 ≤ a ∧ a ≤ 2000 ∧ -2000 ≤ b ∧ b ≤ 2000
  · exact termSteps_near ht p a b (by simp; omega) (by simp; omega) (by simp; omega) (by simp; omega)
  · refine termSteps_far ht p a b ?_
    simp only [decide_eq_true_eq, decide_eq_false_iff_not]
    omega
end Go.Proofs.YtpiaijnjglhggaaDoor
