/- MoneyHalves. -/
import Derived.Test.YtlkmdmaemjfelaaMonF
namespace Go.Proofs.Ytlkmdmaemjfelaa
open Go.RowKit Go.Vx
set_option linter.unusedVariables false
set_option linter.unusedSimpArgs false

theorem half_of {N : Nat} : (N % 2 = 0 → 2 * roundQ N 2 = N) ∧ (N % 2 = 1 → roundQ N 2 % 2 = 0 ∧ (2 * roundQ N 2 = N + 1 ∨ 2 * roundQ N 2 + 1 = N)) := by
  unfold roundQ
  split <;> omega
theorem tmod2 (a : Int) : (a.tmod 2 == 0) = decide (a % 2 = 0) := by
  rcases Int.lt_or_le a 0 with h | h
  · have e : a.tmod 2 = -((-a) % 2) := by rw [← Int.tmod_eq_emod_of_nonneg (by omega), Int.neg_tmod, Int.neg_neg]
    rw [e]
    apply Bool.eq_iff_iff.2
    simp
  · rw [Int.tmod_eq_emod_of_nonneg h]
    apply Bool.eq_iff_iff.2
    simp
set_option maxHeartbeats 1000000 in
set_option maxRecDepth 8000 in
theorem moneyHalves_walk (a : Int) (wa : (Lit.int .i64 a).wf = true) (w : World) :
    Calls Try.prog 5 #[.int .i64 a] w fun e w' => e = .returned (.bool true) ∧ Chg [] w w' := by
  have hfit := fits1 a
  cases ho : okM a with
  | false =>
    rw [ho] at hfit
    go_enter Try.func5, Try.ntmps5
    go_wp2_with (first | (go_at_call 19; refine (hfit _ _ (by exact Src.one1 rfl)).mono ?_; rintro e w' ⟨rfl, rfl⟩) | (go_at_call 10; refine (m_alive _).mono ?_; rintro e w0 ⟨rfl, hc0⟩))
    go_ret
    exact ⟨by trivial, ((Chg.refl _ _).alloc _).trans' hc0⟩
  | true =>
    have hA := okM_iff.1 ho
    have h1 := m_scale a 1 2
    have hk : scaleOk a 1 2 := ⟨ho, by omega, by omega, by omega, by omega⟩
    obtain ⟨p1, p2⟩ := half_of (N := a.natAbs)
    have he : a.natAbs * (1 : Int).toNat = a.natAbs := by simp
    have hd : (2 : Int).toNat = 2 := rfl
    rw [scale_yes hk (by rw [he, hd]; omega), he, hd] at h1
    generalize roundQ a.natAbs 2 = r at *
    obtain ⟨s, hs⟩ : ∃ s : Int, s = if a < 0 then -(r : Int) else r := ⟨_, rfl⟩
    rw [← hs] at h1
    have hsb : -1000000000000000 ≤ s := by subst hs; split <;> omega
    have hsb2 : s ≤ 1000000000000000 := by subst hs; split <;> omega
    rw [ho] at hfit
    have hev : a % 2 = 0 → 2 * s = a := by intro h; subst hs; split <;> omega
    have hod : a % 2 = 1 → s % 2 = 0 ∧ (2 * s = a + 1 ∨ 2 * s = a - 1) := by intro h; subst hs; split <;> omega
    have t1 := tmod2 a
    have t2 := tmod2 s
    clear p1 p2 hk hs he hd
    by_cases h2 : a % 2 = 0
    · have e := hev h2
      rw [decide_eq_true h2] at t1
      clear t2 hev hod h2
      replace e := Lib.hid e
      have e2 : (2 * s == a) = true := by simp; exact e.out
      go_enter Try.func5, Try.ntmps5
      go_wp2_with (first | (go_at_call 19; refine (hfit _ _ (by exact Src.one1 rfl)).mono ?_; rintro e w' ⟨rfl, rfl⟩) | (go_at_call 10; refine (m_alive _).mono ?_; rintro e w0 ⟨rfl, hc0⟩) | (go_at_call 18; refine (h1 _).mono ?_; rintro e w1 ⟨rfl, hc1⟩))
      go_ret
      exact ⟨by trivial, (((Chg.refl _ _).alloc _).trans' hc0).trans' hc1⟩
    · obtain ⟨e1, e2⟩ := hod (by omega)
      rw [decide_eq_false h2] at t1
      rw [decide_eq_true e1] at t2
      clear hev hod h2 e1
      by_cases h3 : 2 * s = a + 1
      · have e3 : (2 * s == a + 1) = true := by simpa using h3
        clear e2 h3
        go_enter Try.func5, Try.ntmps5
        go_wp2_with (first | (go_at_call 19; refine (hfit _ _ (by exact Src.one1 rfl)).mono ?_; rintro e w' ⟨rfl, rfl⟩) | (go_at_call 10; refine (m_alive _).mono ?_; rintro e w0 ⟨rfl, hc0⟩) | (go_at_call 18; refine (h1 _).mono ?_; rintro e w1 ⟨rfl, hc1⟩))
        go_ret
        exact ⟨by trivial, (((Chg.refl _ _).alloc _).trans' hc0).trans' hc1⟩
      · have h4 : 2 * s = a - 1 := by omega
        have e3 : (2 * s == a + 1) = false := by simpa using h3
        have e4 : (2 * s == a - 1) = true := by simpa using h4
        clear e2 h3 h4
        go_enter Try.func5, Try.ntmps5
        go_wp2_with (first | (go_at_call 19; refine (hfit _ _ (by exact Src.one1 rfl)).mono ?_; rintro e w' ⟨rfl, rfl⟩) | (go_at_call 10; refine (m_alive _).mono ?_; rintro e w0 ⟨rfl, hc0⟩) | (go_at_call 18; refine (h1 _).mono ?_; rintro e w1 ⟨rfl, hc1⟩))
        go_ret
        exact ⟨by trivial, (((Chg.refl _ _).alloc _).trans' hc0).trans' hc1⟩
end Go.Proofs.Ytlkmdmaemjfelaa
