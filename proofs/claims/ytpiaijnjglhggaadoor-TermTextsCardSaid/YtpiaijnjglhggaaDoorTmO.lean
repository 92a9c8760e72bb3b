/- The reference's month in letters: Month. -/
import Derived.Test.YtpiaijnjglhggaaDoorTmN
namespace Go.Proofs.YtpiaijnjglhggaaDoor
open Go.RowKit Go.Vx
set_option linter.unusedVariables false
set_option linter.unusedSimpArgs false

set_option maxRecDepth 8000 in
set_option maxHeartbeats 4000000 in
theorem r1_month (p : Int) (w : World) : Calls Tryd.prog 17 #[.int .i64 p] w fun e w' => e = .returned (.string (textC p)) ∧ Chg [] w w' := by
  have hv := r1_valid p
  cases hp : okM p with
  | false =>
    have hfin : Hid (textC p = ⟨#[]⟩) := Lib.hid (by simp [textC, hp])
    rw [hp] at hv
    clear hp
    go_enter Tryd.func17, Tryd.ntmps17
    go_wp2_with fail
    refine (hv _).mono ?_
    rintro e w1 ⟨rfl, rfl⟩
    dsimp only
    go_wp2_with fail
    go_ret
    exact ⟨by rw [hfin.out]; rfl, Chg.refl _ _⟩
  | true =>
    obtain ⟨p0, p1⟩ := okM_of hp
    rw [hp] at hv
    have hm : monthC p = p % 12 + 1 := by unfold monthC; rw [if_pos hp]
    have hy : yearC p = 2000 + p / 12 := by unfold yearC; rw [if_pos hp]
    have hfin : textC p = ((numC (2000 + p / 12) ++ ⟨#[45]⟩) ++ (if p % 12 + 1 < 10 then ⟨#[48]⟩ else ⟨#[]⟩)) ++ numC (p % 12 + 1) := by simp [textC, hp, hm, hy]
    have hdm : ∀ w, Calls Tryd.prog 24 #[.int .i64 (p % 12 + 1)] w fun e w' => e = .returned (.string (numC (p % 12 + 1))) ∧ Chg [] w w' := fun w => by
      have := r1_digits (p % 12 + 1).toNat (by omega) w
      rwa [show ((p % 12 + 1).toNat : Int) = p % 12 + 1 by omega] at this
    have hdy : ∀ w, Calls Tryd.prog 24 #[.int .i64 (2000 + p / 12)] w fun e w' => e = .returned (.string (numC (2000 + p / 12))) ∧ Chg [] w w' := fun w => by
      have := r1_digits (2000 + p / 12).toNat (by omega) w
      rwa [show ((2000 + p / 12).toNat : Int) = 2000 + p / 12 by omega] at this
    have hys : (numC (2000 + p / 12)).size = 4 := size_num4 _ (by omega) (by omega)
    have hsz : (p % 12 + 1 < 10 ∧ (numC (p % 12 + 1)).size = 1) ∨ (¬ p % 12 + 1 < 10 ∧ (numC (p % 12 + 1)).size = 2) := by
      by_cases h : p % 12 + 1 < 10
      · exact .inl ⟨h, size_num1 _ (by omega) h⟩
      · exact .inr ⟨h, size_num2 _ (by omega) (by omega)⟩
    clear hp hm hy
    rcases hsz with ⟨hlt, hsz⟩ | ⟨hlt, hsz⟩
    · rw [if_pos hlt] at hfin
      generalize textC p = R at *
      generalize numC (2000 + p / 12) = Y at *
      generalize numC (p % 12 + 1) = M at *
      clear hlt
      replace hfin := Lib.hid (show (Y ++ ⟨#[45]⟩) ++ (⟨#[48]⟩ ++ M) = R by rw [hfin, ByteArray.append_assoc, ByteArray.append_assoc, ByteArray.append_assoc])
      go_enter Tryd.func17, Tryd.ntmps17
      go_wp2_with fail
      refine (hv _).mono ?_
      rintro e w1 ⟨rfl, rfl⟩
      dsimp only
      go_wp2_with fail
      refine (hdm _).mono ?_
      rintro e w1 ⟨rfl, hc1⟩
      dsimp only
      go_wp2_with fail
      refine (hdy _).mono ?_
      rintro e w2 ⟨rfl, hc2⟩
      dsimp only
      go_wp2_with fail
      go_ret
      exact ⟨by rw [← hfin.out]; rfl, hc1.trans' hc2⟩
    · rw [if_neg hlt] at hfin
      generalize textC p = R at *
      generalize numC (2000 + p / 12) = Y at *
      generalize numC (p % 12 + 1) = M at *
      clear hlt
      replace hfin := Lib.hid (show (Y ++ ⟨#[45]⟩) ++ M = R by rw [hfin, show (⟨#[]⟩ : ByteArray) = ByteArray.empty from rfl, ByteArray.append_empty])
      go_enter Tryd.func17, Tryd.ntmps17
      go_wp2_with fail
      refine (hv _).mono ?_
      rintro e w1 ⟨rfl, rfl⟩
      dsimp only
      go_wp2_with fail
      refine (hdm _).mono ?_
      rintro e w1 ⟨rfl, hc1⟩
      dsimp only
      go_wp2_with fail
      refine (hdy _).mono ?_
      rintro e w2 ⟨rfl, hc2⟩
      dsimp only
      go_wp2_with fail
      go_ret
      exact ⟨by rw [← hfin.out]; rfl, hc1.trans' hc2⟩
end Go.Proofs.YtpiaijnjglhggaaDoor
