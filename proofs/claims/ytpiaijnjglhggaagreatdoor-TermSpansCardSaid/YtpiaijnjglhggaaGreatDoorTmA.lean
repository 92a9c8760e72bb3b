/- Term: months as whole numbers. -/
import Derived.Test.YtpiaijnjglhggaaGreatDoorProg
import Derived.Test.YtpiaijnjglhggaaGreatDoorRows2
namespace Go.Proofs.YtpiaijnjglhggaaGreatDoor
open Go.RowKit Go.Vx
set_option linter.unusedVariables false
set_option linter.unusedSimpArgs false

/-- A month that there is. -/
def okM (p : Int) : Bool := decide (0 ≤ p) && decide (p ≤ 1199)
theorem ret_bool {a b : Bool} (h : a = b) : Ending.returned (Value.bool a) = .returned (.bool b) := by rw [h]
theorem okM_yes {p : Int} (h0 : 0 ≤ p) (h1 : p ≤ 1199) : okM p = true := by unfold okM; simp [h0, h1]
theorem okM_no {p : Int} (h : p < 0 ∨ 1199 < p) : okM p = false := by unfold okM; simp; omega
theorem okM_of {p : Int} (h : okM p = true) : 0 ≤ p ∧ p ≤ 1199 := by unfold okM at h; simpa using h
theorem tm_valid1 (p : Int) (w : World) : Calls Tryz.prog 58 #[.int .i64 p] w fun e w' => e = .returned (.bool (okM p)) ∧ w = w' := by
  have h1 : 0 ≤ p → Hid (decide (p ≤ 1199) = okM p) := fun h => Lib.hid (by unfold okM; simp [h])
  have h2 : p < 0 → Hid (false = okM p) := fun h => Lib.hid (by unfold okM; simp; omega)
  go_enter Tryz.func58, Tryz.ntmps58
  go_wp2
  · go_ret
    exact ⟨ret_bool (h1 (by omega)).out, rfl⟩
  · go_ret
    exact ⟨ret_bool (h2 (by omega)).out, rfl⟩
/-- So many months on: the month, the error. -/
def onC (p n : Int) : Int × Int := if okM p && (decide (-p ≤ n) && decide (n ≤ 1199 - p)) then (p + n, 0) else (0, 1)
theorem tm_on (p n : Int) (w : World) : Calls Tryz.prog 14 #[.int .i64 p, .int .i64 n] w fun e w' => e = .returned (.tuple #[.int .i64 (onC p n).1, .int .i64 (onC p n).2]) ∧ w = w' := by
  have hv := tm_valid1 p
  cases hp : okM p with
  | false =>
    have hfin : Hid (onC p n = (0, 1)) := Lib.hid (by unfold onC; simp [hp])
    rw [hp] at hv
    clear hp
    go_enter Tryz.func14, Tryz.ntmps14
    go_wp2_with (go_at_call 58; refine (hv _).mono ?_; rintro e w' ⟨rfl, rfl⟩)
    go_ret2
    exact ⟨by rw [hfin.out]; rfl, rfl⟩
  | true =>
    obtain ⟨p0, p1⟩ := okM_of hp
    rw [hp] at hv
    have hb : (decide (n < -p) = true ∧ onC p n = (0, 1)) ∨ (decide (n < -p) = false ∧ decide (1199 - p < n) = true ∧ onC p n = (0, 1)) ∨ (decide (n < -p) = false ∧ decide (1199 - p < n) = false ∧ onC p n = (p + n, 0) ∧ 0 ≤ p + n ∧ p + n ≤ 1199) := by
      unfold onC
      rw [hp]
      by_cases h1 : n < -p
      · left
        simp only [decide_eq_true_eq]
        exact ⟨h1, by rw [if_neg (by simp; omega)]⟩
      · right
        by_cases h2 : 1199 - p < n
        · left
          simp only [decide_eq_true_eq, decide_eq_false_iff_not]
          exact ⟨h1, h2, by rw [if_neg (by simp; omega)]⟩
        · right
          simp only [decide_eq_true_eq, decide_eq_false_iff_not]
          exact ⟨h1, h2, by rw [if_pos (by simp; omega)], by omega, by omega⟩
    clear hp
    rcases hb with ⟨b1, e⟩ | ⟨b1, b2, e⟩ | ⟨b1, b2, e, r0, r1⟩
    · replace e := Lib.hid e
      go_enter Tryz.func14, Tryz.ntmps14
      go_wp2_with (go_at_call 58; refine (hv _).mono ?_; rintro e w' ⟨rfl, rfl⟩)
      go_ret2
      exact ⟨by rw [e.out]; rfl, rfl⟩
    · replace e := Lib.hid e
      go_enter Tryz.func14, Tryz.ntmps14
      go_wp2_with (go_at_call 58; refine (hv _).mono ?_; rintro e w' ⟨rfl, rfl⟩)
      go_ret2
      exact ⟨by rw [e.out]; rfl, rfl⟩
    · replace e := Lib.hid e
      go_enter Tryz.func14, Tryz.ntmps14
      go_wp2_with (go_at_call 58; refine (hv _).mono ?_; rintro e w' ⟨rfl, rfl⟩)
      go_ret2
      exact ⟨by rw [e.out]; rfl, rfl⟩
/-- A month of a year: its number, the error. -/
def ofC (y m : Int) : Int × Int := if decide (1 ≤ m) && (decide (m ≤ 12) && (decide (2000 ≤ y) && decide (y ≤ 2099))) then (12 * (y - 2000) + m - 1, 0) else (0, 1)
theorem tm_of (y m : Int) (w : World) : Calls Tryz.prog 9 #[.int .i64 y, .int .i64 m] w fun e w' => e = .returned (.tuple #[.int .i64 (ofC y m).1, .int .i64 (ofC y m).2]) ∧ w = w' := by
  have hb : (decide (m < 1) = true ∧ ofC y m = (0, 1)) ∨ (decide (m < 1) = false ∧ decide (12 < m) = true ∧ ofC y m = (0, 1)) ∨ (decide (m < 1) = false ∧ decide (12 < m) = false ∧ decide (y < 2000) = true ∧ ofC y m = (0, 1)) ∨ (decide (m < 1) = false ∧ decide (12 < m) = false ∧ decide (y < 2000) = false ∧ decide (2100 ≤ y) = true ∧ ofC y m = (0, 1)) ∨
      (decide (m < 1) = false ∧ decide (12 < m) = false ∧ decide (y < 2000) = false ∧ decide (2100 ≤ y) = false ∧ ofC y m = (12 * (y - 2000) + m - 1, 0) ∧ 1 ≤ m ∧ m ≤ 12 ∧ 2000 ≤ y ∧ y ≤ 2099) := by
    unfold ofC
    simp only [decide_eq_true_eq, decide_eq_false_iff_not]
    by_cases h1 : m < 1
    · exact .inl ⟨h1, by rw [if_neg (by simp; omega)]⟩
    · by_cases h2 : 12 < m
      · exact .inr (.inl ⟨h1, h2, by rw [if_neg (by simp; omega)]⟩)
      · by_cases h3 : y < 2000
        · exact .inr (.inr (.inl ⟨h1, h2, h3, by rw [if_neg (by simp; omega)]⟩))
        · by_cases h4 : 2100 ≤ y
          · exact .inr (.inr (.inr (.inl ⟨h1, h2, h3, h4, by rw [if_neg (by simp; omega)]⟩)))
          · exact .inr (.inr (.inr (.inr ⟨h1, h2, h3, h4, by rw [if_pos (by simp; omega)], by omega, by omega, by omega, by omega⟩)))
  rcases hb with ⟨b1, e⟩ | ⟨b1, b2, e⟩ | ⟨b1, b2, b3, e⟩ | ⟨b1, b2, b3, b4, e⟩ | ⟨b1, b2, b3, b4, e, r0, r1, r2, r3⟩
  all_goals
    replace e := Lib.hid e
    go_enter Tryz.func9, Tryz.ntmps9
    go_wp2
    go_ret2
    exact ⟨by rw [e.out]; rfl, rfl⟩
end Go.Proofs.YtpiaijnjglhggaaGreatDoor
