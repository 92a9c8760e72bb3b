/- TermTells. -/
import Derived.Test.YtpiaijnjglhggaaDoorTmD
namespace Go.Proofs.YtpiaijnjglhggaaDoor
open Go.RowKit Go.Vx
set_option linter.unusedVariables false
set_option linter.unusedSimpArgs false

theorem r1_valid (p : Int) (w : World) : Calls Tryd.prog 9 #[.int .i64 p] w fun e w' => e = .returned (.bool (okM p)) ∧ w = w' := by
  have h1 : 0 ≤ p → Hid (decide (p ≤ 1199) = okM p) := fun h => Lib.hid (by unfold okM; simp [h])
  have h2 : p < 0 → Hid (false = okM p) := fun h => Lib.hid (by unfold okM; simp; omega)
  go_enter Tryd.func9, Tryd.ntmps9
  go_wp2
  · go_ret
    exact ⟨ret_bool (h1 (by omega)).out, rfl⟩
  · go_ret
    exact ⟨ret_bool (h2 (by omega)).out, rfl⟩
theorem tm_valid_two {w : World} {p : Int} {t : TypeId} {B : Nat} (hB : w.heap.size = B) :
    Calls Tryd.prog 11 #[.slice (some ⟨B, 0, none⟩) 2 2] (w.alloc (.cells #[.int .i64 0, .int .i64 p] t)) fun e w' => e = .returned (.bool (okM p)) ∧ Chg [] w w' :=
  (tm_valid (l := [0, p]) (Src.lit hB rfl) (by omega)).mono fun e w' h => ⟨by rw [h.1]; simp [okM], ((Chg.refl [] w).alloc _).trans' h.2⟩
theorem tm_valid_none {w : World} : Calls Tryd.prog 11 #[.slice none 0 0] w fun e w' => e = .returned (.bool true) ∧ Chg [] w w' :=
  (tm_valid (l := []) ⟨rfl, fun h => absurd h (by omega)⟩ (by omega)).mono fun e w' h => ⟨by rw [h.1]; rfl, h.2⟩
/-- What stands of the first half. -/
def Half1 (y m a b : Int) : Prop :=
  (decide (2000 ≤ y) = true ∧ decide (y ≤ 2099) = true ∧ decide (1 ≤ m) = true ∧ decide (m ≤ 12) = true ∧ a = 12 * (y - 2000) + m - 1 ∧ b = 0 ∧ 2000 ≤ y ∧ y ≤ 2099 ∧ 1 ≤ m ∧ m ≤ 12) ∨
  (decide (2000 ≤ y) = false ∧ a = 0 ∧ b = 1) ∨ (decide (2000 ≤ y) = true ∧ decide (y ≤ 2099) = false ∧ a = 0 ∧ b = 1) ∨
  (decide (2000 ≤ y) = true ∧ decide (y ≤ 2099) = true ∧ decide (1 ≤ m) = false ∧ a = 0 ∧ b = 1) ∨
  (decide (2000 ≤ y) = true ∧ decide (y ≤ 2099) = true ∧ decide (1 ≤ m) = true ∧ decide (m ≤ 12) = false ∧ a = 0 ∧ b = 1)
theorem half1 (y m : Int) : Half1 y m (ofC y m).1 (ofC y m).2 := by
  unfold Half1 ofC
  by_cases h1 : 2000 ≤ y <;> by_cases h2 : y ≤ 2099 <;> by_cases h3 : 1 ≤ m <;> by_cases h4 : m ≤ 12 <;> simp [h1, h2, h3, h4]
/-- What stands of the second half. -/
def Half2 (p n a b : Int) : Prop :=
  (okM p = false ∧ yearC p = 0 ∧ monthC p = 0 ∧ a = 0 ∧ b = 1) ∨
  (okM p = true ∧ yearC p = 2000 + p / 12 ∧ monthC p = p % 12 + 1 ∧ 0 ≤ p ∧ p ≤ 1199 ∧
    ((decide (-p ≤ n) = false ∧ a = 0 ∧ b = 1) ∨ (decide (-p ≤ n) = true ∧ decide (n ≤ 1199 - p) = false ∧ a = 0 ∧ b = 1) ∨ (decide (-p ≤ n) = true ∧ decide (n ≤ 1199 - p) = true ∧ a = p + n ∧ b = 0 ∧ 0 ≤ p + n ∧ p + n ≤ 1199)))
theorem half2 (p n : Int) : Half2 p n (onC p n).1 (onC p n).2 := by
  unfold Half2 onC
  cases hp : okM p with
  | false => simp [yearC, monthC, hp]
  | true =>
    obtain ⟨h0, h1⟩ := okM_of hp
    by_cases h2 : -p ≤ n <;> by_cases h3 : n ≤ 1199 - p <;> simp [yearC, monthC, hp, h0, h1, h2, h3] <;> omega
set_option maxRecDepth 8000 in
set_option maxHeartbeats 4000000 in
theorem termTells_walk {w : World} (ht : Tab w) (y m p n : Int) : Calls Tryd.prog 3 #[.int .i64 y, .int .i64 m, .int .i64 p, .int .i64 n] w fun e w' => e = .returned (.bool true) ∧ Chg [] w w' := by
  have ha := tm_alive ht
  have ho := tm_of y m
  have h1 := half1 y m
  generalize (ofC y m).1 = a at *
  generalize (ofC y m).2 = b at *
  have hr := r1_valid p
  have hs := tm_shift p n
  have h2 := half2 p n
  generalize (onC p n).1 = c at *
  generalize (onC p n).2 = d at *
  have hv : ∀ w : World, Calls Tryd.prog 11 #[.slice (some ⟨w.heap.size, 0, none⟩) 1 1] (w.alloc (.cells #[.int .i64 p] 3)) fun e w' => e = .returned (.bool (okM p)) ∧ Chg [] w w' := fun w => tm_valid_one rfl
  have hv2 : ∀ w : World, Calls Tryd.prog 11 #[.slice (some ⟨w.heap.size, 0, none⟩) 2 2] (w.alloc (.cells #[.int .i64 0, .int .i64 p] 3)) fun e w' => e = .returned (.bool (okM p)) ∧ Chg [] w w' := fun w => tm_valid_two rfl
  have hye := tm_year p
  have hmo := tm_month p
  unfold Half1 at h1
  unfold Half2 at h2
  generalize yearC p = Y at *
  generalize monthC p = M at *
  generalize okM p = ok at *
  rcases h1 with ⟨x1, x2, x3, x4, rfl, rfl, y1, y2, y3, y4⟩ | ⟨x1, rfl, rfl⟩ | ⟨x1, x2, rfl, rfl⟩ | ⟨x1, x2, x3, rfl, rfl⟩ | ⟨x1, x2, x3, x4, rfl, rfl⟩
  all_goals rcases h2 with ⟨rfl, rfl, rfl, rfl, rfl⟩ | ⟨rfl, rfl, rfl, r0, r1, ⟨z1, rfl, rfl⟩ | ⟨z1, z2, rfl, rfl⟩ | ⟨z1, z2, rfl, rfl, z3, z4⟩⟩
  all_goals
    go_enter Tryd.func3, Tryd.ntmps3
    go_wp2_with fail
    refine ha.mono ?_
    rintro e w1 ⟨rfl, hc1⟩
    dsimp only
    go_wp2_with fail
    refine (ho _).mono ?_
    rintro e w2 ⟨rfl, rfl⟩
    dsimp only
    go_wp2_with fail
    refine (hr _).mono ?_
    rintro e w2 ⟨rfl, rfl⟩
    dsimp only
    go_wp2_with fail
    refine (hs _).mono ?_
    rintro e w2 ⟨rfl, rfl⟩
    dsimp only
    go_wp2_with fail
    refine (hv _).mono ?_
    rintro e w2 ⟨rfl, hc2⟩
    dsimp only
    go_wp2_with fail
    refine (hye _).mono ?_
    rintro e w3 ⟨rfl, hc3⟩
    dsimp only
    go_wp2_with fail
    refine (hmo _).mono ?_
    rintro e w4 ⟨rfl, hc4⟩
    dsimp only
    go_wp2_with fail
    refine tm_valid_none.mono ?_
    rintro e w5 ⟨rfl, hc5⟩
    dsimp only
    go_wp2_with fail
    refine (hv2 _).mono ?_
    rintro e w6 ⟨rfl, hc6⟩
    dsimp only
    go_wp2_with fail
    go_ret
    exact ⟨by trivial, ((((hc1.trans' hc2).trans' hc3).trans' hc4).trans' hc5).trans' hc6⟩
end Go.Proofs.YtpiaijnjglhggaaDoor
