/- Term: Valid, Year, Month. -/
import Derived.Test.YtpiaijnjglhggaaGreatDoorTmA
import Derived.Deep.QuietTactic
namespace Go.Proofs.YtpiaijnjglhggaaGreatDoor
open Go.RowKit Go.Vx
set_option linter.unusedVariables false
set_option linter.unusedSimpArgs false

set_option maxRecDepth 8000 in
set_option maxHeartbeats 1000000 in
theorem tm_valid {w : World} {A : Option Addr} {n c : Nat} {l : List Int} (h1 : Src w 1 A n (l.map (Value.int .i64))) (hn : n ≤ 1000000) :
    Calls Tryz.prog 13 #[.slice A n c] w fun e w' => e = .returned (.bool (l.all okM)) ∧ Chg [] w w' := by
  have hl : l.length = n := by have := h1.1; simpa using this
  replace hl := Lib.hid hl
  have hbad : ∀ k, ∀ hk : k < l.length, okM l[k] = false → Hid (false = l.all okM) := fun k hk hb => Lib.hid (by
    symm
    rw [List.all_eq_false]
    exact ⟨l[k], List.getElem_mem hk, by simp [hb]⟩)
  have hgood : (∀ k, ∀ hk : k < l.length, okM l[k] = true) → Hid (true = l.all okM) := fun h => Lib.hid (by
    symm
    rw [List.all_eq_true]
    intro x hx
    obtain ⟨k, hk, rfl⟩ := List.getElem_of_mem hx
    exact h k hk)
  generalize l.all okM = R at *
  go_enter Tryz.func13, Tryz.ntmps13
  go_wp2_with fail
  go_loopw [7] (fun iv wr => ∃ k : Nat, k ≤ n ∧ iv = .int .i64 k ∧ (∀ j, j < k → ∀ hj : j < l.length, okM l[j] = true) ∧ Chg [] w wr) (fun iv _ => n - (intOf iv).toNat)
  case atStart => exact ⟨0, by omega, rfl, fun j hj => absurd hj (by omega), Chg.refl _ _⟩
  case round =>
    obtain ⟨k, hk, rfl, hg, hc⟩ := hrel
    by_cases hlt : k < n
    · obtain ⟨a, rfl, c1⟩ := (h1.chg hc (by simp)).2 (by omega)
      have hkl : k < l.length := by rw [hl.out]; exact hlt
      have d1 := c1 k (.int .i64 l[k]) (by simp [hkl])
      clear c1
      have hb := hbad k hkl
      have hnext : okM l[k] = true → Hid (∀ j, j < k + 1 → ∀ hj : j < l.length, okM l[j] = true) := fun h => Lib.hid (fun j hj hjl => by
        rcases Nat.lt_or_ge j k with h2 | h2
        · exact hg j h2 hjl
        · obtain rfl : j = k := by omega
          exact h)
      have hv := tm_valid1 l[k]
      clear hbad hgood hg
      generalize hx : l[k] = x at d1 hb hnext hv
      cases hok : okM x with
      | true =>
        rw [hok] at hv
        have hnx := hnext hok
        clear hnext hb hx
        go_wp2_with (go_at_call 58; refine (hv _).mono ?_; rintro e w' ⟨rfl, rfl⟩)
        go_roundw
        case measure => simp [intOf]; omega
        case rel => exact ⟨k + 1, by omega, by go_num, hnx.out, hc⟩
      | false =>
        rw [hok] at hv
        have hnx := hb hok
        clear hnext hb hx
        go_wp2_with (go_at_call 58; refine (hv _).mono ?_; rintro e w' ⟨rfl, rfl⟩)
        go_ret
        exact ⟨ret_bool hnx.out, hc⟩
    · obtain rfl : k = n := by omega
      have hgd := hgood (fun j hj => hg j (by rw [← hl.out]; exact hj) hj)
      go_wp2_with fail
      go_ret
      exact ⟨ret_bool hgd.out, hc⟩
/-- The call's own list of one month. -/
theorem tm_valid_one {w : World} {p : Int} {t : TypeId} {B : Nat} (hB : w.heap.size = B) :
    Calls Tryz.prog 13 #[.slice (some ⟨B, 0, none⟩) 1 1] (w.alloc (.cells #[.int .i64 p] t)) fun e w' => e = .returned (.bool (okM p)) ∧ Chg [] w w' :=
  (tm_valid (l := [p]) (Src.one1 hB) (by omega)).mono fun e w' h => ⟨by rw [h.1]; simp, ((Chg.refl [] w).alloc _).trans' h.2⟩
def yearC (p : Int) : Int := if okM p then 2000 + p / 12 else 0
def monthC (p : Int) : Int := if okM p then p % 12 + 1 else 0
theorem tm_year (p : Int) (w : World) : Calls Tryz.prog 11 #[.int .i64 p] w fun e w' => e = .returned (.int .i64 (yearC p)) ∧ Chg [] w w' := by
  cases hp : okM p with
  | false =>
    have hfin : Hid (yearC p = 0) := Lib.hid (by simp [yearC, hp])
    have hv : ∀ w : World, Calls Tryz.prog 13 #[.slice (some ⟨w.heap.size, 0, none⟩) 1 1] (w.alloc (.cells #[.int .i64 p] 3)) fun e w' => e = .returned (.bool false) ∧ Chg [] w w' := fun w => hp ▸ tm_valid_one rfl
    clear hp
    go_enter Tryz.func11, Tryz.ntmps11
    go_wp2_with (go_at_call 13; refine (hv _).mono ?_; rintro e w1 ⟨rfl, hc⟩)
    go_ret
    exact ⟨by rw [hfin.out]; rfl, hc⟩
  | true =>
    obtain ⟨p0, p1⟩ := okM_of hp
    have hfin : Hid (yearC p = 2000 + p / 12) := Lib.hid (by simp [yearC, hp])
    have hv : ∀ w : World, Calls Tryz.prog 13 #[.slice (some ⟨w.heap.size, 0, none⟩) 1 1] (w.alloc (.cells #[.int .i64 p] 3)) fun e w' => e = .returned (.bool true) ∧ Chg [] w w' := fun w => hp ▸ tm_valid_one rfl
    clear hp
    have r0 : 0 ≤ p / 12 := by omega
    have r1 : p / 12 ≤ 99 := by omega
    go_enter Tryz.func11, Tryz.ntmps11
    go_wp2_with (go_at_call 13; refine (hv _).mono ?_; rintro e w1 ⟨rfl, hc⟩)
    go_ret
    exact ⟨by rw [hfin.out]; rfl, hc⟩
theorem tm_month (p : Int) (w : World) : Calls Tryz.prog 12 #[.int .i64 p] w fun e w' => e = .returned (.int .i64 (monthC p)) ∧ Chg [] w w' := by
  cases hp : okM p with
  | false =>
    have hfin : Hid (monthC p = 0) := Lib.hid (by simp [monthC, hp])
    have hv : ∀ w : World, Calls Tryz.prog 13 #[.slice (some ⟨w.heap.size, 0, none⟩) 1 1] (w.alloc (.cells #[.int .i64 p] 3)) fun e w' => e = .returned (.bool false) ∧ Chg [] w w' := fun w => hp ▸ tm_valid_one rfl
    clear hp
    go_enter Tryz.func12, Tryz.ntmps12
    go_wp2_with (go_at_call 13; refine (hv _).mono ?_; rintro e w1 ⟨rfl, hc⟩)
    go_ret
    exact ⟨by rw [hfin.out]; rfl, hc⟩
  | true =>
    obtain ⟨p0, p1⟩ := okM_of hp
    have hfin : Hid (monthC p = p % 12 + 1) := Lib.hid (by simp [monthC, hp])
    have hv : ∀ w : World, Calls Tryz.prog 13 #[.slice (some ⟨w.heap.size, 0, none⟩) 1 1] (w.alloc (.cells #[.int .i64 p] 3)) fun e w' => e = .returned (.bool true) ∧ Chg [] w w' := fun w => hp ▸ tm_valid_one rfl
    clear hp
    have r0 : 0 ≤ p % 12 := by omega
    have r1 : p % 12 ≤ 11 := by omega
    go_enter Tryz.func12, Tryz.ntmps12
    go_wp2_with (go_at_call 13; refine (hv _).mono ?_; rintro e w1 ⟨rfl, hc⟩)
    go_ret
    exact ⟨by rw [hfin.out]; rfl, hc⟩
end Go.Proofs.YtpiaijnjglhggaaGreatDoor
