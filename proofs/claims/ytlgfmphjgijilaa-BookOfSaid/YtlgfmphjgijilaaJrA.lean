/- Journals: the reference's Check. -/
import Derived.Test.YtlgfmphjgijilaaJoZ
namespace Go.Proofs.Ytlgfmphjgijilaa
open Go.RowKit Go.Vx
set_option linter.unusedVariables false
set_option linter.unusedSimpArgs false

theorem r1_valid (p : Int) (w : World) : Calls Try.prog 51 #[.int .i64 p] w fun e w' => e = .returned (.bool (perB p)) ∧ w = w' := by
  have h1 : 0 ≤ p → Hid (decide (p ≤ 1199) = perB p) := fun h => Lib.hid (by unfold perB; simp [h])
  have h2 : p < 0 → Hid (false = perB p) := fun h => Lib.hid (by unfold perB; simp; omega)
  go_enter Try.func51, Try.ntmps51
  go_wp2
  · go_ret
    exact ⟨ret_bool (h1 (by omega)).out, rfl⟩
  · go_ret
    exact ⟨ret_bool (h2 (by omega)).out, rfl⟩
theorem r1_refByte (c : UInt8) (w : World) : Calls Try.prog 52 #[.int .u8 (c.toNat : Nat)] w fun e w' => e = .returned (.bool (refc c)) ∧ w = w' := by
  obtain ⟨n, hn⟩ : ∃ n, c.toNat = n := ⟨_, rfl⟩
  have hr : Hid (refc c = ((decide (65 ≤ n) && decide (n ≤ 90)) || (decide (48 ≤ n) && decide (n ≤ 57)))) := Lib.hid (by unfold refc; rw [hn])
  rw [hn, hr.out]
  clear hr hn
  by_cases h1 : 65 ≤ n
  · by_cases h2 : n ≤ 90
    · have b1 : decide ((65 : Int) ≤ n) = true := by simp; omega
      have b2 : decide ((n : Int) ≤ 90) = true := by simp; omega
      have hR : Hid (((decide (65 ≤ n) && decide (n ≤ 90)) || (decide (48 ≤ n) && decide (n ≤ 57))) = true) := Lib.hid (by simp [h1, h2])
      rw [hR.out]
      clear h1 h2
      go_enter Try.func52, Try.ntmps52
      go_wp2_with fail
      go_ret
      exact ⟨rfl, rfl⟩
    · have b1 : decide ((65 : Int) ≤ n) = true := by simp; omega
      have b2 : decide ((n : Int) ≤ 90) = false := by simp; omega
      have b3 : decide ((48 : Int) ≤ n) = true := by simp; omega
      have b4 : decide ((n : Int) ≤ 57) = false := by simp; omega
      have hR : Hid (((decide (65 ≤ n) && decide (n ≤ 90)) || (decide (48 ≤ n) && decide (n ≤ 57))) = false) := Lib.hid (by simp; omega)
      rw [hR.out]
      clear h1 h2
      go_enter Try.func52, Try.ntmps52
      go_wp2_with fail
      go_ret
      exact ⟨rfl, rfl⟩
  · have b1 : decide ((65 : Int) ≤ n) = false := by simp; omega
    by_cases h3 : 48 ≤ n
    · have b3 : decide ((48 : Int) ≤ n) = true := by simp; omega
      have hR : Hid (((decide (65 ≤ n) && decide (n ≤ 90)) || (decide (48 ≤ n) && decide (n ≤ 57))) = decide ((n : Int) ≤ 57)) := Lib.hid (by simp [h1, h3]; omega)
      rw [hR.out]
      clear h1 h3
      go_enter Try.func52, Try.ntmps52
      go_wp2_with fail
      go_ret
      exact ⟨rfl, rfl⟩
    · have b3 : decide ((48 : Int) ≤ n) = false := by simp; omega
      have hR : Hid (((decide (65 ≤ n) && decide (n ≤ 90)) || (decide (48 ≤ n) && decide (n ≤ 57))) = false) := Lib.hid (by simp; omega)
      rw [hR.out]
      clear h1 h3
      go_enter Try.func52, Try.ntmps52
      go_wp2_with fail
      go_ret
      exact ⟨rfl, rfl⟩
theorem r1_fits (a : Int) (w : World) : Calls Try.prog 53 #[.int .i64 a] w fun e w' => e = .returned (.bool (fitM a)) ∧ w = w' := by
  by_cases h1 : -1000000000000000 ≤ a
  · have b1 : decide ((-1000000000000000 : Int) ≤ a) = true := by simp; omega
    have hR : Hid (fitM a = decide (a ≤ 1000000000000000)) := Lib.hid (by unfold fitM; rw [Bool.eq_iff_iff]; simp; omega)
    rw [hR.out]
    clear h1
    go_enter Try.func53, Try.ntmps53
    go_wp2_with fail
    go_ret
    exact ⟨rfl, rfl⟩
  · have b1 : decide ((-1000000000000000 : Int) ≤ a) = false := by simp; omega
    have hR : Hid (fitM a = false) := Lib.hid (by unfold fitM; simp; omega)
    rw [hR.out]
    clear h1
    go_enter Try.func53, Try.ntmps53
    go_wp2_with fail
    go_ret
    exact ⟨rfl, rfl⟩
end Go.Proofs.Ytlgfmphjgijilaa
