/- Charts: kinds; put. -/
import Derived.Test.YtfcedgglehedjaaChA
namespace Go.Proofs.Ytfcedgglehedjaa
open Go.RowKit Go.Vx Go.Maps
set_option linter.unusedVariables false
set_option linter.unusedSimpArgs false

def knownB (k : Int) : Bool := decide (1 ≤ k) && decide (k ≤ 5)
def debitB (k : Int) : Bool := k == 1 || k == 5
theorem ret_bool {a b : Bool} (h : a = b) : Ending.returned (Value.bool a) = .returned (.bool b) := by rw [h]
theorem kd_known (k : Int) (w : World) : Calls Try.prog 25 #[.int .i64 k] w fun e w' => e = .returned (.bool (knownB k)) ∧ w = w' := by
  have h1 : 1 ≤ k → Hid (decide (k ≤ 5) = knownB k) := fun h => Lib.hid (by unfold knownB; simp [h])
  have h2 : k < 1 → Hid (false = knownB k) := fun h => Lib.hid (by unfold knownB; simp; omega)
  go_enter Try.func25, Try.ntmps25
  go_wp2
  · go_ret
    exact ⟨ret_bool (h1 (by omega)).out, rfl⟩
  · go_ret
    exact ⟨ret_bool (h2 (by omega)).out, rfl⟩
theorem kd_debit (k : Int) (w : World) : Calls Try.prog 17 #[.int .i64 k] w fun e w' => e = .returned (.bool (debitB k)) ∧ w = w' := by
  go_enter Try.func17, Try.ntmps17
  go_wp2
  all_goals
    go_ret
    exact ⟨by first | rfl | (unfold debitB; simp [*]), rfl⟩
theorem ch_known (k : Int) (w : World) : Calls Try.prog 16 #[.func (.func 25) #[] #[], .int .i64 k] w fun e w' => e = .returned (.bool (knownB k)) ∧ w = w' := by
  have hk := kd_known k
  go_enter Try.func16, Try.ntmps16
  go_wp2_with (go_at_call 25; refine (hk _).mono ?_; rintro e w' ⟨rfl, rfl⟩)
  go_ret
  exact ⟨rfl, rfl⟩
theorem ch_askd (k : Int) (w : World) : Calls Try.prog 16 #[.func (.func 17) #[] #[], .int .i64 k] w fun e w' => e = .returned (.bool (debitB k)) ∧ w = w' := by
  have hk := kd_debit k
  go_enter Try.func16, Try.ntmps16
  go_wp2_with (go_at_call 17; refine (hk _).mono ?_; rintro e w' ⟨rfl, rfl⟩)
  go_ret
  exact ⟨rfl, rfl⟩
theorem ch_debit (k : Int) (w : World) : Calls Try.prog 7 #[.int .i64 k] w fun e w' => e = .returned (.bool (debitB k)) ∧ w = w' := by
  have hk := ch_askd k
  go_enter Try.func7, Try.ntmps7
  go_wp2_with (go_at_call 16; refine (hk _).mono ?_; rintro e w' ⟨rfl, rfl⟩)
  go_ret
  exact ⟨rfl, rfl⟩
def rowB (c k : Int) : Bool := decide (1 ≤ c) && decide (c ≤ 9999) && knownB k
theorem ch_put_bad {a : Acc} (h : rowB a.code a.kind = false) (p : Nat) (w : World) :
    Calls Try.prog 20 #[.pointer (some ⟨p, 0, none⟩), accV a] w fun e w' => e = .returned (.int .i64 1) ∧ Chg [] w w' := by
  obtain ⟨c, k, r⟩ := a
  have hk := ch_known k
  have hz := (Chg.refl [] w).alloc (.cells #[.int .i64 c, .int .i64 k, .bool r] 28)
  have hb := Blk.new w 28 #[.int .i64 c, .int .i64 k, .bool r]
  have c0 := hb.cell 0
  have c1 := hb.cell 1
  simp at c0 c1
  clear hb
  unfold accV
  dsimp only at h ⊢
  unfold rowB at h
  rcases Int.lt_or_le c 1 with h1 | h1
  · go_enter Try.func20, Try.ntmps20
    go_wp2_with fail
    go_ret
    exact ⟨rfl, hz⟩
  · rcases Int.lt_or_le 9999 c with h2 | h2
    · go_enter Try.func20, Try.ntmps20
      go_wp2_with fail
      go_ret
      exact ⟨rfl, hz⟩
    · have h3 : knownB k = false := by simpa [h1, h2] using h
      rw [h3] at hk
      clear h h3
      go_enter Try.func20, Try.ntmps20
      go_wp2_with (go_at_call 16; refine (hk _).mono ?_; rintro e w' ⟨rfl, rfl⟩)
      go_ret
      exact ⟨rfl, hz⟩
end Go.Proofs.Ytfcedgglehedjaa
