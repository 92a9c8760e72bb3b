/- Division of a number of two words: one digit. No program. -/
import Derived.WalkKit
namespace Go.Vx
set_option linter.unusedVariables false

/-- The loop that mends a digit's guess. -/
def mend (yn1 yn0 un : Nat) : Nat → Nat → Nat → Nat
  | 0, q, r => q
  | f + 1, q, r => if 4294967296 ≤ q ∨ 4294967296 * r + un < q * yn0 then (if 4294967296 ≤ r + yn1 then q - 1 else mend yn1 yn0 un f (q - 1) (r + yn1)) else q
/-- A digit: the guess is not too small, and what the loop leaves is just right. -/
theorem mend_ok {yn1 yn0 un u : Nat} (h1 : 0 < yn1) (h0 : yn0 < 4294967296) (hun : un < 4294967296) (hu : u < yn1 * 4294967296 + yn0) :
    ∀ (f q r : Nat), q < f → q * yn1 + r = u → r < 4294967296 → (u * 4294967296 + un) / (yn1 * 4294967296 + yn0) ≤ q → mend yn1 yn0 un f q r = (u * 4294967296 + un) / (yn1 * 4294967296 + yn0) := by
  have hy : 0 < yn1 * 4294967296 + yn0 := by have := Nat.mul_le_mul_right 4294967296 h1; omega
  have hQ : (u * 4294967296 + un) / (yn1 * 4294967296 + yn0) < 4294967296 := by
    rw [Nat.div_lt_iff_lt_mul hy]
    have := Nat.mul_le_mul_right 4294967296 (show u + 1 ≤ yn1 * 4294967296 + yn0 by omega)
    rw [Nat.mul_comm 4294967296]
    omega
  have low : ∀ q r, q * yn1 + r = u → q * yn0 ≤ 4294967296 * r + un → q ≤ (u * 4294967296 + un) / (yn1 * 4294967296 + yn0) := by
    intro q r hq hle
    rw [Nat.le_div_iff_mul_le hy, Nat.mul_add, ← Nat.mul_assoc]
    have := congrArg (· * 4294967296) hq
    simp only [Nat.add_mul] at this
    omega
  have high : ∀ q r, q * yn1 + r = u → 4294967296 * r + un < q * yn0 → (u * 4294967296 + un) / (yn1 * 4294967296 + yn0) < q := by
    intro q r hq hlt
    rw [Nat.div_lt_iff_lt_mul hy, Nat.mul_add, ← Nat.mul_assoc]
    have := congrArg (· * 4294967296) hq
    simp only [Nat.add_mul] at this
    omega
  intro f
  induction f with
  | zero => intro q r h; omega
  | succ f ih =>
    intro q r hf hq hr hge
    simp only [mend]
    split
    · rename_i hc
      have hlt : (u * 4294967296 + un) / (yn1 * 4294967296 + yn0) < q := by
        rcases hc with hc | hc
        · exact Nat.lt_of_lt_of_le hQ hc
        · exact high q r hq hc
      have h0q : 0 < q := Nat.lt_of_le_of_lt (Nat.zero_le _) hlt
      obtain ⟨q, rfl⟩ : ∃ q', q = q' + 1 := ⟨q - 1, by omega⟩
      have hq' : q * yn1 + (r + yn1) = u := by rw [Nat.add_mul] at hq; omega
      simp only [Nat.add_sub_cancel]
      split
      · rename_i hb
        refine Nat.le_antisymm (low q (r + yn1) hq' ?_) (Nat.le_of_lt_succ hlt)
        have hqB : q < 4294967296 := by
          apply Nat.lt_of_not_le
          intro hBq
          have := Nat.mul_le_mul_right yn1 hBq
          rw [Nat.mul_comm 4294967296 yn1] at this
          omega
        have := Nat.mul_le_mul (Nat.le_of_lt hqB) (Nat.le_of_lt h0)
        have := Nat.mul_le_mul_left 4294967296 hb
        omega
      · exact ih q (r + yn1) (by omega) hq' (by omega) (Nat.le_of_lt_succ hlt)
    · rename_i hc
      have hc2 : q * yn0 ≤ 4294967296 * r + un := by
        rcases Nat.lt_or_ge (4294967296 * r + un) (q * yn0) with h | h
        · exact absurd (.inr h) hc
        · exact h
      exact Nat.le_antisymm (low q r hq hc2) hge
theorem mend_first {yn1 yn0 un u : Nat} (h1 : 0 < yn1) (h0 : yn0 < 4294967296) (hun : un < 4294967296) :
    (u * 4294967296 + un) / (yn1 * 4294967296 + yn0) ≤ u / yn1 := by
  rw [Nat.le_div_iff_mul_le h1]
  have hy : 0 < yn1 * 4294967296 + yn0 := by have := Nat.mul_le_mul_right 4294967296 h1; omega
  have hd := Nat.div_mul_le_self (u * 4294967296 + un) (yn1 * 4294967296 + yn0)
  generalize (u * 4294967296 + un) / (yn1 * 4294967296 + yn0) = Q at *
  rw [Nat.mul_add, ← Nat.mul_assoc] at hd
  omega
theorem next_digit {N Q R Y B c : Nat} (hY : 0 < Y) (h1 : Y * Q + R = N) : (N * B + c) / Y = Q * B + (R * B + c) / Y ∧ (N * B + c) % Y = (R * B + c) % Y := by
  have h2 : N * B + c = (R * B + c) + Y * (Q * B) := by
    subst h1
    rw [Nat.add_mul, Nat.mul_assoc]
    omega
  rw [h2, Nat.add_mul_div_left _ _ hY, Nat.add_mul_mod_self_left, Nat.add_comm]
  exact ⟨rfl, rfl⟩
theorem digit_at {N Y Q : Nat} (hY : 0 < Y) (hQ : Q = N / Y) : ∃ R, R < Y ∧ Q * Y + R = N :=
  ⟨N % Y, Nat.mod_lt _ hY, by subst hQ; rw [Nat.mul_comm]; exact Nat.div_add_mod _ _⟩
theorem digit_lt {U Y un B Q R : Nat} (hU : U < Y) (hu : un < B) (h : Q * Y + R = U * B + un) : Q < B := by
  apply Nat.lt_of_not_le
  intro hb
  have h1 := Nat.mul_le_mul_right Y hb
  have h2 := Nat.mul_le_mul_right B (show U + 1 ≤ Y from hU)
  rw [Nat.add_mul, Nat.mul_comm Y B] at h2
  omega
/-- A number of four digits by one of two: its two digits, and what is left. -/
theorem two_digits {U un1 un0 L Y Q1 Q0 R S : Nat} (hL : L = un1 * 4294967296 + un0) (hS : S < Y) (h1 : Q1 * Y + R = U * 4294967296 + un1) (h2 : Q0 * Y + S = R * 4294967296 + un0) :
    (U * 18446744073709551616 + L) / Y = Q1 * 4294967296 + Q0 ∧ (U * 18446744073709551616 + L) % Y = S := by
  have hY : 0 < Y := by omega
  have h0 : U * 18446744073709551616 + L = (U * 4294967296 + un1) * 4294967296 + un0 := by omega
  rw [h0]
  obtain ⟨a, b⟩ := next_digit (B := 4294967296) (c := un0) hY (show Y * Q1 + R = U * 4294967296 + un1 by rw [Nat.mul_comm]; exact h1)
  have e : ∀ N, Q0 * Y + S = N → N / Y = Q0 ∧ N % Y = S := by
    rintro N rfl
    rw [Nat.add_comm, Nat.add_mul_div_right _ _ hY, Nat.add_mul_mod_self_right, Nat.div_eq_of_lt hS, Nat.mod_eq_of_lt hS]
    exact ⟨Nat.zero_add _, rfl⟩
  obtain ⟨e1, e2⟩ := e _ h2
  exact ⟨a.trans (congrArg (Q1 * 4294967296 + ·) e1), b.trans e2⟩
end Go.Vx
