/- Term: the texts stand in order. -/
import Derived.Test.YtpiaijnjglhggaaDoorTmC
import Derived.Lib.Strings
namespace Go.Proofs.YtpiaijnjglhggaaDoor
open Go.RowKit Go.Vx
set_option linter.unusedVariables false
set_option linter.unusedSimpArgs false

/-- The digits of a number of one, of two, of four digits. -/
def dig (n : Nat) : UInt8 := UInt8.ofNat (48 + n)
def num1 (n : Nat) : List UInt8 := [dig n]
def num2 (n : Nat) : List UInt8 := [dig (n / 10), dig (n % 10)]
def num4 (n : Nat) : List UInt8 := [dig (n / 10 / 10 / 10), dig (n / 10 / 10 % 10), dig (n / 10 % 10), dig (n % 10)]
theorem num1_is (n : Nat) (h : n < 10) : (Lib.itoa (n : Int)) = num1 n := by
  unfold Lib.itoa
  rw [if_neg (by omega), Int.toNat_natCast, Lib.decDigits, dif_pos h]
  rfl
theorem num2_is (n : Nat) (h0 : 10 ≤ n) (h : n < 100) : (Lib.itoa (n : Int)) = num2 n := by
  unfold Lib.itoa
  rw [if_neg (by omega), Int.toNat_natCast, Lib.decDigits, dif_neg (by omega), Lib.decDigits, dif_pos (by omega)]
  rfl
theorem num4_is (n : Nat) (h0 : 1000 ≤ n) (h : n < 10000) : (Lib.itoa (n : Int)) = num4 n := by
  unfold Lib.itoa
  rw [if_neg (by omega), Int.toNat_natCast, Lib.decDigits, dif_neg (by omega), Lib.decDigits, dif_neg (by omega), Lib.decDigits, dif_neg (by omega), Lib.decDigits, dif_pos (by omega)]
  rfl
/-- The letters of a month's text. -/
def textL (p : Nat) : List UInt8 := num4 (2000 + p / 12) ++ ([45] ++ num2 (p % 12 + 1))
theorem textL_is (p : Nat) (h : p ≤ 1199) : (textC p).data.toList = textL p := by
  have hy : yearC p = ((2000 + p / 12 : Nat) : Int) := by
    unfold yearC
    rw [okM_yes (by omega) (by omega), if_pos rfl]
    omega
  have hm : monthC p = ((p % 12 + 1 : Nat) : Int) := by
    unfold monthC
    rw [okM_yes (by omega) (by omega), if_pos rfl]
    omega
  unfold textC
  rw [okM_yes (by omega) (by omega), if_pos rfl, hy, hm]
  unfold numC
  rw [num4_is _ (by omega) (by omega)]
  unfold textL
  by_cases h10 : p % 12 + 1 < 10
  · rw [if_pos (by omega), num1_is _ h10]
    have e1 : (p % 12 + 1) / 10 = 0 := by omega
    have e2 : (p % 12 + 1) % 10 = p % 12 + 1 := by omega
    simp [ByteArray.data_append, num1, num2, e1, e2, dig]
  · rw [if_neg (by omega), num2_is _ (by omega) (by omega)]
    simp [ByteArray.data_append]
theorem textL_order : ∀ p : Fin 1199, Op.bytesLess (textL (p.val + 1)) (textL p.val) = false ∧ (textL (p.val + 1) == textL p.val) = false := by decide +kernel
theorem text_order (p : Int) (h0 : 0 ≤ p) (h1 : p < 1199) : Op.bytesLess (textC (p + 1)).toList (textC p).toList = false ∧ ((textC (p + 1)).toList == (textC p).toList) = false := by
  obtain ⟨n, rfl⟩ := Int.eq_ofNat_of_zero_le h0
  have h := textL_order ⟨n, by omega⟩
  have e1 := textL_is n (by omega)
  have e2 := textL_is (n + 1) (by omega)
  rw [show (((n + 1 : Nat)) : Int) = (n : Int) + 1 by omega] at e2
  rw [Lib.toList_data, Lib.toList_data, e1, e2]
  exact h
theorem text_size (p : Int) (h0 : 0 ≤ p) (h1 : p ≤ 1199) : (textC p).size = 7 := by
  obtain ⟨n, rfl⟩ := Int.eq_ofNat_of_zero_le h0
  show (textC n).data.size = 7
  rw [← Array.length_toList, textL_is n (by omega)]
  rfl
end Go.Proofs.YtpiaijnjglhggaaDoor
