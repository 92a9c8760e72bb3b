/- The reference's reading of a month. -/
import Derived.Test.YtpiaijnjglhggaaDoorTmO
namespace Go.Proofs.YtpiaijnjglhggaaDoor
open Go.RowKit Go.Vx
set_option linter.unusedVariables false
set_option linter.unusedSimpArgs false

/-- The month whose text it is, or -1. -/
def ReadIs (s : ByteArray) (r : Int) : Prop := (r = -1 ∧ ∀ j : Nat, j ≤ 1199 → textC j ≠ s) ∨ (0 ≤ r ∧ r ≤ 1199 ∧ textC r = s)
theorem bytes_ne {a b : ByteArray} (h : a ≠ b) : (a.toList == b.toList) = false ∧ True := by
  refine ⟨?_, trivial⟩
  rw [beq_eq_false_iff_ne, Lib.toList_data, Lib.toList_data]
  intro e
  apply h
  apply ByteArray.ext
  exact Array.toList_inj.1 e
set_option maxRecDepth 8000 in
set_option maxHeartbeats 4000000 in
theorem r1_readMonth (s : ByteArray) (hs : s.size ≤ 1000) (w : World) : Calls Tryd.prog 16 #[.string s] w fun e w' => ∃ r, e = .returned (.int .i64 r) ∧ ReadIs s r ∧ Chg [] w w' := by
  go_enter Tryd.func16, Tryd.ntmps16
  go_wp2_with fail
  go_loopw [3] (fun iv wr => ∃ k : Nat, iv = .int .i64 k ∧ k ≤ 1200 ∧ (∀ j : Nat, j < k → textC j ≠ s) ∧ Chg [] w wr) (fun iv _ => 1200 - (intOf iv).toNat)
  case atStart => exact ⟨0, rfl, by omega, fun j h => absurd h (by omega), Chg.refl _ _⟩
  case round =>
    obtain ⟨k, rfl, hk, hno, hc⟩ := hrel
    by_cases hlt : k ≤ 1199
    · have b0 : decide ((k : Int) ≤ 1199) = true := by simp; omega
      have hmo := r1_month k
      have hsz := text_size k (by omega) (by omega)
      by_cases he : textC k = s
      · have hfin : Hid (ReadIs s k) := Lib.hid (.inr ⟨by omega, by omega, he⟩)
        rw [he] at hmo hsz
        clear he hno
        go_wp2_with fail
        refine (hmo _).mono ?_
        rintro e w1 ⟨rfl, hc1⟩
        dsimp only
        go_wp2_with fail
        go_ret
        exact ⟨k, rfl, hfin.out, hc.trans' hc1⟩
      · have hnx : Hid (∀ j : Nat, j < k + 1 → textC j ≠ s) := Lib.hid (fun j hj => by
          rcases Nat.lt_or_ge j k with h | h
          · exact hno j h
          · obtain rfl : j = k := by omega
            exact he)
        obtain ⟨l1, l2⟩ := bytes_ne he
        clear he hno
        by_cases h7 : s.size = 7
        · generalize textC k = T at *
          go_wp2_with fail
          refine (hmo _).mono ?_
          rintro e w1 ⟨rfl, hc1⟩
          dsimp only
          go_wp2_with fail
          go_roundw
          case measure => simp [intOf]; omega
          case rel => exact ⟨k + 1, by go_num, by omega, hnx.out, hc.trans' hc1⟩
        · have b7 : decide ((s.size : Int) = 7) = false := by simp; omega
          have c7 : ¬ (s.size : Int) = 7 := by omega
          go_wp2_with fail
          go_roundw
          case measure => simp [intOf]; omega
          case rel => exact ⟨k + 1, by go_num, by omega, hnx.out, hc⟩
    · obtain rfl : k = 1200 := by omega
      have hfin : Hid (ReadIs s (-1)) := Lib.hid (.inl ⟨rfl, fun j hj => hno j (by omega)⟩)
      clear hno
      go_wp2_with fail
      go_ret
      exact ⟨-1, rfl, hfin.out, hc⟩
end Go.Proofs.YtpiaijnjglhggaaDoor
