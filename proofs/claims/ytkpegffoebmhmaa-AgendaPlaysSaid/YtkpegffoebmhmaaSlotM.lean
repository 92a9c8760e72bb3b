/- The agenda's heap: its order, Len, Less. -/
import Derived.Test.YtkpegffoebmhmaaProg
import Derived.Test.YtkpegffoebmhmaaHeapAt
import Derived.Deep.RegionLaw
namespace Go.Proofs.Ytkpegffoebmhmaa
open Go.RowKit Go.Vx
set_option linter.unusedVariables false
set_option linter.unusedSimpArgs false

/-- A slot: its period, its rank, its number, when it came. -/
abbrev Slot := Int × Int × Int × Int
def slEnc (x : Slot) : List Value := [.int .i64 x.1, .int .i64 x.2.1, .int .i64 x.2.2.1, .int .i64 x.2.2.2]
def slLt (x y : Slot) : Bool :=
  decide (x.1 < y.1) || (x.1 == y.1 && (decide (y.2.1 < x.2.1) || (x.2.1 == y.2.1 && (decide (x.2.2.1 < y.2.2.1) || (x.2.2.1 == y.2.2.1 && decide (x.2.2.2 < y.2.2.2))))))
theorem slLt_iff {x y : Slot} : slLt x y = true ↔ (x.1 < y.1 ∨ (x.1 = y.1 ∧ (y.2.1 < x.2.1 ∨ (x.2.1 = y.2.1 ∧ (x.2.2.1 < y.2.2.1 ∨ (x.2.2.1 = y.2.2.1 ∧ x.2.2.2 < y.2.2.2)))))) := by
  simp [slLt]
theorem slLt_no {x y : Slot} : slLt x y = false ↔ ¬ (x.1 < y.1 ∨ (x.1 = y.1 ∧ (y.2.1 < x.2.1 ∨ (x.2.1 = y.2.1 ∧ (x.2.2.1 < y.2.2.1 ∨ (x.2.2.1 = y.2.2.1 ∧ x.2.2.2 < y.2.2.2)))))) := by
  rw [← slLt_iff]
  simp
theorem slLin : Lin slLt where
  irr x := by rw [slLt_no]; omega
  tr x y z h k := by rw [slLt_iff] at *; omega
  tri x y := by
    obtain ⟨a, b, c, d⟩ := x
    obtain ⟨a', b', c', d'⟩ := y
    simp only [slLt_iff, Prod.mk.injEq]
    omega
theorem encLen (x : Slot) : (slEnc x).length = 4 := rfl
theorem infoSlot : (Try.prog.info? 51).map (fun i => (i.zero, i.size, i.bytes)) = some (some (.agg #[.int .i64 0, .int .i64 0, .int .i64 0, .int .i64 0]), 4, 32) := by kernel_rfl
abbrev HS := HAt 51 4 slEnc

theorem sl_len (A : Option Addr) (n c : Nat) (w : World) (hn : n ≤ maxLen) : Calls Try.prog 39 #[.slice A n c] w fun e w' => e = .returned (.int .i64 n) ∧ w = w' := by
  unfold maxLen at hn
  go_enter Try.func39, Try.ntmps39
  go_wp2
  go_ret
  exact ⟨rfl, rfl⟩
set_option maxRecDepth 8000 in
set_option maxHeartbeats 4000000 in
theorem sl_before (x y : Slot) (w : World) :
    Calls Try.prog 42 #[.agg #[.int .i64 x.1, .int .i64 x.2.1, .int .i64 x.2.2.1, .int .i64 x.2.2.2], .agg #[.int .i64 y.1, .int .i64 y.2.1, .int .i64 y.2.2.1, .int .i64 y.2.2.2]] w fun e w' => e = .returned (.bool (slLt x y)) ∧ Chg [] w w' := by
  have hfin : ∀ b, slLt x y = b → Hid (Ending.returned (Value.bool b) = Ending.returned (Value.bool (slLt x y))) := by rintro b rfl; exact Lib.hid rfl
  have hcase : ∃ b : Bool, slLt x y = b := ⟨_, rfl⟩
  by_cases h1 : x.1 = y.1
  · have b1 : (x.1 != y.1) = false := by simp [h1]
    by_cases h2 : x.2.1 = y.2.1
    · have b2 : (x.2.1 != y.2.1) = false := by simp [h2]
      by_cases h3 : x.2.2.1 = y.2.2.1
      · have b3 : (x.2.2.1 != y.2.2.1) = false := by simp [h3]
        have e := hfin (decide (x.2.2.2 < y.2.2.2)) (by simp [slLt, h1, h2, h3])
        clear hfin hcase h1 h2 h3
        go_enter Try.func42, Try.ntmps42
        go_wp2_with fail
        go_ret
        exact ⟨e.out, ((Chg.refl _ _).alloc _).alloc _⟩
      · have b3 : (x.2.2.1 != y.2.2.1) = true := by simp [h3]
        have e := hfin (decide (x.2.2.1 < y.2.2.1)) (by simp [slLt, h1, h2, h3])
        clear hfin hcase h1 h2 h3
        go_enter Try.func42, Try.ntmps42
        go_wp2_with fail
        go_ret
        exact ⟨e.out, ((Chg.refl _ _).alloc _).alloc _⟩
    · have b2 : (x.2.1 != y.2.1) = true := by simp [h2]
      have e := hfin (decide (y.2.1 < x.2.1)) (by simp [slLt, h1, h2])
      clear hfin hcase h1 h2
      go_enter Try.func42, Try.ntmps42
      go_wp2_with fail
      go_ret
      exact ⟨e.out, ((Chg.refl _ _).alloc _).alloc _⟩
  · have b1 : (x.1 != y.1) = true := by simp [h1]
    have e := hfin (decide (x.1 < y.1)) (by simp [slLt, h1])
    clear hfin hcase h1
    go_enter Try.func42, Try.ntmps42
    go_wp2_with fail
    go_ret
    exact ⟨e.out, ((Chg.refl _ _).alloc _).alloc _⟩
end Go.Proofs.Ytkpegffoebmhmaa
