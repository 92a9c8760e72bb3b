/- Parse: the walk. -/
import Derived.Test.YtpiaijnjglhggaaDoorTmS
namespace Go.Proofs.YtpiaijnjglhggaaDoor
open Go.RowKit Go.Vx
set_option linter.unusedVariables false
set_option linter.unusedSimpArgs false

/-- What Parse answers: the month whose text it is, or 0 and the error. -/
def ParseIs (s : ByteArray) (a b : Int) : Prop := (a = 0 ∧ b = 15 ∧ ∀ j : Nat, j ≤ 1199 → textC j ≠ s) ∨ (b = 0 ∧ 0 ≤ a ∧ a ≤ 1199 ∧ textC a = s)
theorem tm_cut {s : ByteArray} (hs : s.size ≤ 1000) {w : World} {m : Int} (hm : w.cell? ⟨0, 0, none⟩ = some (.int .i64 m)) {A B : List UInt8} {ok : Bool} (h : Lib.cut s.data.toList [45] = (A, B, ok)) :
    Calls Tryd.prog 22 #[.string s, .string ⟨#[45]⟩] w fun e w' => e = .returned (.tuple #[.string ⟨A.toArray⟩, .string ⟨B.toArray⟩, .bool ok]) ∧ ∃ n, w' = w.drewN n := by
  have := Tryd.strings_Cut s ⟨#[45]⟩ m w (by omega) hm
  rw [show (⟨#[45]⟩ : ByteArray).data.toList = [45] from rfl, h] at this
  exact this
end Go.Proofs.YtpiaijnjglhggaaDoor
