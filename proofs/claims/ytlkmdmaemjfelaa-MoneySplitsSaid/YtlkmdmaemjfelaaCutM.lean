/- The money's heap: its five methods. -/
import Derived.Test.YtlkmdmaemjfelaaProg
import Derived.Test.YtlkmdmaemjfelaaHeapAt
namespace Go.Proofs.Ytlkmdmaemjfelaa
open Go.RowKit Go.Vx
set_option linter.unusedVariables false
set_option linter.unusedSimpArgs false

abbrev Cut := Int × Int
def cutEnc (x : Cut) : List Value := [.int .u64 x.1, .int .i64 x.2]
def cutLt (x y : Cut) : Bool := decide (y.1 < x.1) || (x.1 == y.1 && decide (x.2 < y.2))
theorem cutLin : Lin cutLt where
  irr x := by simp [cutLt]
  tr x y z h k := by simp [cutLt] at *; omega
  tri x y := by
    obtain ⟨a, b⟩ := x
    obtain ⟨c, d⟩ := y
    simp [cutLt]
    omega
theorem encLen (x : Cut) : (cutEnc x).length = 2 := rfl
theorem infoCut : (Try.prog.info? 66).map (fun i => (i.zero, i.size, i.bytes)) = some (some (.agg #[.int .u64 0, .int .i64 0]), 2, 16) := by kernel_rfl
abbrev HC := HAt 66 2 cutEnc

theorem ct_len (A : Option Addr) (n c : Nat) (w : World) (hn : n ≤ maxLen) : Calls Try.prog 114 #[.slice A n c] w fun e w' => e = .returned (.int .i64 n) ∧ w = w' := by
  unfold maxLen at hn
  go_enter Try.func114, Try.ntmps114
  go_wp2
  go_ret
  exact ⟨rfl, rfl⟩
set_option maxHeartbeats 2000000 in
theorem ct_less {w : World} {v : Value} {l : List Cut} {F : List Nat} (h : Fix w 66 2 v l.length (l.flatMap cutEnc) F) {i k : Nat} (hi : i < l.length) (hk : k < l.length) (hl : l.length ≤ 1000000) :
    Calls Try.prog 115 #[v, .int .i64 i, .int .i64 k] w fun e w' => e = .returned (.bool (cutLt (nth l i) (nth l k))) ∧ Chg [] w w' := by
  obtain ⟨g, c, rfl, rfl, hci⟩ := h.elem encLen (by omega) hi
  obtain ⟨g', c', hv, hF, hck⟩ := h.elem encLen (by omega) hk
  obtain rfl : g = g' := by simpa using hF
  have i0 := (hci 0 (by omega)).1
  have i1 := (hci 1 (by omega)).1
  have k0 := (hck 0 (by omega)).1
  have k1 := (hck 1 (by omega)).1
  simp only [cutEnc, List.getElem?_cons_zero, List.getElem?_cons_succ, Nat.add_zero] at i0 i1 k0 k1
  generalize nth l i = x at *
  generalize nth l k = y at *
  generalize l.length = n at *
  clear hci hck h hv hF
  unfold cutLt
  go_enter Try.func115, Try.ntmps115
  go_wp2_with fail
  by_cases h1 : y.1 < x.1
  · have e1 : decide (y.1 < x.1) = true := by simpa using h1
    go_quiet (fail)
    go_wp2_with fail
    go_ret
    exact ⟨by simp [h1], (Chg.refl _ _).drewN _⟩
  · have e1 : decide (y.1 < x.1) = false := by simpa using h1
    by_cases h2 : x.1 = y.1
    · have e2 : (x.1 == y.1) = true := by simpa using h2
      go_quiet (fail)
      go_wp2_with fail
      go_ret
      exact ⟨by simp [h1, h2], (Chg.refl _ _).drewN _⟩
    · have e2 : (x.1 == y.1) = false := by simpa using h2
      go_quiet (fail)
      go_wp2_with fail
      go_ret
      exact ⟨by simp [h1, h2], (Chg.refl _ _).drewN _⟩
end Go.Proofs.Ytlkmdmaemjfelaa
