/- The money's Split, without a program: what its loops compute. -/
import Derived.Test.YtlkmdmaemjfelaaCutM
namespace Go.Vx
open Go.Proofs.Ytlkmdmaemjfelaa
set_option linter.unusedVariables false
set_option linter.unusedSimpArgs false

def qAt (N W : Nat) (ws : List Nat) (k : Nat) : Nat := N * nth ws k / W
def rAt (N W : Nat) (ws : List Nat) (k : Nat) : Nat := N * nth ws k % W
def parts0 (N W : Nat) (ws : List Nat) (k : Nat) : List Nat := (ws.take k).map fun x => N * x / W
def cutsTo (N W : Nat) (ws : List Nat) : Nat → List Cut
  | 0 => []
  | k + 1 => ins cutLt (((rAt N W ws k : Nat) : Int), ((k : Nat) : Int)) (cutsTo N W ws k)
def bump (ps : List Nat) (i : Nat) : List Nat := ps.set i (nth ps i + 1)
def bumps : List Nat → List Cut → List Nat
  | ps, [] => ps
  | ps, x :: S => bumps (bump ps x.2.toNat) S
def splitN (N W : Nat) (ws : List Nat) : List Nat :=
  bumps (parts0 N W ws ws.length) ((cutsTo N W ws ws.length).take (N - (parts0 N W ws ws.length).sum))

theorem parts0_succ {N W : Nat} {ws : List Nat} {k : Nat} (hk : k < ws.length) : parts0 N W ws (k + 1) = parts0 N W ws k ++ [qAt N W ws k] := by
  unfold parts0 qAt
  rw [List.take_add_one, List.map_append, at_eq hk]
  simp [hk]
theorem parts0_len {N W : Nat} {ws : List Nat} {k : Nat} (hk : k ≤ ws.length) : (parts0 N W ws k).length = k := by
  unfold parts0
  simp
  omega
theorem sum_mul (N W : Nat) (hW : 0 < W) : ∀ ws : List Nat, (ws.map fun x => N * x / W).sum * W + (ws.map fun x => N * x % W).sum = N * ws.sum
  | [] => by simp
  | x :: ws => by
    have := sum_mul N W hW ws
    have h := Nat.div_add_mod (N * x) W
    simp only [List.map_cons, List.sum_cons, Nat.add_mul, Nat.mul_add]
    rw [Nat.mul_comm W] at h
    omega
theorem sum_rest (N W : Nat) (hW : 0 < W) : ∀ ws : List Nat, (ws.map fun x => N * x % W).sum ≤ ws.length * W
  | [] => by simp
  | x :: ws => by
    have := sum_rest N W hW ws
    have h := Nat.mod_lt (N * x) hW
    simp only [List.map_cons, List.sum_cons, List.length_cons, Nat.add_mul]
    omega
theorem parts0_sum {N W : Nat} {ws : List Nat} (hW : 0 < W) (hs : ws.sum = W) (k : Nat) : (parts0 N W ws k).sum ≤ N := by
  have h1 := sum_mul N W hW (ws.take k)
  have h2 : (ws.take k).sum ≤ W := by
    have : (ws.take k).sum + (ws.drop k).sum = ws.sum := by rw [← List.sum_append, List.take_append_drop]
    omega
  have h3 := Nat.mul_le_mul_left N h2
  refine Nat.le_of_mul_le_mul_right (c := W) ?_ hW
  show ((ws.take k).map fun x => N * x / W).sum * W ≤ N * W
  omega
theorem left_le {N W : Nat} {ws : List Nat} (hW : 0 < W) (hs : ws.sum = W) : N - (parts0 N W ws ws.length).sum ≤ ws.length := by
  have h1 := sum_mul N W hW ws
  have h2 := sum_rest N W hW ws
  have h3 : parts0 N W ws ws.length = ws.map fun x => N * x / W := by unfold parts0; rw [List.take_length]
  rw [h3]
  rw [hs] at h1
  refine Nat.le_of_mul_le_mul_right (c := W) ?_ hW
  rw [Nat.sub_mul]
  omega
theorem cutsTo_len (N W : Nat) (ws : List Nat) : ∀ k, (cutsTo N W ws k).length = k
  | 0 => rfl
  | k + 1 => by rw [cutsTo, (ins_perm _ _).length_eq, List.length_cons, cutsTo_len N W ws k]
theorem cutsTo_mem (N W : Nat) (ws : List Nat) : ∀ k x, x ∈ cutsTo N W ws k → ∃ i, i < k ∧ x = (((rAt N W ws i : Nat) : Int), ((i : Nat) : Int))
  | 0, x, h => by simp [cutsTo] at h
  | k + 1, x, h => by
    rw [cutsTo, (ins_perm _ _).mem_iff, List.mem_cons] at h
    rcases h with h | h
    · exact ⟨k, by omega, h⟩
    · obtain ⟨i, hi, e⟩ := cutsTo_mem N W ws k x h
      exact ⟨i, by omega, e⟩
theorem bump_len (ps : List Nat) (i : Nat) : (bump ps i).length = ps.length := by simp [bump]
theorem sum_set : ∀ (ps : List Nat) (i : Nat) (hi : i < ps.length), (ps.set i (nth ps i + 1)).sum = ps.sum + 1
  | [], i, h => by simp at h
  | x :: ps, 0, h => by simp [nth]; omega
  | x :: ps, i + 1, h => by
    have e : nth (x :: ps) (i + 1) = nth ps i := rfl
    rw [e, List.set_cons_succ, List.sum_cons, List.sum_cons, sum_set ps i (by simpa using h)]
    omega
theorem bump_sum {ps : List Nat} {i : Nat} (hi : i < ps.length) : (bump ps i).sum = ps.sum + 1 := sum_set ps i hi
theorem le_sum : ∀ {ps : List Nat} {i : Nat}, i < ps.length → nth ps i ≤ ps.sum
  | [], i, h => by simp at h
  | x :: ps, 0, h => by simp [nth]
  | x :: ps, i + 1, h => by
    have := le_sum (ps := ps) (i := i) (by simpa using h)
    have e : nth (x :: ps) (i + 1) = nth ps i := rfl
    rw [e, List.sum_cons]
    omega
end Go.Vx
