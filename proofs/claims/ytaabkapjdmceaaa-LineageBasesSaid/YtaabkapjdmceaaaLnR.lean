/- Lineage, without a program: a chain of versions. -/
import Derived.Test.YtaabkapjdmceaaaLnM
namespace Go.Proofs.Ytaabkapjdmceaaa
open Go.RowKit Go.Vx
set_option linter.unusedVariables false
set_option linter.unusedSimpArgs false

theorem eq_of_lin {lt : Nat → Nat → Bool} (L : Lin lt) : ∀ {l k : List Nat}, (l.Pairwise fun x y => lt x y = true) → (k.Pairwise fun x y => lt x y = true) → (∀ x, x ∈ l ↔ x ∈ k) → l = k
  | [], [], _, _, _ => rfl
  | [], y :: k, _, _, h => absurd ((h y).2 (by simp)) (by simp)
  | x :: l, [], _, _, h => absurd ((h x).1 (by simp)) (by simp)
  | x :: l, y :: k, h1, h2, h => by
    have hx := List.pairwise_cons.1 h1
    have hy := List.pairwise_cons.1 h2
    have e : x = y := by
      rcases List.mem_cons.1 ((h x).1 (by simp)) with e | hxk
      · exact e
      · rcases List.mem_cons.1 ((h y).2 (by simp)) with e | hyl
        · exact e.symm
        · have a := hx.1 y hyl
          have b := hy.1 x hxk
          rw [L.asym a] at b
          cases b
    subst e
    have hn1 : x ∉ l := fun hm => by have := hx.1 x hm; rw [L.irr] at this; cases this
    have hn2 : x ∉ k := fun hm => by have := hy.1 x hm; rw [L.irr] at this; cases this
    rw [eq_of_lin L hx.2 hy.2 fun z => ⟨fun hz => by
      rcases List.mem_cons.1 ((h z).1 (by simp [hz])) with e | hm
      · rw [e] at hz
        exact absurd hz hn1
      · exact hm, fun hz => by
      rcases List.mem_cons.1 ((h z).2 (by simp [hz])) with e | hm
      · rw [e] at hz
        exact absurd hz hn2
      · exact hm⟩]
/-- Versions one behind the other. -/
def chainL (f : Nat → Int) (n : Nat) : Lin0 := (List.range n).map fun i => ⟨i + 1, if i = 0 then [] else [i], f i, ⟨#[97, 110, 110]⟩⟩
section
variable {f : Nat → Int} {n : Nat}
theorem chain_len : (chainL f n).length = n := by simp [chainL]
theorem chain_there {x : Nat} : isThere (chainL f n) x = true ↔ 1 ≤ x ∧ x ≤ n := by rw [isThere_iff, chain_len]
theorem chain_at {i : Nat} (h : i < n) : comAt (chainL f n) (i + 1) = ⟨i + 1, if i = 0 then [] else [i], f i, ⟨#[97, 110, 110]⟩⟩ := by
  unfold comAt
  rw [Nat.add_sub_cancel, at_eq (by rw [chain_len]; exact h)]
  simp [chainL]
theorem chain_gen {x : Nat} (h1 : 1 ≤ x) (h2 : x ≤ n) : genAt (chainL f n) x = x := by
  obtain ⟨i, rfl⟩ : ∃ i, x = i + 1 := ⟨x - 1, by omega⟩
  unfold genAt
  rw [chain_at (by omega)]
theorem chain_par {x p : Nat} (h1 : 1 ≤ x) (h2 : x ≤ n) : p ∈ parAt (chainL f n) x ↔ 1 ≤ p ∧ p + 1 = x := by
  obtain ⟨i, rfl⟩ : ∃ i, x = i + 1 := ⟨x - 1, by omega⟩
  unfold parAt
  rw [chain_at (by omega)]
  by_cases h : i = 0 <;> simp [h] <;> omega
theorem chain_wf : WfL (chainL f n) := by
  intro id hid p hp
  obtain ⟨h1, h2⟩ := chain_there.1 hid
  obtain ⟨h3, h4⟩ := (chain_par h1 h2).1 hp
  exact ⟨chain_there.2 ⟨h3, by omega⟩, by omega, by rw [chain_gen h3 (by omega), chain_gen h1 h2]; omega⟩
theorem chain_anc {x y : Nat} (h1 : 1 ≤ y) (h2 : y ≤ n) : Anc (chainL f n) x y ↔ 1 ≤ x ∧ x ≤ y := by
  constructor
  · intro h
    obtain ⟨a, b, -, -⟩ := h.there chain_wf (chain_there.2 ⟨h1, h2⟩)
    exact ⟨(chain_there.1 a).1, b⟩
  · rintro ⟨h3, h4⟩
    obtain ⟨d, rfl⟩ : ∃ d, y = x + d := ⟨y - x, by omega⟩
    clear h4
    induction d with
    | zero => exact .refl
    | succ d ih => exact .step (ih (by omega) (by omega)) ((chain_par h1 h2).2 ⟨by omega, by omega⟩)
theorem chain_lt {x y : Nat} (hx : 1 ≤ x ∧ x ≤ n) (hy : 1 ≤ y ∧ y ≤ n) : lnLt (chainL f n) x y = true ↔ y < x := by
  unfold lnLt
  rw [chain_gen hx.1 hx.2, chain_gen hy.1 hy.2]
  simp
theorem chain_hist {a : Nat} (h1 : 1 ≤ a) (h2 : a ≤ n) : hist (chainL f n) [a] = (List.range a).map fun i => a - i := by
  refine eq_of_lin (lnLin _) (hist_spec chain_wf [a]).1 ?_ fun x => ?_
  · rw [List.pairwise_map]
    refine List.pairwise_lt_range.imp_of_mem fun {i j} hi hj h => ?_
    rw [List.mem_range] at hi hj
    exact (chain_lt ⟨by omega, by omega⟩ ⟨by omega, by omega⟩).2 (by omega)
  · rw [(hist_spec chain_wf [a]).2]
    simp only [List.mem_singleton, exists_eq_left, List.mem_map, List.mem_range]
    constructor
    · rintro ⟨-, ha⟩
      have := (chain_anc h1 h2).1 ha
      exact ⟨a - x, by omega, by omega⟩
    · rintro ⟨i, hi, rfl⟩
      exact ⟨chain_there.2 ⟨h1, h2⟩, (chain_anc h1 h2).2 ⟨by omega, by omega⟩⟩
theorem chain_is {a b : Nat} (h1 : 1 ≤ a) (h3 : 1 ≤ b) (h4 : b ≤ n) : isL (chainL f n) a b = decide (a ≤ b) := by
  rw [Bool.eq_iff_iff, isL_iff chain_wf, decide_eq_true_eq, chain_anc h3 h4, chain_there]
  omega
theorem chain_bases {a b : Nat} (h1 : 1 ≤ a) (h2 : a ≤ n) (h3 : 1 ≤ b) (h4 : b ≤ n) : basesL (chainL f n) a b = [min a b] := by
  have hco : ∀ x, Common (chainL f n) a b x ↔ 1 ≤ x ∧ x ≤ min a b := fun x => by
    unfold Common
    rw [chain_anc h1 h2, chain_anc h3 h4, chain_there, chain_there]
    omega
  refine eq_of_lin (lnLin _) (bases_spec chain_wf).1 (List.pairwise_singleton _ _) fun x => ?_
  rw [(bases_spec chain_wf).2, List.mem_singleton]
  unfold Greatest
  simp only [hco]
  constructor
  · rintro ⟨h5, h6⟩
    exact (h6 (min a b) (by omega) ((chain_anc (by omega) (by omega)).2 (by omega))).symm
  · rintro rfl
    refine ⟨by omega, fun y hy ha => ?_⟩
    have := (chain_anc (x := min a b) (y := y) (by omega) (by omega)).1 ha
    omega
theorem chain_add : addC (chainL f n) (f n) ⟨#[97, 110, 110]⟩ (if n = 0 then [] else [n]) = chainL f (n + 1) := by
  unfold addC
  rw [show chainL f (n + 1) = chainL f n ++ [⟨n + 1, if n = 0 then [] else [n], f n, ⟨#[97, 110, 110]⟩⟩] by simp [chainL, List.range_succ]]
  congr 3
  by_cases h : n = 0
  · simp [h, maxGen]
  · simp only [if_neg h, maxGen, List.foldl_cons, List.foldl_nil]
    rw [chain_gen (by omega) (by omega)]
    omega
end
theorem basesS_one {C : Lin0} {a b m : Nat} (h : basesL C a b = [m]) : basesS C a b = [m] := by
  unfold basesS
  rw [h, List.mergeSort_singleton]
theorem best_one (C : Lin0) (m : Nat) : bestL C [m] = some m := rfl
end Go.Proofs.Ytaabkapjdmceaaa
