/- The reference's Split: it picks the parts in the order of the losses. Plain law. -/
import Derived.Test.YtlkmdmaemjfelaaMonP
namespace Go.Vx
open Go.Proofs.Ytlkmdmaemjfelaa
set_option linter.unusedVariables false
set_option linter.unusedSimpArgs false

/-- The place of the greatest number among the first k + 1, the first of equal ones. -/
def bst (c : List Int) : Nat → Nat
  | 0 => 0
  | k + 1 => if nth c (bst c k) < nth c (k + 1) then k + 1 else bst c k
theorem bst_spec (c : List Int) : ∀ k, bst c k ≤ k ∧ (∀ j, j ≤ k → nth c j ≤ nth c (bst c k)) ∧ ∀ j, j < bst c k → nth c j < nth c (bst c k)
  | 0 => ⟨Nat.le_refl _, fun j h => by rw [show j = 0 by omega]; exact Int.le_refl _, fun j h => absurd h (by simp [bst])⟩
  | k + 1 => by
    obtain ⟨h1, h2, h3⟩ := bst_spec c k
    unfold bst
    split
    · rename_i h
      refine ⟨Nat.le_refl _, fun j hj => ?_, fun j hj => ?_⟩
      · rcases Nat.lt_or_ge j (k + 1) with h' | h'
        · have := h2 j (by omega); omega
        · rw [show j = k + 1 by omega]; exact Int.le_refl _
      · have := h2 j (by omega); omega
    · rename_i h
      refine ⟨by omega, fun j hj => ?_, h3⟩
      rcases Nat.lt_or_ge j (k + 1) with h' | h'
      · exact h2 j (by omega)
      · rw [show j = k + 1 by omega]; omega
theorem bst_eq (c : List Int) (k x : Nat) (hx : x ≤ k) (h1 : ∀ j, j ≤ k → nth c j ≤ nth c x) (h2 : ∀ j, j < x → nth c j < nth c x) : bst c k = x := by
  obtain ⟨b1, b2, b3⟩ := bst_spec c k
  rcases Nat.lt_trichotomy (bst c k) x with h | h | h
  · have := h2 _ h
    have := b2 x hx
    omega
  · exact h
  · have := b3 x h
    have := h1 _ b1
    omega
section
variable (N W : Nat) (ws : List Nat)
def lossCut (i : Nat) : Cut := (((rAt N W ws i : Nat) : Int), ((i : Nat) : Int))
/-- The losses behind t picks. -/
def cutRow (t : Nat) : List Int := (List.range ws.length).map fun i => if lossCut N W ws i ∈ (cutsTo N W ws ws.length).take t then -1 else ((rAt N W ws i : Nat) : Int)
def outRowN (t : Nat) : List Nat := bumps (parts0 N W ws ws.length) ((cutsTo N W ws ws.length).take t)
def pickAt (t : Nat) : Nat := (nth (cutsTo N W ws ws.length) t).2.toNat
variable {N W ws}
theorem cutRow_len (t : Nat) : (cutRow N W ws t).length = ws.length := by simp [cutRow]
theorem cutRow_at {t i : Nat} (hi : i < ws.length) : nth (cutRow N W ws t) i = if lossCut N W ws i ∈ (cutsTo N W ws ws.length).take t then -1 else ((rAt N W ws i : Nat) : Int) := by
  rw [at_eq (by rw [cutRow_len]; exact hi)]
  simp [cutRow]
theorem cutRow_zero {i : Nat} (hi : i < ws.length) : nth (cutRow N W ws 0) i = ((rAt N W ws i : Nat) : Int) := by
  rw [cutRow_at hi]
  simp
theorem bumps_snoc : ∀ (S : List Cut) (ps : List Nat) (x : Cut), bumps ps (S ++ [x]) = bump (bumps ps S) x.2.toNat
  | [], ps, x => rfl
  | y :: S, ps, x => bumps_snoc S (bump ps y.2.toNat) x
theorem pick_lt {t : Nat} (ht : t < ws.length) : pickAt N W ws t < ws.length ∧ nth (cutsTo N W ws ws.length) t = lossCut N W ws (pickAt N W ws t) := by
  have hl := cutsTo_len N W ws ws.length
  have hm : nth (cutsTo N W ws ws.length) t ∈ cutsTo N W ws ws.length := by rw [at_eq (by omega)]; exact List.getElem_mem _
  obtain ⟨i, hi, e⟩ := cutsTo_mem N W ws _ _ hm
  unfold pickAt
  rw [e]
  simp only [Int.toNat_natCast]
  exact ⟨hi, rfl⟩
theorem take_pick {t : Nat} (ht : t < ws.length) : (cutsTo N W ws ws.length).take (t + 1) = (cutsTo N W ws ws.length).take t ++ [lossCut N W ws (pickAt N W ws t)] := by
  have hl := cutsTo_len N W ws ws.length
  rw [List.take_succ_eq_append_getElem (by omega), ← (pick_lt ht).2, at_eq (by omega)]
theorem outRow_succ {t : Nat} (ht : t < ws.length) : outRowN N W ws (t + 1) = bump (outRowN N W ws t) (pickAt N W ws t) := by
  unfold outRowN
  rw [take_pick ht, bumps_snoc]
  simp [lossCut]
theorem outRow_len (t : Nat) : (outRowN N W ws t).length = ws.length := by
  unfold outRowN
  rw [bumps_len, parts0_len (Nat.le_refl _)]
theorem cuts_all {i : Nat} (hi : i < ws.length) : lossCut N W ws i ∈ cutsTo N W ws ws.length := by
  have hc := cuts_count N W ws i ws.length
  rw [if_pos hi] at hc
  have h0 : 0 < (cutsTo N W ws ws.length).countP (partIs i) := by omega
  obtain ⟨x, hx, hp⟩ := List.countP_pos_iff.1 h0
  obtain ⟨j, hj, rfl⟩ := cutsTo_mem N W ws _ x hx
  simp [partIs] at hp
  subst hp
  exact hx
theorem cuts_nodup' : ∀ k, (cutsTo N W ws k).Nodup
  | 0 => List.nodup_nil
  | k + 1 => by
    rw [cutsTo, (ins_perm _ _).nodup_iff, List.nodup_cons]
    refine ⟨fun h => ?_, cuts_nodup' k⟩
    obtain ⟨i, hi, e⟩ := cutsTo_mem N W ws k _ h
    injection e with _ e
    omega
theorem cuts_nodup : (cutsTo N W ws ws.length).Nodup := cuts_nodup' _
theorem lossCut_inj {i j : Nat} (h : lossCut N W ws i = lossCut N W ws j) : i = j := by
  unfold lossCut at h
  injection h with _ h
  omega
theorem cutRow_succ {t : Nat} (ht : t < ws.length) : cutRow N W ws (t + 1) = (cutRow N W ws t).set (pickAt N W ws t) (-1) := by
  apply List.ext_getElem (by simp [cutRow_len])
  intro i h1 h2
  rw [cutRow_len] at h1
  rw [List.getElem_set]
  simp only [cutRow, List.getElem_map, List.getElem_range, take_pick ht, List.mem_append, List.mem_singleton]
  by_cases e : pickAt N W ws t = i
  · rw [if_pos e, if_pos (.inr (by rw [e]))]
  · rw [if_neg e]
    have : ¬ lossCut N W ws i = lossCut N W ws (pickAt N W ws t) := fun h => e (lossCut_inj h).symm
    simp [this]
theorem bst_pick {t : Nat} (ht : t < ws.length) : bst (cutRow N W ws t) (ws.length - 1) = pickAt N W ws t := by
  obtain ⟨hp, he⟩ := pick_lt (N := N) (W := W) ht
  have hl := cutsTo_len N W ws ws.length
  have hn := cuts_nodup (N := N) (W := W) (ws := ws)
  have hnot : lossCut N W ws (pickAt N W ws t) ∉ (cutsTo N W ws ws.length).take t := by
    intro hm
    rw [← he, at_eq (by omega)] at hm
    obtain ⟨j, hj, e⟩ := List.mem_iff_getElem.1 hm
    rw [List.getElem_take] at e
    simp at hj
    exact List.pairwise_iff_getElem.1 hn j t (by omega) (by omega) (by omega) e
  have hval : nth (cutRow N W ws t) (pickAt N W ws t) = ((rAt N W ws (pickAt N W ws t) : Nat) : Int) := by rw [cutRow_at hp, if_neg hnot]
  have hcmp : ∀ j, j < ws.length → j ≠ pickAt N W ws t → nth (cutRow N W ws t) j = -1 ∨ (nth (cutRow N W ws t) j = ((rAt N W ws j : Nat) : Int) ∧ cutLt (lossCut N W ws j) (lossCut N W ws (pickAt N W ws t)) = false) := by
    intro j hj hne
    rw [cutRow_at hj]
    by_cases hm : lossCut N W ws j ∈ (cutsTo N W ws ws.length).take t
    · rw [if_pos hm]; exact .inl rfl
    · rw [if_neg hm]
      refine .inr ⟨rfl, ?_⟩
      have hd : lossCut N W ws j ∈ (cutsTo N W ws ws.length).drop (t + 1) := by
        have h1 := cuts_all (N := N) (W := W) hj
        rw [← List.take_append_drop (t + 1) (cutsTo N W ws ws.length), take_pick ht, List.mem_append, List.mem_append, List.mem_singleton] at h1
        rcases h1 with (h1 | h1) | h1
        · exact absurd h1 hm
        · exact absurd (lossCut_inj h1) hne
        · exact h1
      have hs := cuts_srt N W ws ws.length
      rw [← List.take_append_drop (t + 1) (cutsTo N W ws ws.length), take_pick ht] at hs
      exact (List.pairwise_append.1 hs).2.2 (lossCut N W ws (pickAt N W ws t)) (by simp) _ hd
  have key : ∀ j, j < ws.length → j ≠ pickAt N W ws t → nth (cutRow N W ws t) j < nth (cutRow N W ws t) (pickAt N W ws t) ∨ (nth (cutRow N W ws t) j = nth (cutRow N W ws t) (pickAt N W ws t) ∧ pickAt N W ws t < j) := by
    intro j hj hne
    rcases hcmp j hj hne with h | ⟨h, h2⟩
    · left; rw [h, hval]; omega
    · rw [h, hval]
      simp [cutLt, lossCut] at h2
      omega
  refine bst_eq _ _ _ (by omega) (fun j hj => ?_) (fun j hj => ?_)
  · by_cases e : j = pickAt N W ws t
    · rw [e]; exact Int.le_refl _
    · have := key j (by omega) e; omega
  · have := key j (by omega) (by omega)
    omega
theorem outRow_end : outRowN N W ws (N - (parts0 N W ws ws.length).sum) = splitN N W ws := rfl
end
end Go.Vx
