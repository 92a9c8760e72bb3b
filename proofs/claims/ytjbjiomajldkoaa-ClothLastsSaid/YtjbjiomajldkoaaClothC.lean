/- Clones of lists and of strings. -/
import Derived.Test.YtjbjiomajldkoaaClothA
import Derived.Test.YtjbjiomajldkoaaRows2
namespace Go.Proofs.Ytjbjiomajldkoaa
open Go.RowKit Go.Vx
set_option linter.unusedVariables false
set_option linter.unusedSimpArgs false
attribute [local go_sem] Lib.run_eql_slice_nil run_neq_slice_nil_any run_eql_nil_slice run_neq_nil_slice

theorem infoBool : (Try.prog.info? 4).map (fun i => (i.zero, i.size, i.bytes)) = some (some (.bool false), 1, 1) := by kernel_rfl
theorem infoStr : (Try.prog.info? 9).map (fun i => (i.zero, i.size, i.bytes)) = some (some (.string ⟨#[]⟩), 1, 16) := by kernel_rfl
theorem infoThread : (Try.prog.info? 57).map (fun i => (i.zero, i.size, i.bytes)) = some (some (.agg #[.int .i64 0, .string ⟨#[]⟩]), 2, 24) := by kernel_rfl

theorem cloneBools {w : World} {A : Option Addr} {n c : Nat} {xs : List Value} (hs : Src w 1 A n xs) (h1 : ∀ u ∈ xs, u.oneCell' = true) (hn : n ≤ 1000000) :
    Calls Try.prog 29 #[.slice A n c] w fun e w' => ∃ v F, e = .returned v ∧ Fix w' 4 1 v n xs F ∧ Chg [] w w' ∧ (∀ g, g ∈ F → w.heap.size ≤ g) ∧ (A ≠ none → ∃ a' c', v = .slice (some a') n c') := by
  obtain ⟨i0, hi, hz0, hz1, hz2⟩ := info_parts infoBool
  go_enter Try.func29, Try.ntmps29
  cases A with
  | none =>
    have hn0 : n = 0 := by
      rcases Nat.eq_zero_or_pos n with h | h
      · exact h
      · obtain ⟨ad, h, _⟩ := hs.2 h
        cases h
    subst hn0
    have hx : xs = [] := List.eq_nil_of_length_eq_zero (by simpa using hs.1)
    subst hx
    go_wp2
    go_ret
    exact ⟨_, [], rfl, Fix.nil _ _ _, Chg.refl _ _, by simp, by simp⟩
  | some a =>
    go_wp2_with (at_builtin; refine wpList_append_fix rfl (.tmp 5) (.tmp 6) 23 rfl Try.underlying23 hi hz0 hz1 hz2 rfl (by omega) (n := 0) (xs := []) (F := []) rfl (Fix.empty _ _ _ _) rfl (hs.alloc _) h1 (by unfold maxLen; omega) (by omega) ?_; intro v' w1 F1 ha)
    go_ret
    refine ⟨v', F1, rfl, by simpa using ha.fix, ?_, ?_, fun _ => ?_⟩
    · exact ((Chg.refl [] w).alloc _).trans ha.chg (by simp)
    · rcases ha.foot with h | h <;> rw [h] <;> simp
    · rcases Nat.eq_zero_or_pos n with h0 | h0
      · rw [(ha.same h0).1, h0]
        exact ⟨_, _, rfl⟩
      · obtain ⟨g, c, hv, -⟩ := ha.head h0
        rw [hv, Nat.zero_add]
        exact ⟨_, _, rfl⟩
theorem cloneStrs {w : World} {A : Option Addr} {n c : Nat} {xs : List Value} (hs : Src w 1 A n xs) (h1 : ∀ u ∈ xs, u.oneCell' = true) (hn : n ≤ 1000000) :
    Calls Try.prog 31 #[.slice A n c] w fun e w' => ∃ v F, e = .returned v ∧ Fix w' 9 1 v n xs F ∧ Chg [] w w' ∧ (∀ g, g ∈ F → w.heap.size ≤ g) ∧ (A ≠ none → ∃ a' c', v = .slice (some a') n c') := by
  obtain ⟨i0, hi, hz0, hz1, hz2⟩ := info_parts infoStr
  go_enter Try.func31, Try.ntmps31
  cases A with
  | none =>
    have hn0 : n = 0 := by
      rcases Nat.eq_zero_or_pos n with h | h
      · exact h
      · obtain ⟨ad, h, _⟩ := hs.2 h
        cases h
    subst hn0
    have hx : xs = [] := List.eq_nil_of_length_eq_zero (by simpa using hs.1)
    subst hx
    go_wp2
    go_ret
    exact ⟨_, [], rfl, Fix.nil _ _ _, Chg.refl _ _, by simp, by simp⟩
  | some a =>
    go_wp2_with (at_builtin; refine wpList_append_fix rfl (.tmp 5) (.tmp 6) 41 rfl Try.underlying41 hi hz0 hz1 hz2 rfl (by omega) (n := 0) (xs := []) (F := []) rfl (Fix.empty _ _ _ _) rfl (hs.alloc _) h1 (by unfold maxLen; omega) (by omega) ?_; intro v' w1 F1 ha)
    go_ret
    refine ⟨v', F1, rfl, by simpa using ha.fix, ?_, ?_, fun _ => ?_⟩
    · exact ((Chg.refl [] w).alloc _).trans ha.chg (by simp)
    · rcases ha.foot with h | h <;> rw [h] <;> simp
    · rcases Nat.eq_zero_or_pos n with h0 | h0
      · rw [(ha.same h0).1, h0]
        exact ⟨_, _, rfl⟩
      · obtain ⟨g, c, hv, -⟩ := ha.head h0
        rw [hv, Nat.zero_add]
        exact ⟨_, _, rfl⟩
theorem cloneThreads {w : World} {A : Option Addr} {n c : Nat} {xs : List Value} (hs : Src w 2 A n xs) (h1 : ∀ u ∈ xs, u.oneCell' = true) (hn : n ≤ 1000000) :
    Calls Try.prog 32 #[.slice A n c] w fun e w' => ∃ v F, e = .returned v ∧ Fix w' 57 2 v n xs F ∧ Chg [] w w' ∧ (∀ g, g ∈ F → w.heap.size ≤ g) ∧ (A ≠ none → ∃ a' c', v = .slice (some a') n c') := by
  obtain ⟨i0, hi, hz0, hz1, hz2⟩ := info_parts infoThread
  go_enter Try.func32, Try.ntmps32
  cases A with
  | none =>
    have hn0 : n = 0 := by
      rcases Nat.eq_zero_or_pos n with h | h
      · exact h
      · obtain ⟨ad, h, _⟩ := hs.2 h
        cases h
    subst hn0
    have hx : xs = [] := List.eq_nil_of_length_eq_zero (by simpa using hs.1)
    subst hx
    go_wp2
    go_ret
    exact ⟨_, [], rfl, Fix.nil _ _ _, Chg.refl _ _, by simp, by simp⟩
  | some a =>
    go_wp2_with (at_builtin; refine wpList_append_fix rfl (.tmp 5) (.tmp 6) 51 rfl Try.underlying51 hi hz0 hz1 hz2 rfl (by omega) (n := 0) (xs := []) (F := []) rfl (Fix.empty _ _ _ _) rfl (hs.alloc _) h1 (by unfold maxLen; omega) (by omega) ?_; intro v' w1 F1 ha)
    go_ret
    refine ⟨v', F1, rfl, by simpa using ha.fix, ?_, ?_, fun _ => ?_⟩
    · exact ((Chg.refl [] w).alloc _).trans ha.chg (by simp)
    · rcases ha.foot with h | h <;> rw [h] <;> simp
    · rcases Nat.eq_zero_or_pos n with h0 | h0
      · rw [(ha.same h0).1, h0]
        exact ⟨_, _, rfl⟩
      · obtain ⟨g, c, hv, -⟩ := ha.head h0
        rw [hv, Nat.zero_add]
        exact ⟨_, _, rfl⟩
end Go.Proofs.Ytjbjiomajldkoaa
