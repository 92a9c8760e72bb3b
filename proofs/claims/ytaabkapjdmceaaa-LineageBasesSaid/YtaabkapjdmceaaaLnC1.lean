/- Clones of numbers' lists and of strings. -/
import Derived.Test.YtaabkapjdmceaaaLnG
import Derived.Test.YtaabkapjdmceaaaShelf
namespace Go.Proofs.Ytaabkapjdmceaaa
open Go.RowKit Go.Vx Go.Maps
set_option linter.unusedVariables false
set_option linter.unusedSimpArgs false
attribute [local go_sem] Lib.run_eql_slice_nil run_neq_slice_nil_any run_eql_nil_slice run_neq_nil_slice
theorem cloneInts {w : World} {A : Option Addr} {n c : Nat} {xs : List Value} (hs : Src w 1 A n xs) (h1 : ∀ u ∈ xs, u.oneCell' = true) (hn : n ≤ 1000000) :
    Calls Try.prog 19 #[.slice A n c] w fun e w' => ∃ v F, e = .returned v ∧ Fix w' 3 1 v n xs F ∧ Chg [] w w' ∧ (∀ g, g ∈ F → w.heap.size ≤ g) := by
  obtain ⟨i0, hi, hz0, hz1, hz2⟩ := info_parts lnIntInfo
  go_enter Try.func19, Try.ntmps19
  cases A with
  | none =>
    have hn0 : n = 0 := by
      rcases Nat.eq_zero_or_pos n with h | h
      · exact h
      · obtain ⟨ad, h, _⟩ := hs.2 h
        cases h
    subst hn0
    have hx : xs = [] := List.eq_nil_of_length_eq_zero (by simpa using hs.1)
    subst hx
    go_wp2
    go_ret
    exact ⟨_, [], rfl, Fix.nil _ _ _, Chg.refl _ _, by simp⟩
  | some a =>
    go_wp2_with (at_builtin; refine wpList_append_fix rfl (.tmp 5) (.tmp 6) 27 rfl Try.underlying27 hi hz0 hz1 hz2 rfl (by omega) (n := 0) (xs := []) (F := []) rfl (Fix.empty _ _ _ _) rfl (hs.alloc _) h1 (by unfold maxLen; omega) (by omega) ?_; intro v' w1 F1 ha)
    go_ret
    refine ⟨v', F1, rfl, by simpa using ha.fix, ?_, ?_⟩
    · exact ((Chg.refl [] w).alloc _).trans ha.chg (by simp)
    · rcases ha.foot with h | h <;> rw [h] <;> simp
theorem strClone (s : ByteArray) (w : World) (hs : s.size ≤ 281474976710656) :
    Calls Try.prog 20 #[.string s] w fun e w' => e = .returned (.string s) ∧ Chg [] w w' := by
  go_enter Try.func20, Try.ntmps20
  go_wp2_with (go_at_call 29; refine (Try.stringslite_Clone _ _ hs).mono ?_; rintro e w' ⟨rfl, hb⟩)
  go_ret
  exact ⟨rfl, .of_below hb⟩
end Go.Proofs.Ytaabkapjdmceaaa
