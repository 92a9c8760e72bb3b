/- Lineage: Bases. -/
import Derived.Test.YtaabkapjdmceaaaLnK
import Derived.Sort.OwnSortedInts
namespace Go.Proofs.Ytaabkapjdmceaaa
open Go.RowKit Go.Vx Go.Maps Go.Sort
set_option linter.unusedVariables false
set_option linter.unusedSimpArgs false

theorem chg_grownBy {w w' : World} {g : Nat} (h : w.grownBy w' (some g)) : Chg [g] w w' := ⟨h.os, h.tape, h.output, h.size, fun k hk hn => h.block k hk (by simpa using fun e => hn (by simp [e]))⟩
theorem sort_ints {w : World} {A : Option Addr} {n c : Nat} {l : List Int} {F : List Nat} (h : Fix w 3 1 (.slice A n c) n (l.map (Value.int .i64)) F) (hn : n ≤ 1000000) :
    Calls Try.prog 23 #[.slice A n c] w fun e w' => e = .returned (.tuple #[]) ∧ Fix w' 3 1 (.slice A n c) n ((l.mergeSort fun x y => decide (x ≤ y)).map (Value.int .i64)) F ∧ Chg F w w' := by
  obtain ⟨A', c', hv, h1, h2, h3, h4⟩ := id h
  cases hv
  simp only [List.length_map, Nat.mul_one] at h1
  rcases Nat.eq_zero_or_pos n with hz | hz
  · subst hz
    have : l = [] := List.eq_nil_of_length_eq_zero h1
    subst this
    refine (Try.slices_Sort_int_none A c w).mono ?_
    rintro e w' ⟨rfl, rfl⟩
    exact ⟨rfl, by simpa using h, Chg.refl _ _⟩
  · rcases h4 with ⟨rfl, -⟩ | ⟨g, cur, rfl, rfl, hb, hs, ht⟩
    · omega
    · rw [Nat.mul_one, ← h1] at ht
      subst h1
      have hH := holds_of_blockI (hb : w.heap[g]? = some (.cells cur _ (0, 0))) ht
      refine (Try.slices_Sort_int g 0 c l w hH hb.lt (by omega)).mono ?_
      rintro e w' ⟨rfl, k, os, rfl⟩
      have hll : (l.mergeSort fun x y => decide (x ≤ y)).length = l.length := (List.mergeSort_perm _ _).length_eq
      have hr := ownsRow_sortedI (n := k) (os := os) (base := 0) hll (Nat.zero_le _) (hb : w.heap[g]? = some (.cells cur _ (0, 0))) h2 h3 hs
      refine ⟨rfl, ?_, chg_grownBy (grownBy_sortedI _)⟩
      have := Fix.of_own hr
      simpa [Value.ownBlock] using this
theorem sort_nats (l : List Nat) : ((l.map fun n : Nat => (n : Int)).mergeSort fun x y => decide (x ≤ y)).map (Value.int .i64) = natVals (l.mergeSort fun x y => decide (x ≤ y)) := by
  rw [← List.map_mergeSort (r := fun x y => decide (x ≤ y)) (by simp)]
  simp [natVals]
section
variable {w : World} {lp : Nat} {Q : List LC} {R : List Nat}
def basesS (C : Lin0) (a b : Nat) : List Nat := (basesL C a b).mergeSort fun x y => decide (x ≤ y)
theorem basesS_len (C : Lin0) (a b : Nat) : (basesS C a b).length = (basesL C a b).length := (List.mergeSort_perm _ _).length_eq
theorem ln_Bases (h : LinAt w lp Q R) (hQ : Q.length ≤ 400) (a b : Int) :
    Calls Try.prog 11 #[.pointer (some ⟨lp, 0, none⟩), .int .i64 a, .int .i64 b] w fun e w' => ∃ v F, e = .returned v ∧ Fix w' 3 1 v (basesS (comsOf Q) a.toNat b.toNat).length (natVals (basesS (comsOf Q) a.toNat b.toNat)) F ∧ (∀ g ∈ F, w.heap.size ≤ g) ∧ Chg [] w w' := by
  have h1 := ln_bases h hQ a b
  have hl := bases_le h hQ a.toNat b.toNat
  rw [basesS_len]
  have hs := sort_nats (basesL (comsOf Q) a.toNat b.toNat)
  change _ = natVals (basesS (comsOf Q) a.toNat b.toNat) at hs
  generalize basesS (comsOf Q) a.toNat b.toNat = S at *
  generalize basesL (comsOf Q) a.toNat b.toNat = B at *
  go_enter Try.func11, Try.ntmps11
  go_wp2_with fail
  refine h1.mono ?_
  rintro e w1 ⟨v, F, rfl, hf, hF, hz⟩
  obtain ⟨A, c, rfl, -⟩ := _root_.id hf
  have hso := sort_ints (l := B.map fun n : Nat => (n : Int)) (by simpa [natVals, Function.comp_def] using hf) (by omega)
  rw [hs] at hso
  go_wp2_with fail
  refine hso.mono ?_
  rintro e w2 ⟨rfl, hf2, hz2⟩
  go_wp2_with fail
  go_ret
  exact ⟨_, F, rfl, hf2, hF, hz.trans hz2 (fun g hg => .inr (hF g hg))⟩
end
end Go.Proofs.Ytaabkapjdmceaaa
