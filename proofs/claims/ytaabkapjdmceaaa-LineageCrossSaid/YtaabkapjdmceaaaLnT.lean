/- LineageCross. -/
import Derived.Test.YtaabkapjdmceaaaLnP
import Derived.Test.YtaabkapjdmceaaaLnR
namespace Go.Proofs.Ytaabkapjdmceaaa
open Go.RowKit Go.Vx Go.Maps Go.Sort
set_option linter.unusedVariables false
set_option linter.unusedSimpArgs false

/-- The versions of the law. -/
def crossL (m : Nat) : Nat → Lin0
  | 0 => chainL (fun _ => 0) m
  | 1 => addC (chainL (fun _ => 0) m) 0 ⟨#[97, 110, 110]⟩ [m]
  | 2 => addC (addC (chainL (fun _ => 0) m) 0 ⟨#[97, 110, 110]⟩ [m]) 0 ⟨#[98, 111, 98]⟩ [m]
  | 3 => addC (addC (addC (chainL (fun _ => 0) m) 0 ⟨#[97, 110, 110]⟩ [m]) 0 ⟨#[98, 111, 98]⟩ [m]) 0 ⟨#[97, 110, 110]⟩ [m + 1, m + 2]
  | _ => addC (addC (addC (addC (chainL (fun _ => 0) m) 0 ⟨#[97, 110, 110]⟩ [m]) 0 ⟨#[98, 111, 98]⟩ [m]) 0 ⟨#[97, 110, 110]⟩ [m + 1, m + 2]) 0 ⟨#[98, 111, 98]⟩ [m + 2, m + 1]
theorem cross_len (m : Nat) : (crossL m 0).length = m ∧ (crossL m 1).length = m + 1 ∧ (crossL m 2).length = m + 2 ∧ (crossL m 3).length = m + 3 ∧ (crossL m 4).length = m + 4 := by
  simp [crossL, addC, chain_len]
theorem cross_fact : ∀ k : Fin 21, basesL (crossL (k.val + 1) 4) (k.val + 1 + 3) (k.val + 1 + 4) = [k.val + 1 + 2, k.val + 1 + 1] ∧ basesL (crossL (k.val + 1) 4) (k.val + 1 + 1) (k.val + 1 + 2) = [k.val + 1] ∧ isL (crossL (k.val + 1) 4) (k.val + 1 + 3) (k.val + 1 + 4) = false ∧
    bestL (crossL (k.val + 1) 4) [k.val + 1 + 2, k.val + 1 + 1] = some (k.val + 1 + 1) := by decide +kernel
theorem sort_two (m : Nat) : ([m + 2, m + 1].mergeSort fun x y => decide (x ≤ y)) = [m + 1, m + 2] := by
  have h1 : (([m + 2, m + 1].mergeSort fun x y => decide (x ≤ y))).Perm [m + 1, m + 2] := (List.mergeSort_perm _ _).trans (List.Perm.swap _ _ _)
  refine h1.eq_of_pairwise (le := fun x y => x ≤ y) (fun a b _ _ h k => by omega) ?_ (by simp)
  exact (List.pairwise_mergeSort (le := fun x y : Nat => decide (x ≤ y)) (by simp; omega) (by simp; omega) [m + 2, m + 1]).imp (by simp)
set_option maxRecDepth 100000 in
set_option maxHeartbeats 4000000 in
theorem lineageCross_walk (first : Int) (wf : (Lit.int .i64 first).wf = true) (w : World) : Calls Try.prog 6 #[.int .i64 first] w fun e w' => e = .returned (.bool true) ∧ Chg [] w w' := by
  have hal := ln_alive
  by_cases h1 : first < 0
  · have hb1 : decide (first < 0) = true := by simpa using h1
    go_enter Try.func6, Try.ntmps6
    go_wp2_with fail
    refine (hal _).mono ?_
    rintro e w1 ⟨rfl, hz1⟩
    go_wp2_with fail
    go_ret
    exact ⟨rfl, hz1⟩
  by_cases h2 : 20 < first
  · have hb1 : decide (first < 0) = false := by simp; omega
    have hb2 : decide (20 < first) = true := by simpa using h2
    go_enter Try.func6, Try.ntmps6
    go_wp2_with fail
    refine (hal _).mono ?_
    rintro e w1 ⟨rfl, hz1⟩
    go_wp2_with fail
    go_ret
    exact ⟨rfl, hz1⟩
  have hb1 : decide (first < 0) = false := by simp; omega
  have hb2 : decide (20 < first) = false := by simp; omega
  obtain ⟨m, rfl⟩ : ∃ m : Nat, first = m := ⟨first.toNat, by omega⟩
  have hm : m ≤ 20 := by omega
  clear h1 h2
  go_enter Try.func6, Try.ntmps6
  go_wp2_with fail
  refine (hal _).mono ?_
  rintro e w1 ⟨rfl, hz1⟩
  go_wp2_with fail
  have h0 := LnNew.start w1 hz1
  generalize w1.alloc (.cells #[.slice none 0 0] 26) = wa at *
  generalize w1.heap.size = lp at *
  clear hal hb1 hb2 hz1
  go_loopw [4, 5] (fun rv iv wr => ∃ i : Nat, i ≤ m + 1 ∧ iv = .int .i64 i ∧ rv = .int .i64 i ∧ LnNew w wr lp (chainL (fun _ => 0) i)) (fun _ iv _ => m + 1 - (intOf iv).toNat)
  case atStart => exact ⟨0, by omega, rfl, rfl, h0⟩
  case round =>
    obtain ⟨i, hi, rfl, rfl, hL⟩ := hrel
    clear h0
    by_cases hlt : i < m + 1
    · have hadd := chain_add (f := fun _ : Nat => (0 : Int)) (n := i)
      by_cases hi0 : i = 0
      · subst hi0
        have ha := hL.addTo (Fix.nil wr 3 1) (l := []) 0 ⟨#[97, 110, 110]⟩ (by decide) (by omega) (by decide) (by decide) (by omega) (by simp) (by simp) (k := 1) rfl hadd
        clear hadd
        go_wp2_with fail
        refine ha.mono ?_
        rintro e w2 ⟨rfl, hL2⟩
        go_wp2_with fail
        go_roundw
        case measure => simp [intOf]
        case rel => exact ⟨1, by omega, rfl, rfl, hL2⟩
      · rw [if_neg hi0] at hadd
        have ha := fun w' (k : Chg [] wr w') (Bk : Nat) c (hf : Fix w' 3 1 (.slice (some ⟨Bk, 0, none⟩) 1 c) 1 [.int .i64 (i : Nat)] [Bk]) => (hL.keep k).addTo (l := [i]) hf 0 ⟨#[97, 110, 110]⟩ (by rw [chain_len]; omega) (by omega) (by decide) (by decide) (by omega) (by simp) (by simpa using chain_there.2 ⟨by omega, Nat.le_refl _⟩) (k := (i : Int) + 1) (by rw [chain_len]; omega) hadd
        clear hadd
        go_wp2_with fail
        refine (ha _ ((Chg.refl [] wr).alloc (.cells #[.int .i64 (i : Nat)] 3)) _ _ (Fix.lit1 wr 3 (.int .i64 (i : Nat)))).mono ?_
        rintro e w2 ⟨rfl, hL2⟩
        go_wp2_with fail
        go_roundw
        case measure => simp [intOf]; omega
        case rel => exact ⟨i + 1, by omega, by go_num, by go_num, hL2⟩
    · have hmi : m + 1 = i := by omega
      obtain ⟨hl0, hl1, hl2, hl3, hl4⟩ := cross_len i
      obtain ⟨hf1, hf2, hf3, hf4⟩ := cross_fact ⟨m, by omega⟩
      dsimp only at hf1 hf2 hf3 hf4
      rw [hmi] at hf1 hf2 hf3 hf4
      have hf5 : basesS (crossL i 4) (i + 3) (i + 4) = [i + 1, i + 2] := by unfold basesS; rw [hf1]; exact sort_two i
      have hf6 := basesS_one hf2
      have hf7 : bestL (crossL i 4) (basesL (crossL i 4) (i + 3) (i + 4)) = some (i + 1) := by rw [hf1, hf4]
      have hf8 : bestL (crossL i 4) (basesL (crossL i 4) (i + 1) (i + 2)) = some i := by rw [hf2]; rfl
      have hi1 : 1 ≤ i ∧ i ≤ 21 := by omega
      have hmi2 : ¬ (i : Int) ≤ m := by omega
      clear hf1 hf2 hf4 hi hlt wf hmi
      change LnNew w wr lp (crossL i 0) at hL
      have t1 : ∀ j, 1 ≤ j → j ≤ i → isThere (crossL i 0) j = true ∧ isThere (crossL i 1) j = true := fun j h1 h2 => ⟨isThere_iff.2 ⟨h1, by omega⟩, isThere_iff.2 ⟨h1, by omega⟩⟩
      have t3 : ∀ j, 1 ≤ j → j ≤ i + 2 → isThere (crossL i 2) j = true ∧ isThere (crossL i 3) j = true := fun j h1 h2 => ⟨isThere_iff.2 ⟨h1, by omega⟩, isThere_iff.2 ⟨h1, by omega⟩⟩
      go_wp2_with fail
      refine (LnNew.addTo (hL.keep ((Chg.refl [] wr).alloc _)) (Fix.lit1 wr 3 (.int .i64 (i : Nat))) (l := [i]) 0 ⟨#[97, 110, 110]⟩ (by omega) (by omega) (by decide) (by decide) (by omega) (by simp) (by simpa using (t1 i (by omega) (by omega)).1) (k := (i : Int) + 1) (C' := crossL i 1) (by omega) rfl).mono ?_
      rintro e w2 ⟨rfl, hL2⟩
      go_wp2_with fail
      refine (LnNew.addTo (hL2.keep ((Chg.refl [] w2).alloc _)) (Fix.lit1 w2 3 (.int .i64 (i : Nat))) (l := [i]) 0 ⟨#[98, 111, 98]⟩ (by omega) (by omega) (by decide) (by decide) (by omega) (by simp) (by simpa using (t1 i (by omega) (by omega)).2) (k := (i : Int) + 2) (C' := crossL i 2) (by omega) rfl).mono ?_
      rintro e w3 ⟨rfl, hL3⟩
      go_wp2_with fail
      have v3 := Fix.lit2 w3 3 (.int .i64 ((i : Int) + 1)) (.int .i64 ((i : Int) + 2))
      refine (LnNew.addTo (hL3.keep ((Chg.refl [] w3).alloc _)) (l := [i + 1, i + 2]) (by simpa [natVals] using v3) 0 ⟨#[97, 110, 110]⟩ (by omega) (by omega) (by decide) (by decide) (by omega) (by simp) (by simpa using ⟨(t3 (i + 1) (by omega) (by omega)).1, (t3 (i + 2) (by omega) (by omega)).1⟩) (k := (i : Int) + 3) (C' := crossL i 3) (by omega) rfl).mono ?_
      rintro e w4 ⟨rfl, hL4⟩
      go_wp2_with fail
      have v4 := Fix.lit2 w4 3 (.int .i64 ((i : Int) + 2)) (.int .i64 ((i : Int) + 1))
      refine (LnNew.addTo (hL4.keep ((Chg.refl [] w4).alloc _)) (l := [i + 2, i + 1]) (by simpa [natVals] using v4) 0 ⟨#[98, 111, 98]⟩ (by omega) (by omega) (by decide) (by decide) (by omega) (by simp) (by simpa using ⟨(t3 (i + 2) (by omega) (by omega)).2, (t3 (i + 1) (by omega) (by omega)).2⟩) (k := (i : Int) + 4) (C' := crossL i 4) (by omega) rfl).mono ?_
      rintro e w5 ⟨rfl, hL5⟩
      have hCl : (crossL i 4).length ≤ 400 := by omega
      have b1 := hL5.base hCl ((i : Int) + 3) ((i : Int) + 4)
      have b2 := fun w' (k : Chg [] w5 w') => (hL5.keep k).base hCl ((i : Int) + 1) ((i : Int) + 2)
      have b3 := fun w' (k : Chg [] w5 w') => (hL5.keep k).bases hCl ((i : Int) + 3) ((i : Int) + 4)
      have b4 := fun w' (k : Chg [] w5 w') => (hL5.keep k).bases hCl ((i : Int) + 1) ((i : Int) + 2)
      have b5 := fun w' (k : Chg [] w5 w') => (hL5.keep k).is hCl ((i : Int) + 3) ((i : Int) + 4)
      rw [show ((i : Int) + 3).toNat = i + 3 by omega, show ((i : Int) + 4).toNat = i + 4 by omega] at b1 b3 b5
      rw [show ((i : Int) + 1).toNat = i + 1 by omega, show ((i : Int) + 2).toNat = i + 2 by omega] at b2 b4
      rw [hf7] at b1
      rw [hf8] at b2
      rw [hf5] at b3
      rw [hf6] at b4
      rw [hf3] at b5
      have hz5 := hL5.chg
      clear hf3 hf5 hf6 hf7 hf8 hL hL2 hL3 hL4 hL5 t1 t3 hl0 hl1 hl2 hl3 hl4 hCl v3 v4
      simp only [Option.getD_some, Option.isSome_some] at b1 b2
      go_wp2_with fail
      refine b1.mono ?_
      rintro e w6 ⟨rfl, hz6⟩
      go_wp2_with fail
      refine (b2 _ hz6).mono ?_
      rintro e w7 ⟨rfl, hz7⟩
      replace hz7 := hz6.trans' hz7
      go_wp2_with fail
      refine (b3 _ hz7).mono ?_
      rintro e w8 ⟨v8, F8, rfl, hf8, -, hz8⟩
      obtain ⟨A8, c8, rfl, -⟩ := _root_.id hf8
      have s8 := ln_same (l := [i + 1, i + 2]) (c := c8) (d := 2) (Fix.src (hf8.alloc (.cells #[.int .i64 ((i + 1 : Nat) : Int), .int .i64 ((i + 2 : Nat) : Int)] 3))) (Src.lit (m := 2) rfl rfl) (by simp)
      replace hz8 := hz7.trans' hz8
      go_wp2_with fail
      refine s8.mono ?_
      rintro e w9 ⟨rfl, hz9⟩
      replace hz9 := (hz8.alloc (.cells #[.int .i64 ((i + 1 : Nat) : Int), .int .i64 ((i + 2 : Nat) : Int)] 3)).trans' hz9
      go_wp2_with fail
      refine (b4 _ hz9).mono ?_
      rintro e w10 ⟨v10, F10, rfl, hf10, -, hz10⟩
      obtain ⟨A10, c10, rfl, -⟩ := _root_.id hf10
      have s10 := ln_same (l := [i]) (c := c10) (d := 1) (Fix.src (hf10.alloc (.cells #[.int .i64 (i : Nat)] 3))) (Src.one1 rfl) (by simp)
      replace hz10 := hz9.trans' hz10
      go_wp2_with fail
      refine s10.mono ?_
      rintro e w11 ⟨rfl, hz11⟩
      replace hz11 := (hz10.alloc (.cells #[.int .i64 (i : Nat)] 3)).trans' hz11
      go_wp2_with fail
      refine (b5 _ hz11).mono ?_
      rintro e w12 ⟨rfl, hz12⟩
      go_wp2_with fail
      go_ret
      exact ⟨rfl, hz5.trans' (hz11.trans' hz12)⟩
end Go.Proofs.Ytaabkapjdmceaaa
