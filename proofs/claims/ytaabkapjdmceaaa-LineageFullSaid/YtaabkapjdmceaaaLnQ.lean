/- LineageFull. -/
import Derived.Test.YtaabkapjdmceaaaLnP
namespace Go.Proofs.Ytaabkapjdmceaaa
open Go.RowKit Go.Vx Go.Maps Go.Sort
set_option linter.unusedVariables false
set_option linter.unusedSimpArgs false

theorem addC_len (C : Lin0) (r : Int) (a : ByteArray) (l : List Nat) : (addC C r a l).length = C.length + 1 := by simp [addC]
set_option maxRecDepth 100000 in
set_option maxHeartbeats 4000000 in
theorem lineageFull_walk (more : Int) (wf : (Lit.int .i64 more).wf = true) (w : World) : Calls Try.prog 3 #[.int .i64 more] w fun e w' => e = .returned (.bool true) ∧ Chg [] w w' := by
  have hal := ln_alive
  by_cases h1 : more < 1
  · have hb1 : decide (more < 1) = true := by simpa using h1
    go_enter Try.func3, Try.ntmps3
    go_wp2_with fail
    refine (hal _).mono ?_
    rintro e w1 ⟨rfl, hz1⟩
    go_wp2_with fail
    go_ret
    exact ⟨rfl, hz1⟩
  by_cases h2 : 5 < more
  · have hb1 : decide (more < 1) = false := by simp; omega
    have hb2 : decide (5 < more) = true := by simpa using h2
    go_enter Try.func3, Try.ntmps3
    go_wp2_with fail
    refine (hal _).mono ?_
    rintro e w1 ⟨rfl, hz1⟩
    go_wp2_with fail
    go_ret
    exact ⟨rfl, hz1⟩
  have hb1 : decide (more < 1) = false := by simp; omega
  have hb2 : decide (5 < more) = false := by simp; omega
  obtain ⟨m, rfl⟩ : ∃ m : Nat, more = m := ⟨more.toNat, by omega⟩
  have hm1 : 1 ≤ m := by omega
  have hm5 : m ≤ 5 := by omega
  clear h1 h2
  go_enter Try.func3, Try.ntmps3
  go_wp2_with fail
  refine (hal _).mono ?_
  rintro e w1 ⟨rfl, hz1⟩
  go_wp2_with fail
  have h0 := LnNew.start w1 hz1
  generalize w1.alloc (.cells #[.slice none 0 0] 26) = wa at *
  generalize w1.heap.size = lp at *
  clear hal hb1 hb2 hz1
  go_loopw [4] (fun iv wr => ∃ (i : Nat) (C : Lin0), i ≤ 400 + m ∧ iv = .int .i64 ((i + 1 : Nat) : Int) ∧ C.length = min i 400 ∧ LnNew w wr lp C) (fun iv _ => 402 + m - (intOf iv).toNat)
  case atStart => exact ⟨0, [], by omega, rfl, by simp, h0⟩
  case round =>
    obtain ⟨i, C, hi, rfl, hC, hL⟩ := hrel
    clear h0
    by_cases hlt : i < 400 + m
    · have hth : ∀ j : Nat, 1 ≤ j → j ≤ min i 400 → isThere C j = true := fun j h1 h2 => isThere_iff.2 ⟨h1, by omega⟩
      by_cases hi0 : i = 0
      · subst hi0
        have hC0 : C = [] := List.eq_nil_of_length_eq_zero (by simpa using hC)
        subst hC0
        have ha := hL.addTo (Fix.nil wr 3 1) (l := []) 0 ⟨#[97, 110, 110]⟩ (by decide) (by omega) (by decide) (by decide) (by omega) (by simp) (by simp) (k := 1) rfl c1_add
        go_wp2_with fail
        refine ha.mono ?_
        rintro e w2 ⟨rfl, hL2⟩
        go_wp2_with fail
        go_roundw
        case measure => simp [intOf]; omega
        case rel => exact ⟨1, C1, by omega, rfl, rfl, hL2⟩
      · by_cases hi4 : i < 400
        · have ha := fun w' (k : Chg [] wr w') (Bk : Nat) c (hf : Fix w' 3 1 (.slice (some ⟨Bk, 0, none⟩) 1 c) 1 [.int .i64 (i : Nat)] [Bk]) => (hL.keep k).addTo (l := [i]) hf 0 ⟨#[97, 110, 110]⟩ (by omega) (by omega) (by decide) (by decide) (by omega) (by simp) (by simpa using hth i (by omega) (by omega)) (k := ((i + 1 : Nat) : Int)) (by rw [hC]; omega) rfl
          have hmin : min (i : Int) 400 = i := by omega
          go_wp2_with fail
          refine (ha _ ((Chg.refl [] wr).alloc (.cells #[.int .i64 (i : Nat)] 3)) _ _ (Fix.lit1 wr 3 (.int .i64 (i : Nat)))).mono ?_
          rintro e w2 ⟨rfl, hL2⟩
          go_wp2_with fail
          go_roundw
          case measure => simp [intOf]; omega
          case rel => exact ⟨i + 1, _, by omega, by go_num, by rw [addC_len, hC]; omega, hL2⟩
        · have ha := fun w' (k : Chg [] wr w') (Bk : Nat) c (hf : Fix w' 3 1 (.slice (some ⟨Bk, 0, none⟩) 1 c) 1 [.int .i64 (400 : Nat)] [Bk]) => (hL.keep k).addFull (l := [400]) hf 0 ⟨#[97, 110, 110]⟩ (by omega) (by omega) (by decide) (by decide) (by omega) (by simp) (by simpa using hth 400 (by omega) (by omega))
          have hmin : min (i : Int) 400 = 400 := by omega
          go_wp2_with fail
          refine (ha _ ((Chg.refl [] wr).alloc (.cells #[.int .i64 (400 : Nat)] 3)) _ _ (Fix.lit1 wr 3 (.int .i64 (400 : Nat)))).mono ?_
          rintro e w2 ⟨rfl, hL2⟩
          go_wp2_with fail
          go_roundw
          case measure => simp [intOf]; omega
          case rel => exact ⟨i + 1, C, by omega, by go_num, by rw [hC]; omega, hL2⟩
    · obtain rfl : i = 400 + m := by omega
      have hC4 : C.length = 400 := by omega
      have hl := hL.len
      rw [hC4] at hl
      go_wp2_with fail
      refine hl.mono ?_
      rintro e w2 ⟨rfl, rfl⟩
      go_wp2_with fail
      go_ret
      exact ⟨rfl, hL.chg⟩
end Go.Proofs.Ytaabkapjdmceaaa
