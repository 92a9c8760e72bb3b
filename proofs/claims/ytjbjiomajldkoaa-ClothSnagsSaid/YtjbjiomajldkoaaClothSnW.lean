/- ClothSnags: the statement's own walk. -/
import Derived.Test.YtjbjiomajldkoaaClothSn
namespace Go.Proofs.Ytjbjiomajldkoaa
open Go.RowKit Go.Vx
set_option linter.unusedVariables false
set_option linter.unusedSimpArgs false

set_option maxHeartbeats 1000000 in
theorem snags_out (n m : Int) (back : Bool) (w : World) (h : n < 0 ∨ (0 ≤ n ∧ 30 < n) ∨ (0 ≤ n ∧ n ≤ 30 ∧ m < 0) ∨ (0 ≤ n ∧ n ≤ 30 ∧ 0 ≤ m ∧ 40 < m)) : Calls Try.prog 5 #[.int .i64 n, .int .i64 m, .bool back] w (AlivePost w) := by
  rcases h with h | ⟨h1, h⟩ | ⟨h1, h2, h⟩ | ⟨h1, h2, h3, h⟩
  all_goals
    go_enter Try.func5, Try.ntmps5
    go_wp2_with (go_at_call 8; refine (alive_at _).mono ?_; rintro e w1 ⟨rfl, hw1⟩)
    go_ret
    exact ⟨rfl, hw1⟩
theorem snag_inv (n : Int) (back : Bool) (h1 : 0 ≤ n) : SnInv n back 0 (if back then (ClothS.snag ⟨[em, em, em], [], false, false, 0, []⟩ n []).snag (-1) [] else ClothS.snag ⟨[em, em, em], [], false, false, 0, []⟩ n []) := by
  cases back
  · exact ⟨rfl, by simp [RowsOk, ClothS.snag], by simp [ClothS.snag], rfl, by simp [ClothS.snag]; omega, by simp [ClothS.snag]; omega⟩
  · exact ⟨rfl, by simp [RowsOk, ClothS.snag], by simp [ClothS.snag], rfl, by simp [ClothS.snag], by simp [ClothS.snag]⟩
set_option maxHeartbeats 2000000 in
theorem snags_in (n m : Int) (back : Bool) (w : World) (h1 : 0 ≤ n) (h2 : n ≤ 30) (h3 : 0 ≤ m) (h4 : m ≤ 40) : Calls Try.prog 5 #[.int .i64 n, .int .i64 m, .bool back] w (AlivePost w) := by
  have b1 : decide (n < 0) = false := by simpa using h1
  have b2 : decide (30 < n) = false := by simpa using h2
  have b3 : decide (m < 0) = false := by simpa using h3
  have b4 : decide (40 < m) = false := by simpa using h4
  have hI := snag_inv n back h1
  go_enter Try.func5, Try.ntmps5
  go_wp2_with (go_at_call 8; refine (alive_at _).mono ?_; rintro e w1 ⟨rfl, hw1⟩)
  refine (new_at 3 _).mono ?_
  rintro e w2 ⟨p, pr, F, rfl, hc2, hw2, hF⟩
  replace hc2 : ClothAt w2 p pr (.slice none 0 0) (.slice none 0 0) ⟨[em, em, em], [], false, false, 0, []⟩ F [] [] := hc2
  have hz2 : Chg [] w w2 := hw1.trans hw2 (by simp)
  have hF2 : ∀ g, g ∈ p :: F → w.heap.size ≤ g := fun g hg => Nat.le_trans hw1.size (hF g hg)
  clear hw1 hw2 hF
  go_wp2_with fail
  refine (snag_at hc2 n (A := none) (m := 0) (k := 0) (keep := []) ⟨rfl, by simp⟩ (by decide)).mono ?_
  rintro e w3 ⟨lo3, ke3, G3, H3, rfl, hc3, hw3, hG3, hH3⟩
  have hz3 : Chg [] w w3 := hz2.trans hw3 (by intro g hg; simp at hg; subst hg; exact .inr (hF2 _ (by simp)))
  have hB3 : ∀ g, g ∈ p :: (F ++ G3 ++ H3) → w.heap.size ≤ g := foot_sub (F := F) (G := []) (H := []) (by simpa using hF2) hz2.size hG3 hH3
  clear hc2 hz2 hw3 hG3 hH3
  cases back with
  | false =>
    simp only [Bool.false_eq_true, if_false] at hI
    go_wp2_with fail
    go_loopw [8] (fun i wr => ∃ (k : Nat) (pr lo ke : Value) (c : ClothS) (F G H : List Nat), (k : Int) ≤ m ∧ i = .int .i64 k ∧ ClothAt wr p pr lo ke c F G H ∧ SnInv n false k c ∧ Chg [] w wr ∧ (∀ g, g ∈ p :: (F ++ G ++ H) → w.heap.size ≤ g)) (fun i _ => m.toNat - (intOf i).toNat)
    case atStart => exact ⟨0, pr, lo3, ke3, _, F, G3, H3, h3, rfl, hc3, hI, hz3, hB3⟩
    case round =>
      obtain ⟨k, pr, lo, ke, c, F, G, H, hk, rfl, hc, hIk, hz, hB⟩ := hrel
      have hzs := hz.size
      by_cases hlt : (k : Int) < m
      · by_cases hm4 : (k : Int) % 4 = 3
        · have hb4 : ((k : Int) % 4 == 3) = true := by simpa using hm4
          go_wp2_with fail
          refine (sn_press hc hIk hB hzs (by omega) (by omega) h2).mono ?_
          rintro e w5 ⟨pr5, lo5, ke5, c5, F5, G5, H5, rfl, hc5, hI5, ht5, ⟨S, hS, hSB⟩, hB5⟩
          have hz5 : Chg [] w w5 := hz.trans hS (fun g hg => .inr (hSB g hg))
          clear hc hIk hB hz hS hSB
          by_cases hnk : n ≤ (k : Int)
          · have e14 : snWant n false k = 14 := by simp [snWant, hnk]
            have hbn : decide (n ≤ (k : Int)) = true := by simpa using hnk
            rw [e14] at ht5 ⊢
            go_wp2_with (go_at_call 17; refine (on_at hc5).mono ?_; rintro e w6 ⟨rfl, rfl⟩; rw [ht5])
            go_roundw
            case measure => simp [intOf]; omega
            case rel => exact ⟨k + 1, pr5, lo5, ke5, c5, F5, G5, H5, by omega, by go_num, hc5, hI5, hz5, hB5⟩
          · have e0 : snWant n false k = 0 := by simp [snWant, hnk]
            have hbn : decide (n ≤ (k : Int)) = false := by simpa using hnk
            rw [e0] at ht5 ⊢
            go_wp2_with (go_at_call 17; refine (on_at hc5).mono ?_; rintro e w6 ⟨rfl, rfl⟩; rw [ht5])
            go_roundw
            case measure => simp [intOf]; omega
            case rel => exact ⟨k + 1, pr5, lo5, ke5, c5, F5, G5, H5, by omega, by go_num, hc5, hI5, hz5, hB5⟩
        · have hb4 : ((k : Int) % 4 == 3) = false := by simpa using hm4
          go_wp2_with fail
          refine (sn_weave hc hIk hB hzs (by omega) (by omega) h2 _ (by omega) (by omega)).mono ?_
          rintro e w5 ⟨pr5, lo5, ke5, c5, F5, G5, H5, rfl, hc5, hI5, ht5, ⟨S, hS, hSB⟩, hB5⟩
          have hz5 : Chg [] w w5 := hz.trans hS (fun g hg => .inr (hSB g hg))
          clear hc hIk hB hz hS hSB
          by_cases hnk : n ≤ (k : Int)
          · have e14 : snWant n false k = 14 := by simp [snWant, hnk]
            have hbn : decide (n ≤ (k : Int)) = true := by simpa using hnk
            rw [e14] at ht5 ⊢
            go_wp2_with (go_at_call 17; refine (on_at hc5).mono ?_; rintro e w6 ⟨rfl, rfl⟩; rw [ht5])
            go_roundw
            case measure => simp [intOf]; omega
            case rel => exact ⟨k + 1, pr5, lo5, ke5, c5, F5, G5, H5, by omega, by go_num, hc5, hI5, hz5, hB5⟩
          · have e0 : snWant n false k = 0 := by simp [snWant, hnk]
            have hbn : decide (n ≤ (k : Int)) = false := by simpa using hnk
            rw [e0] at ht5 ⊢
            go_wp2_with (go_at_call 17; refine (on_at hc5).mono ?_; rintro e w6 ⟨rfl, rfl⟩; rw [ht5])
            go_roundw
            case measure => simp [intOf]; omega
            case rel => exact ⟨k + 1, pr5, lo5, ke5, c5, F5, G5, H5, by omega, by go_num, hc5, hI5, hz5, hB5⟩
      · go_wp2
        go_ret
        exact ⟨rfl, hz⟩
  | true =>
    simp only [if_true] at hI
    go_wp2_with fail
    refine (snag_at hc3 (-1) (A := none) (m := 0) (k := 0) (keep := []) ⟨rfl, by simp⟩ (by decide)).mono ?_
    rintro e w4 ⟨lo4, ke4, G4, H4, rfl, hc4, hw4, hG4, hH4⟩
    have hz4 : Chg [] w w4 := hz3.trans hw4 (by intro g hg; simp at hg; subst hg; exact .inr (hB3 _ (by simp)))
    have hB4 : ∀ g, g ∈ p :: (F ++ G4 ++ H4) → w.heap.size ≤ g := foot_sub (F := F) hB3 hz3.size hG4 hH4
    clear hc3 hz3 hB3 hw4 hG4 hH4
    go_wp2_with fail
    go_loopw [8] (fun i wr => ∃ (k : Nat) (pr lo ke : Value) (c : ClothS) (F G H : List Nat), (k : Int) ≤ m ∧ i = .int .i64 k ∧ ClothAt wr p pr lo ke c F G H ∧ SnInv n true k c ∧ Chg [] w wr ∧ (∀ g, g ∈ p :: (F ++ G ++ H) → w.heap.size ≤ g)) (fun i _ => m.toNat - (intOf i).toNat)
    case atStart => exact ⟨0, pr, lo4, ke4, _, F, G4, H4, h3, rfl, hc4, hI, hz4, hB4⟩
    case round =>
      obtain ⟨k, pr, lo, ke, c, F, G, H, hk, rfl, hc, hIk, hz, hB⟩ := hrel
      have hzs := hz.size
      by_cases hlt : (k : Int) < m
      · by_cases hm4 : (k : Int) % 4 = 3
        · have hb4 : ((k : Int) % 4 == 3) = true := by simpa using hm4
          go_wp2_with fail
          refine (sn_press hc hIk hB hzs (by omega) (by omega) h2).mono ?_
          rintro e w5 ⟨pr5, lo5, ke5, c5, F5, G5, H5, rfl, hc5, hI5, ht5, ⟨S, hS, hSB⟩, hB5⟩
          have hz5 : Chg [] w w5 := hz.trans hS (fun g hg => .inr (hSB g hg))
          clear hc hIk hB hz hS hSB
          have e0 : snWant n true k = 0 := by simp [snWant]
          rw [e0] at ht5 ⊢
          go_wp2_with (go_at_call 17; refine (on_at hc5).mono ?_; rintro e w6 ⟨rfl, rfl⟩; rw [ht5])
          go_roundw
          case measure => simp [intOf]; omega
          case rel => exact ⟨k + 1, pr5, lo5, ke5, c5, F5, G5, H5, by omega, by go_num, hc5, hI5, hz5, hB5⟩
        · have hb4 : ((k : Int) % 4 == 3) = false := by simpa using hm4
          go_wp2_with fail
          refine (sn_weave hc hIk hB hzs (by omega) (by omega) h2 _ (by omega) (by omega)).mono ?_
          rintro e w5 ⟨pr5, lo5, ke5, c5, F5, G5, H5, rfl, hc5, hI5, ht5, ⟨S, hS, hSB⟩, hB5⟩
          have hz5 : Chg [] w w5 := hz.trans hS (fun g hg => .inr (hSB g hg))
          clear hc hIk hB hz hS hSB
          have e0 : snWant n true k = 0 := by simp [snWant]
          rw [e0] at ht5 ⊢
          go_wp2_with (go_at_call 17; refine (on_at hc5).mono ?_; rintro e w6 ⟨rfl, rfl⟩; rw [ht5])
          go_roundw
          case measure => simp [intOf]; omega
          case rel => exact ⟨k + 1, pr5, lo5, ke5, c5, F5, G5, H5, by omega, by go_num, hc5, hI5, hz5, hB5⟩
      · go_wp2
        go_ret
        exact ⟨rfl, hz⟩
theorem clothSnags_walk (n : Int) (w0 : (Lit.int .i64 n).wf = true) (m : Int) (w1 : (Lit.int .i64 m).wf = true) (back : Bool) (w : World) :
    Calls Try.prog 5 #[.int .i64 n, .int .i64 m, .bool back] w fun e w' => e = .returned (.bool true) ∧ Chg [] w w' := by
  by_cases h : 0 ≤ n ∧ n ≤ 30 ∧ 0 ≤ m ∧ m ≤ 40
  · exact snags_in n m back w h.1 h.2.1 h.2.2.1 h.2.2.2
  · exact snags_out n m back w (by omega)
end Go.Proofs.Ytjbjiomajldkoaa
