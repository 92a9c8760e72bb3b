/- TermYears. -/
import Derived.Test.YtpiaijnjglhggaaDoorTmG
import Derived.Test.YtpiaijnjglhggaaDoorTmL
import Derived.Laws.Cover1
namespace Go.Proofs.YtpiaijnjglhggaaDoor
open Go.RowKit Go.Vx
set_option linter.unusedVariables false
set_option linter.unusedSimpArgs false

set_option maxRecDepth 8000 in
set_option maxHeartbeats 4000000 in
theorem termYears_far {w : World} (ht : Tab w) (y : Int) (h : decide (y < 2000) = true ∨ (decide (y < 2000) = false ∧ decide (2099 < y) = true)) :
    Calls Tryd.prog 5 #[.int .i64 y] w fun e w' => e = .returned (.bool true) ∧ Chg [] w w' := by
  have ha := tm_alive ht
  rcases h with b1 | ⟨b1, b2⟩
  all_goals
    go_enter Tryd.func5, Tryd.ntmps5
    go_wp2_with fail
    refine ha.mono ?_
    rintro e w1 ⟨rfl, hc1⟩
    dsimp only
    go_wp2_with fail
    go_ret
    exact ⟨by trivial, hc1⟩
/-- What a round asks: the month m of the year y stands at p. -/
def Round (y m p : Int) : Prop :=
  ofC y m = (p, 0) ∧ yearC p = y ∧ monthC p = m ∧
    ((decide (m < 12) = true ∧ onC p 1 = (p + 1, 0) ∧ yearC (p + 1) = y ∧ monthC (p + 1) = m + 1 ∧ p < 1199) ∨
     (m = 12 ∧ onC p 1 = (p + 1, 0) ∧ monthC (p + 1) = 1 ∧ p < 1199) ∨
     (m = 12 ∧ p = 1199 ∧ onC p 1 = (0, 1)))
theorem round_is (y m : Int) (h0 : 2000 ≤ y) (h1 : y ≤ 2099) (h2 : 1 ≤ m) (h3 : m ≤ 12) : Round y m (12 * (y - 2000) + m - 1) := by
  have ho : okM (12 * (y - 2000) + m - 1) = true := okM_yes (by omega) (by omega)
  unfold Round
  refine ⟨?_, ?_, ?_, ?_⟩
  · unfold ofC
    rw [if_pos (by simp; omega)]
  · unfold yearC
    rw [if_pos ho]
    omega
  · unfold monthC
    rw [if_pos ho]
    omega
  · have hon : 12 * (y - 2000) + m - 1 < 1199 → onC (12 * (y - 2000) + m - 1) 1 = (12 * (y - 2000) + m - 1 + 1, 0) := fun h => by
      unfold onC
      rw [ho, if_pos (by simp; omega)]
    by_cases h4 : m < 12
    · left
      have ho2 : okM (12 * (y - 2000) + m - 1 + 1) = true := okM_yes (by omega) (by omega)
      refine ⟨by simp [h4], hon (by omega), ?_, ?_, by omega⟩
      · unfold yearC
        rw [if_pos ho2]
        omega
      · unfold monthC
        rw [if_pos ho2]
        omega
    · right
      obtain rfl : m = 12 := by omega
      by_cases h5 : y < 2099
      · left
        have ho2 : okM (12 * (y - 2000) + 12 - 1 + 1) = true := okM_yes (by omega) (by omega)
        refine ⟨rfl, hon (by omega), ?_, by omega⟩
        unfold monthC
        rw [if_pos ho2]
        omega
      · right
        obtain rfl : y = 2099 := by omega
        exact ⟨rfl, rfl, by decide⟩
set_option maxRecDepth 8000 in
set_option maxHeartbeats 4000000 in
theorem termYears_near {w : World} (ht : Tab w) (y : Int) (y0 : 2000 ≤ y) (y1 : y ≤ 2099) :
    Calls Tryd.prog 5 #[.int .i64 y] w fun e w' => e = .returned (.bool true) ∧ Chg [] w w' := by
  have ha := tm_alive ht
  have b1 : decide (y < 2000) = false := by simp; omega
  have b2 : decide (2099 < y) = false := by simp; omega
  have hz0 := tm_of y 0
  rw [show ofC y 0 = (0, 1) by unfold ofC; simp] at hz0
  have hz13 := tm_of y 13
  rw [show ofC y 13 = (0, 1) by unfold ofC; simp] at hz13
  go_enter Tryd.func5, Tryd.ntmps5
  go_wp2_with fail
  refine ha.mono ?_
  rintro e w1 ⟨rfl, hc1⟩
  dsimp only
  go_wp2_with fail
  go_loopw [3] (fun iv wr => ∃ k : Nat, iv = .int .i64 ((k : Int) + 1) ∧ k ≤ 12 ∧ Chg [] w wr) (fun iv _ => 13 - (intOf iv).toNat)
  case atStart => exact ⟨0, rfl, by omega, hc1⟩
  case round =>
    obtain ⟨k, rfl, hk, hc⟩ := hrel
    by_cases hlt : k < 12
    · have htr := ht.chg hc
      have hr := round_is y ((k : Int) + 1) y0 y1 (by omega) (by omega)
      have hp0 : 0 ≤ 12 * (y - 2000) + ((k : Int) + 1) - 1 := by omega
      have hp1 : 12 * (y - 2000) + ((k : Int) + 1) - 1 ≤ 1199 := by omega
      have hor := tm_of y ((k : Int) + 1)
      have hm1 : 1 ≤ (k : Int) + 1 := by omega
      have hm2 : (k : Int) + 1 ≤ 12 := by omega
      have hms : ∀ wr', ((k : Int) + 1 + 1) = (((k + 1 : Nat) : Int) + 1) ∧ wr' = wr' := fun _ => ⟨by omega, rfl⟩
      have bm : decide ((k : Int) + 1 ≤ 12) = true := by simp; omega
      generalize hmm : (k : Int) + 1 = m at *
      generalize 12 * (y - 2000) + m - 1 = p at *
      have hsz := text_size p hp0 hp1
      have hye := tm_year p
      have hmo := tm_month p
      have hte : ∀ w, Tab w → _ := fun w h => tm_text (w := w) h p
      have hte2 : ∀ w, Tab w → _ := fun w h => tm_text (w := w) h (p + 1)
      have hye2 := tm_year (p + 1)
      have hmo2 := tm_month (p + 1)
      have hsh := tm_shift p 1
      unfold Round at hr
      obtain ⟨e1, e2, e3, hr⟩ := hr
      rw [e1] at hor
      rw [e2] at hye
      rw [e3] at hmo
      clear e1 e2 e3
      rcases hr with ⟨c1, e4, e5, e6, plt⟩ | ⟨rfl, e4, e6, plt⟩ | ⟨rfl, rfl, e4⟩
      · rw [e4] at hsh
        rw [e5] at hye2
        rw [e6] at hmo2
        clear e4 e5 e6
        have c2 : decide (m = 12) = false := by simp at c1 ⊢; omega
        have c3 : m ≠ 12 := by simpa using c2
        obtain ⟨l1, l2⟩ := text_order p hp0 plt
        generalize textC (p + 1) = Q at *
        generalize textC p = P at *
        have ht_wr := htr
        go_wp2_with fail
        refine (hor _).mono ?_
        rintro e w2 ⟨rfl, rfl⟩
        dsimp only
        go_wp2_with fail
        refine (hye _).mono ?_
        rintro e wa ⟨rfl, hc_wa⟩
        dsimp only
        have ht_wa := ht_wr.chg hc_wa
        go_wp2_with fail
        refine (hmo _).mono ?_
        rintro e wb ⟨rfl, hc_wb⟩
        dsimp only
        have ht_wb := ht_wa.chg hc_wb
        go_wp2_with fail
        refine (hte _ ht_wb).mono ?_
        rintro e wc ⟨rfl, hc_wc⟩
        dsimp only
        have ht_wc := ht_wb.chg hc_wc
        go_wp2_with fail
        refine (hsh _).mono ?_
        rintro e w2 ⟨rfl, rfl⟩
        dsimp only
        go_wp2_with fail
        refine (hte2 _ ht_wc).mono ?_
        rintro e wd ⟨rfl, hc_wd⟩
        dsimp only
        have ht_wd := ht_wc.chg hc_wd
        go_wp2_with fail
        refine (hte _ ht_wd).mono ?_
        rintro e we ⟨rfl, hc_we⟩
        dsimp only
        have ht_we := ht_wd.chg hc_we
        go_wp2_with fail
        refine (hye2 _).mono ?_
        rintro e wf ⟨rfl, hc_wf⟩
        dsimp only
        have ht_wf := ht_we.chg hc_wf
        go_wp2_with fail
        refine (hmo2 _).mono ?_
        rintro e wg ⟨rfl, hc_wg⟩
        dsimp only
        have ht_wg := ht_wf.chg hc_wg
        go_wp2_with fail
        go_roundw
        case measure => simp [intOf]; omega
        case rel => exact ⟨k + 1, by go_num, by omega, ((((((hc.trans' hc_wa).trans' hc_wb).trans' hc_wc).trans' hc_wd).trans' hc_we).trans' hc_wf).trans' hc_wg⟩
      · rw [e4] at hsh
        rw [e6] at hmo2
        clear e4 e6
        obtain ⟨l1, l2⟩ := text_order p hp0 plt
        generalize textC (p + 1) = Q at *
        generalize textC p = P at *
        have ht_wr := htr
        go_wp2_with fail
        refine (hor _).mono ?_
        rintro e w2 ⟨rfl, rfl⟩
        dsimp only
        go_wp2_with fail
        refine (hye _).mono ?_
        rintro e wa ⟨rfl, hc_wa⟩
        dsimp only
        have ht_wa := ht_wr.chg hc_wa
        go_wp2_with fail
        refine (hmo _).mono ?_
        rintro e wb ⟨rfl, hc_wb⟩
        dsimp only
        have ht_wb := ht_wa.chg hc_wb
        go_wp2_with fail
        refine (hte _ ht_wb).mono ?_
        rintro e wc ⟨rfl, hc_wc⟩
        dsimp only
        have ht_wc := ht_wb.chg hc_wc
        go_wp2_with fail
        refine (hsh _).mono ?_
        rintro e w2 ⟨rfl, rfl⟩
        dsimp only
        go_wp2_with fail
        refine (hte2 _ ht_wc).mono ?_
        rintro e wd ⟨rfl, hc_wd⟩
        dsimp only
        have ht_wd := ht_wc.chg hc_wd
        go_wp2_with fail
        refine (hte _ ht_wd).mono ?_
        rintro e we ⟨rfl, hc_we⟩
        dsimp only
        have ht_we := ht_wd.chg hc_we
        go_wp2_with fail
        refine (hmo2 _).mono ?_
        rintro e wf ⟨rfl, hc_wf⟩
        dsimp only
        have ht_wf := ht_we.chg hc_wf
        go_wp2_with fail
        go_roundw
        case measure => simp [intOf]; omega
        case rel => exact ⟨k + 1, by go_num, by omega, (((((hc.trans' hc_wa).trans' hc_wb).trans' hc_wc).trans' hc_wd).trans' hc_we).trans' hc_wf⟩
      · rw [e4] at hsh
        clear e4
        generalize textC 1199 = P at *
        have ht_wr := htr
        go_wp2_with fail
        refine (hor _).mono ?_
        rintro e w2 ⟨rfl, rfl⟩
        dsimp only
        go_wp2_with fail
        refine (hye _).mono ?_
        rintro e wa ⟨rfl, hc_wa⟩
        dsimp only
        have ht_wa := ht_wr.chg hc_wa
        go_wp2_with fail
        refine (hmo _).mono ?_
        rintro e wb ⟨rfl, hc_wb⟩
        dsimp only
        have ht_wb := ht_wa.chg hc_wb
        go_wp2_with fail
        refine (hte _ ht_wb).mono ?_
        rintro e wc ⟨rfl, hc_wc⟩
        dsimp only
        have ht_wc := ht_wb.chg hc_wc
        go_wp2_with fail
        refine (hsh _).mono ?_
        rintro e w2 ⟨rfl, rfl⟩
        dsimp only
        go_wp2_with fail
        go_roundw
        case measure => simp [intOf]; omega
        case rel => exact ⟨k + 1, by go_num, by omega, ((hc.trans' hc_wa).trans' hc_wb).trans' hc_wc⟩
    · obtain rfl : k = 12 := by omega
      go_wp2_with fail
      refine (hz0 _).mono ?_
      rintro e w2 ⟨rfl, rfl⟩
      dsimp only
      go_wp2_with fail
      refine (hz13 _).mono ?_
      rintro e w2 ⟨rfl, rfl⟩
      dsimp only
      go_wp2_with fail
      go_ret
      exact ⟨by trivial, hc⟩
theorem termYears_walkL {w : World} (ht : Tab w) (y : Int) (_ : (Lit.int .i64 y).wf = true) :
    Calls Tryd.prog 5 #[.int .i64 y] w fun e w' => e = .returned (.bool true) ∧ Chg [] w w' := by
  by_cases h : 2000 ≤ y ∧ y ≤ 2099
  · exact termYears_near ht y h.1 h.2
  · refine termYears_far ht y ?_
    simp only [decide_eq_true_eq, decide_eq_false_iff_not]
    omega
end Go.Proofs.YtpiaijnjglhggaaDoor
