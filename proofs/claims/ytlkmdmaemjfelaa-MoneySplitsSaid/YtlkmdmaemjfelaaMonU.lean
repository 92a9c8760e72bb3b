/- MoneyAdds. -/
import Derived.Test.YtlkmdmaemjfelaaMonF
import Derived.Test.YtlkmdmaemjfelaaMonT
namespace Go.Proofs.Ytlkmdmaemjfelaa
open Go.RowKit Go.Vx
set_option linter.unusedVariables false
set_option linter.unusedSimpArgs false

theorem r_fits (a : Int) (w : World) : Calls Try.prog 22 #[.int .i64 a] w fun e w' => e = .returned (.bool (okM a)) ∧ w = w' := by
  by_cases h1 : a < -1000000000000000
  · have e : okM a = false := okM_not.2 (.inl h1)
    have b1 : decide (-1000000000000000 ≤ a) = false := by simp; omega
    rw [e]
    go_enter Try.func22, Try.ntmps22
    go_wp2
    go_ret
    exact ⟨by trivial, rfl⟩
  have b1 : decide (-1000000000000000 ≤ a) = true := by simp; omega
  by_cases h2 : 1000000000000000 < a
  · have e : okM a = false := okM_not.2 (.inr h2)
    have b2 : decide (a ≤ 1000000000000000) = false := by simp; omega
    rw [e]
    go_enter Try.func22, Try.ntmps22
    go_wp2
    go_ret
    exact ⟨by trivial, rfl⟩
  · have e : okM a = true := okM_iff.2 (by omega)
    have b2 : decide (a ≤ 1000000000000000) = true := by simp; omega
    rw [e]
    go_enter Try.func22, Try.ntmps22
    go_wp2
    go_ret
    exact ⟨by trivial, rfl⟩
set_option maxRecDepth 8000 in
set_option maxHeartbeats 1000000 in
theorem r_add {w : World} {A : Option Addr} {n c : Nat} {l : List Int} (hs : Src w 1 A n (l.map (Value.int .i64))) (hn : n ≤ 1000) :
    Calls Try.prog 21 #[.slice A n c] w fun e w' => e = .returned (.tuple #[.int .i64 (addUp l).1, .int .i64 (addUp l).2]) ∧ w = w' := by
  have hl : l.length = n := by have := hs.1; simpa using this
  have hfin : ∀ r : Int × Int, addUp l = r → Hid (Ending.returned (.tuple #[.int .i64 r.1, .int .i64 r.2]) = Ending.returned (.tuple #[.int .i64 (addUp l).1, .int .i64 (addUp l).2])) := by rintro r rfl; exact Lib.hid rfl
  go_enter Try.func21, Try.ntmps21
  go_wp2_with fail
  go_loopw [4, 5] (fun sv iv wr => ∃ k : Nat, k ≤ n ∧ iv = .int .i64 k ∧ sv = .int .i64 (l.take k).sum ∧ (l.take k).all okM = true ∧ w = wr) (fun _ iv _ => n - (intOf iv).toNat)
  case atStart => exact ⟨0, by omega, rfl, by simp, by simp, rfl⟩
  case round =>
    obtain ⟨k, hk, rfl, rfl, hall, rfl⟩ := hrel
    have hb := sum_okM hall
    have hlk : (l.take k).length = k := by simp; omega
    rw [hlk] at hb
    obtain ⟨hb1, hb2⟩ := hb
    by_cases hlt : k < n
    · obtain ⟨ad, rfl, hc⟩ := hs.2 (by omega)
      have hck := hc k (.int .i64 (l[k]'(by omega))) (by simp [hl, hlt])
      have e1 := all_take (p := okM) (l := l) (k := k) (by omega)
      have e2 := all_bad (p := okM) (l := l) (k := k) (by omega)
      have e3 := sum_take (l := l) (k := k) (by omega)
      have hf := r_fits (l[k]'(by omega)) w
      generalize hx : l[k]'(by omega) = x at *
      clear hc
      replace hall := Lib.hid hall
      replace e1 := Lib.hid e1
      replace e3 := Lib.hid e3
      cases h1 : okM x with
      | true =>
        rw [h1] at hf
        have hx2 := okM_iff.1 h1
        obtain ⟨hx3, hx4⟩ := hx2
        clear e2
        replace h1 := Lib.hid h1
        generalize (l.take k).sum = s at *
        go_wp2_with (go_at_call 22; refine hf.mono ?_; rintro e w' ⟨rfl, rfl⟩)
        go_roundw
        case measure => simp [intOf]; omega
        case rel => exact ⟨k + 1, by omega, by go_num, by rw [e3.out], by rw [e1.out, hall.out, h1.out]; rfl, by trivial⟩
      | false =>
        rw [h1] at hf
        have e := hfin (0, 2) (by unfold addUp; rw [e2 h1]; rfl)
        clear hfin e2
        generalize (l.take k).sum = s at *
        go_wp2_with (go_at_call 22; refine hf.mono ?_; rintro e w' ⟨rfl, rfl⟩)
        go_ret2
        exact ⟨e.out, rfl⟩
    · obtain rfl : k = n := by omega
      rw [List.take_of_length_le (show l.length ≤ k by omega)] at hall hb1 hb2 ⊢
      have e0 : addUp l = told l.sum := by unfold addUp; rw [if_pos hall]
      have hf := r_fits l.sum w
      replace hl := Lib.hid hl
      replace hall := Lib.hid hall
      cases h1 : okM l.sum with
      | true =>
        have e := hfin (l.sum, 0) (by rw [e0]; unfold told; rw [if_pos h1])
        rw [h1] at hf
        clear hfin e0
        generalize l.sum = s at *
        go_wp2_with (go_at_call 22; refine hf.mono ?_; rintro e w' ⟨rfl, rfl⟩)
        go_ret2
        exact ⟨e.out, by trivial⟩
      | false =>
        have e := hfin (0, 2) (by rw [e0]; unfold told; rw [h1]; rfl)
        rw [h1] at hf
        clear hfin e0
        generalize l.sum = s at *
        go_wp2_with (go_at_call 22; refine hf.mono ?_; rintro e w' ⟨rfl, rfl⟩)
        go_ret2
        exact ⟨e.out, by trivial⟩
set_option maxRecDepth 8000 in
set_option maxHeartbeats 4000000 in
theorem adds_in {w : World} {A : Option Addr} {n c : Nat} {l : List Int} (hs : Src w 1 A n (l.map (Value.int .i64))) (hn : n ≤ 60) :
    Calls Try.prog 7 #[.slice A n c] w fun e w' => e = .returned (.bool true) ∧ Chg [] w w' := by
  have hl : l.length = n := by have := hs.1; simpa using this
  have hlent := fun w (hs : Src w 1 A n (l.map (Value.int .i64))) => bk_lentInts (c := c) hs (by omega)
  have hradd := fun w (hs : Src w 1 A n (l.map (Value.int .i64))) => r_add (c := c) hs (by omega)
  go_enter Try.func7, Try.ntmps7
  go_wp2_with (go_at_call 10; refine (m_alive _).mono ?_; rintro e w0 ⟨rfl, hc0⟩)
  refine (hlent _ (hs.chg hc0 (by simp))).mono ?_
  rintro e w1 ⟨v, g, rfl, hv, hg, hc1⟩
  obtain ⟨k, rfl, hf⟩ := hv.fix hl
  dsimp only
  go_wp2_with fail
  refine (m_add hf.src (by omega)).mono ?_
  rintro e w2 ⟨rfl, hc2⟩
  dsimp only
  go_wp2_with fail
  have hz := (hc0.trans' hc1).trans' hc2
  refine (hradd _ (hs.chg hz (by simp))).mono ?_
  rintro e w3 ⟨rfl, rfl⟩
  have hv2 := hv.chg hc2 (by simp)
  have hf2 := hf.chg hc2 (by simp)
  clear hv hf hc0 hc1 hc2 hlent hradd
  dsimp only
  go_wp2_with fail
  go_loopw [8, 9] (fun bv iv wr => ∃ k : Nat, k ≤ n ∧ iv = .int .i64 k ∧ bv = .bool ((l.take k).all okM) ∧ w2 = wr) (fun _ iv _ => n - (intOf iv).toNat)
  case atStart => exact ⟨0, by omega, rfl, by simp, rfl⟩
  case round =>
    obtain ⟨j, hj, rfl, rfl, rfl⟩ := hrel
    by_cases hlt : j < n
    · obtain ⟨ad, rfl, hc⟩ := (hs.chg hz (by simp)).2 (by omega)
      have hck := hc j (.int .i64 (l[j]'(by omega))) (by simp [hl, hlt])
      have e1 := all_take (p := okM) (l := l) (k := j) (by omega)
      have hf := r_fits (l[j]'(by omega)) w2
      generalize hx : l[j]'(by omega) = x at *
      clear hc
      replace e1 := Lib.hid e1
      cases hb : (l.take j).all okM with
      | true =>
        rw [hb] at e1
        replace hb := Lib.hid hb
        go_wp2_with (go_at_call 22; refine hf.mono ?_; rintro e w' ⟨rfl, rfl⟩)
        go_roundw
        case measure => simp [intOf]; omega
        case rel => exact ⟨j + 1, by omega, by go_num, by rw [e1.out]; simp, by trivial⟩
      | false =>
        rw [hb] at e1
        replace hb := Lib.hid hb
        go_wp2_with fail
        go_roundw
        case measure => simp [intOf]; omega
        case rel => exact ⟨j + 1, by omega, by go_num, by rw [e1.out]; simp, by trivial⟩
    · obtain rfl : j = n := by omega
      have hfit := m_fits (c := k) hf2.src (by omega)
      have hst := bk_staysInts (d := c) hv2 (hs.chg hz (by simp)) (by omega)
      rw [List.take_of_length_le (show l.length ≤ j by omega)]
      generalize l.all okM = b at *
      generalize addUp l = r at *
      replace hl := Lib.hid hl
      go_wp2_with (first | (go_at_call 19; refine hfit.mono ?_; rintro e w' ⟨rfl, rfl⟩) | (go_at_call 16; refine hst.mono ?_; rintro e w' ⟨rfl, hc⟩))
      go_ret
      exact ⟨by trivial, hz.trans' hc⟩
set_option maxRecDepth 8000 in
theorem moneyAdds_walk (w : World) (A : Option Addr) (n c : Nat) (l : List Int) (x : l.length = n ∧ n ≤ c ∧ c ≤ maxLen ∧ Src w 1 A n (l.map (Value.int .i64)) ∧ ∀ x ∈ l, (Lit.int .i64 x).wf = true) (y : n * 8 ≤ 140737488351232) :
    Calls Try.prog 7 #[.slice A n c] w fun e w' => e = .returned (.bool true) ∧ Chg [] w w' := by
  obtain ⟨h1, h2, h3, h4, h5⟩ := x
  by_cases h : n ≤ 60
  · exact adds_in h4 h
  · have b1 : decide (60 < (n : Int)) = true := by simp; omega
    go_enter Try.func7, Try.ntmps7
    go_wp2_with (go_at_call 10; refine (m_alive _).mono ?_; rintro e w0 ⟨rfl, hc0⟩)
    go_ret
    exact ⟨by trivial, hc0⟩
end Go.Proofs.Ytlkmdmaemjfelaa
