/- The money's Scale. -/
import Derived.Test.YtlkmdmaemjfelaaMonA
import Derived.Test.YtlkmdmaemjfelaaDivW
namespace Go.Proofs.Ytlkmdmaemjfelaa
open Go.RowKit Go.Vx
set_option linter.unusedVariables false
set_option linter.unusedSimpArgs false

/-- P by d, halves to the even one. -/
def roundQ (P d : Nat) : Nat := if d < 2 * (P % d) ∨ (2 * (P % d) = d ∧ P / d % 2 = 1) then P / d + 1 else P / d
def scale (a num den : Int) : Int × Int :=
  if okM a = true ∧ 0 ≤ num ∧ num ≤ 1000000000 ∧ 1 ≤ den ∧ den ≤ 1000000000 then
    if 1000000000000000 < roundQ (a.natAbs * num.toNat) den.toNat then (0, 2)
    else (if a < 0 then -(roundQ (a.natAbs * num.toNat) den.toNat : Int) else roundQ (a.natAbs * num.toNat) den.toNat, 0)
  else (0, 1)
theorem one_all {a : Int} : [a].all okM = okM a := by simp
set_option maxHeartbeats 1000000 in
theorem scale_bad {a num den : Int} (h : ¬ (okM a = true ∧ 0 ≤ num ∧ num ≤ 1000000000 ∧ 1 ≤ den ∧ den ≤ 1000000000)) (w : World) :
    Calls Try.prog 18 #[.int .i64 a, .int .i64 num, .int .i64 den] w fun e w' => e = .returned (.tuple #[.int .i64 0, .int .i64 1]) ∧ Chg [] w w' := by
  go_enter Try.func18, Try.ntmps18
  cases hf : okM a with
  | false =>
    go_wp2_with (go_at_call 19; refine (m_fits (l := [a]) (by exact Src.one1 rfl) (by omega)).mono ?_; rintro e w' ⟨rfl, rfl⟩; rw [one_all, hf])
    go_ret2
    exact ⟨by trivial, (Chg.refl _ _).alloc _⟩
  | true =>
    replace h : ¬ (0 ≤ num ∧ num ≤ 1000000000 ∧ 1 ≤ den ∧ den ≤ 1000000000) := fun k => h ⟨hf, k⟩
    by_cases h1 : num < 0
    · have b1 : decide (num < 0) = true := by simpa using h1
      go_wp2_with (go_at_call 19; refine (m_fits (l := [a]) (by exact Src.one1 rfl) (by omega)).mono ?_; rintro e w' ⟨rfl, rfl⟩; rw [one_all, hf])
      go_ret2
      exact ⟨by trivial, (Chg.refl _ _).alloc _⟩
    have b1 : decide (num < 0) = false := by simp; omega
    by_cases h2 : 1000000000 < num
    · have b2 : decide (1000000000 < num) = true := by simpa using h2
      go_wp2_with (go_at_call 19; refine (m_fits (l := [a]) (by exact Src.one1 rfl) (by omega)).mono ?_; rintro e w' ⟨rfl, rfl⟩; rw [one_all, hf])
      go_ret2
      exact ⟨by trivial, (Chg.refl _ _).alloc _⟩
    have b2 : decide (1000000000 < num) = false := by simp; omega
    by_cases h3 : den < 1
    · have b3 : decide (den < 1) = true := by simpa using h3
      go_wp2_with (go_at_call 19; refine (m_fits (l := [a]) (by exact Src.one1 rfl) (by omega)).mono ?_; rintro e w' ⟨rfl, rfl⟩; rw [one_all, hf])
      go_ret2
      exact ⟨by trivial, (Chg.refl _ _).alloc _⟩
    have b3 : decide (den < 1) = false := by simp; omega
    have b4 : decide (1000000000 < den) = true := by simp; omega
    go_wp2_with (go_at_call 19; refine (m_fits (l := [a]) (by exact Src.one1 rfl) (by omega)).mono ?_; rintro e w' ⟨rfl, rfl⟩; rw [one_all, hf])
    go_ret2
    exact ⟨by trivial, (Chg.refl _ _).alloc _⟩
set_option maxHeartbeats 1000000 in
theorem scale_good {a : Int} {m d : Nat} (h0 : okM a = true) (hm : m ≤ 1000000000) (hd : 1 ≤ d) (hd2 : d ≤ 1000000000) (w : World) :
    Calls Try.prog 18 #[.int .i64 a, .int .i64 m, .int .i64 d] w fun e w' => e = .returned (.tuple #[.int .i64 (if 1000000000000000 < roundQ (a.natAbs * m) d then 0 else if a < 0 then -(roundQ (a.natAbs * m) d : Int) else roundQ (a.natAbs * m) d), .int .i64 (if 1000000000000000 < roundQ (a.natAbs * m) d then 2 else 0)]) ∧ Chg [] w w' := by
  have hA : a.natAbs ≤ 1000000000000000 := by have := okM_iff.1 h0; omega
  have hP : a.natAbs * m / 18446744073709551616 < 18446744073709551616 := by
    have := Nat.mul_le_mul hA hm
    omega
  have hL : a.natAbs * m % 18446744073709551616 < 18446744073709551616 := Nat.mod_lt _ (by omega)
  have hT : a.natAbs * m / 18446744073709551616 * 18446744073709551616 + a.natAbs * m % 18446744073709551616 = a.natAbs * m := by omega
  have hS := m_size a h0
  have hM := Try.bits_Mul64 a.natAbs m (by omega) (by omega)
  have b1 : decide ((m : Int) < 0) = false := by simp
  have b2 : decide (1000000000 < (m : Int)) = false := by simp; omega
  have b3 : decide ((d : Int) < 1) = false := by simp; omega
  have b4 : decide (1000000000 < (d : Int)) = false := by simp; omega
  have w1 : IntKind.u64.wrap (m : Int) = (m : Int) := wrap_nat _ (by omega)
  have w2 : IntKind.u64.wrap (d : Int) = (d : Int) := wrap_nat _ (by omega)
  have hD := div64 (a.natAbs * m / 18446744073709551616) (a.natAbs * m % 18446744073709551616) d (by omega) hL
  rw [hT] at hD
  replace hT := Lib.hid hT
  generalize hPn : a.natAbs * m = P at *
  generalize P / 18446744073709551616 = hi at *
  generalize P % 18446744073709551616 = lo at *
  by_cases c1 : d ≤ hi
  · have e1 : 1000000000000000 < roundQ P d := by
      have : 1000000000000001 ≤ P / d := by
        rw [Nat.le_div_iff_mul_le (by omega)]
        have := hT.out
        omega
      unfold roundQ
      split <;> omega
    rw [if_pos e1, if_pos e1]
    have b5 : decide ((d : Int) ≤ (hi : Int)) = true := by simp; omega
    clear hT hPn hD e1
    go_enter Try.func18, Try.ntmps18
    go_wp2_with (first | (go_at_call 19; refine (m_fits (l := [a]) (by exact Src.one1 rfl) (by omega)).mono ?_; rintro e w' ⟨rfl, rfl⟩; rw [one_all, h0]) | (go_at_call 25; refine (hS _).mono ?_; rintro e w' ⟨rfl, rfl⟩) | (go_at_call 26; refine (hM _).mono ?_; rintro e w' ⟨rfl, rfl⟩))
    go_ret2
    exact ⟨by trivial, (Chg.refl _ _).alloc _⟩
  have b5 : decide ((d : Int) ≤ (hi : Int)) = false := by simp; omega
  replace hD := hD (by omega)
  have hR : P % d < d := Nat.mod_lt _ (by omega)
  have w3 : IntKind.u64.wrap (2 * ((P % d : Nat) : Int)) = ((2 * (P % d) : Nat) : Int) := by
    rw [show 2 * ((P % d : Nat) : Int) = ((2 * (P % d) : Nat) : Int) by omega]; exact wrap_nat _ (by omega)
  have hXY : ∀ R q : Nat, Hid ((.tuple #[.int .i64 (if 1000000000000000 < (if d < 2 * R ∨ (2 * R = d ∧ q % 2 = 1) then q + 1 else q) then 0 else if a < 0 then -((if d < 2 * R ∨ (2 * R = d ∧ q % 2 = 1) then q + 1 else q : Nat) : Int) else ((if d < 2 * R ∨ (2 * R = d ∧ q % 2 = 1) then q + 1 else q : Nat) : Int)), .int .i64 (if 1000000000000000 < (if d < 2 * R ∨ (2 * R = d ∧ q % 2 = 1) then q + 1 else q) then 2 else 0)] : Value) = (fun y : Nat => .tuple #[.int .i64 (if 1000000000000000 < y then 0 else if a < 0 then -(y : Int) else (y : Int)), .int .i64 (if 1000000000000000 < y then 2 else 0)]) (if d < 2 * R ∨ (2 * R = d ∧ min q 2000000000000000 % 2 = 1) then min q 2000000000000000 + 1 else min q 2000000000000000)) := by
    intro R q
    show _ = _
    by_cases hq : q ≤ 2000000000000000
    · rw [Nat.min_eq_left hq]
    · rw [Nat.min_eq_right (by omega)]
      have z1 : 1000000000000000 < (if d < 2 * R ∨ (2 * R = d ∧ q % 2 = 1) then q + 1 else q) := by split <;> omega
      have z2 : 1000000000000000 < (if d < 2 * R ∨ (2 * R = d ∧ 2000000000000000 % 2 = 1) then 2000000000000000 + 1 else 2000000000000000) := by split <;> omega
      simp only [if_pos z1, if_pos z2]
  unfold roundQ
  rw [(hXY _ _).out]
  clear hXY
  have hmin : ((min (P / d) 2000000000000000 : Nat) : Int) = min ((P / d : Nat) : Int) 2000000000000000 := by omega
  have hq2 : min (P / d) 2000000000000000 ≤ 2000000000000000 := Nat.min_le_right _ _
  replace hmin := Lib.hid hmin
  generalize min (P / d) 2000000000000000 = q2 at *
  generalize P % d = R at *
  generalize P / d = q at *
  clear hT hPn
  have key : ∀ y : Nat, y = (if d < 2 * R ∨ (2 * R = d ∧ q2 % 2 = 1) then q2 + 1 else q2) → ∀ v, v = (Value.tuple #[.int .i64 (if 1000000000000000 < y then 0 else if a < 0 then -(y : Int) else (y : Int)), .int .i64 (if 1000000000000000 < y then 2 else 0)]) →
      Hid (Ending.returned v = Ending.returned ((fun y : Nat => Value.tuple #[.int .i64 (if 1000000000000000 < y then 0 else if a < 0 then -(y : Int) else (y : Int)), .int .i64 (if 1000000000000000 < y then 2 else 0)]) (if d < 2 * R ∨ (2 * R = d ∧ q2 % 2 = 1) then q2 + 1 else q2))) := by
    rintro y rfl v rfl
    exact Lib.hid rfl
  replace key := fun y h v k => key y h v k
  generalize hpost : (fun y : Nat => Value.tuple #[.int .i64 (if 1000000000000000 < y then 0 else if a < 0 then -(y : Int) else (y : Int)), .int .i64 (if 1000000000000000 < y then 2 else 0)]) (if d < 2 * R ∨ (2 * R = d ∧ q2 % 2 = 1) then q2 + 1 else q2) = V at *
  clear hpost
  go_enter Try.func18, Try.ntmps18
  go_upto_region 9 with (first | (go_at_call 19; refine (m_fits (l := [a]) (by exact Src.one1 rfl) (by omega)).mono ?_; rintro e w' ⟨rfl, rfl⟩; rw [one_all, h0]) | (go_at_call 25; refine (hS _).mono ?_; rintro e w' ⟨rfl, rfl⟩) | (go_at_call 26; refine (hM _).mono ?_; rintro e w' ⟨rfl, rfl⟩) | (go_at_call 27; refine (hD _).mono ?_; rintro e w' ⟨rfl, hc⟩))
  rw [← hmin.out]
  replace hc := ((Chg.refl [] w).alloc _).trans' hc
  clear hS hM hD hmin b1 b2 b3 b4 b5 w1 w2 hP hL c1
  by_cases r1 : d < 2 * R
  · have d1 : decide ((d : Int) < ((2 * R : Nat) : Int)) = true := by simp; omega
    have ky := key (q2 + 1) (by rw [if_pos (by omega)])
    clear key
    have w4 : IntKind.u64.wrap ((q2 : Int) + 1) = ((q2 + 1 : Nat) : Int) := by rw [show (q2 : Int) + 1 = ((q2 + 1 : Nat) : Int) by omega]; exact wrap_nat _ (by omega)
    go_upto_region 11 with fail
    first | rw [w4] | rw [show (q2 : Int) + 1 = ((q2 + 1 : Nat) : Int) by omega]
    clear w4
    generalize q2 + 1 = y at *
    by_cases c9 : 1000000000000000 < y
    · have b9 : decide (1000000000000000 < (y : Int)) = true := by simp; omega
      replace ky := ky (.tuple #[.int .i64 0, .int .i64 2]) (by rw [if_pos c9, if_pos c9])
      go_wp2_with fail
      go_ret2
      exact ⟨ky.out, hc⟩
    · have b9 : decide (1000000000000000 < (y : Int)) = false := by simp; omega
      replace ky := ky (.tuple #[.int .i64 (if a < 0 then -(y : Int) else (y : Int)), .int .i64 0]) (by rw [if_neg c9, if_neg c9])
      have hG := m_signed y a (by omega)
      generalize (if a < 0 then -(y : Int) else (y : Int)) = z at *
      go_wp2_with (go_at_call 30; refine (hG _).mono ?_; rintro e w'' ⟨rfl, rfl⟩)
      go_ret2
      exact ⟨ky.out, hc⟩
  have d1 : decide ((d : Int) < ((2 * R : Nat) : Int)) = false := by simp; omega
  by_cases r2 : 2 * R = d
  · have d2 : (((2 * R : Nat) : Int) == (d : Int)) = true := by simp; omega
    by_cases r3 : q2 % 2 = 1
    · have d3 : ((q2 : Int).tmod 2 == 1) = true := by rw [show (q2 : Int).tmod 2 = ((q2 % 2 : Nat) : Int) from rfl, r3]; rfl
      have ky := key (q2 + 1) (by rw [if_pos (by omega)])
      clear key
      have w4 : IntKind.u64.wrap ((q2 : Int) + 1) = ((q2 + 1 : Nat) : Int) := by rw [show (q2 : Int) + 1 = ((q2 + 1 : Nat) : Int) by omega]; exact wrap_nat _ (by omega)
      go_upto_region 11 with fail
      first | rw [w4] | rw [show (q2 : Int) + 1 = ((q2 + 1 : Nat) : Int) by omega]
      clear w4
      generalize q2 + 1 = y at *
      by_cases c9 : 1000000000000000 < y
      · have b9 : decide (1000000000000000 < (y : Int)) = true := by simp; omega
        replace ky := ky (.tuple #[.int .i64 0, .int .i64 2]) (by rw [if_pos c9, if_pos c9])
        go_wp2_with fail
        go_ret2
        exact ⟨ky.out, hc⟩
      · have b9 : decide (1000000000000000 < (y : Int)) = false := by simp; omega
        replace ky := ky (.tuple #[.int .i64 (if a < 0 then -(y : Int) else (y : Int)), .int .i64 0]) (by rw [if_neg c9, if_neg c9])
        have hG := m_signed y a (by omega)
        generalize (if a < 0 then -(y : Int) else (y : Int)) = z at *
        go_wp2_with (go_at_call 30; refine (hG _).mono ?_; rintro e w'' ⟨rfl, rfl⟩)
        go_ret2
        exact ⟨ky.out, hc⟩
    · have d3 : ((q2 : Int).tmod 2 == 1) = false := by rw [show (q2 : Int).tmod 2 = ((q2 % 2 : Nat) : Int) from rfl, show q2 % 2 = 0 by omega]; rfl
      have ky := key (q2) (by rw [if_neg (by omega)])
      clear key
      go_upto_region 11 with fail
      replace ky := ky
      generalize q2 = y at *
      by_cases c9 : 1000000000000000 < y
      · have b9 : decide (1000000000000000 < (y : Int)) = true := by simp; omega
        replace ky := ky (.tuple #[.int .i64 0, .int .i64 2]) (by rw [if_pos c9, if_pos c9])
        go_wp2_with fail
        go_ret2
        exact ⟨ky.out, hc⟩
      · have b9 : decide (1000000000000000 < (y : Int)) = false := by simp; omega
        replace ky := ky (.tuple #[.int .i64 (if a < 0 then -(y : Int) else (y : Int)), .int .i64 0]) (by rw [if_neg c9, if_neg c9])
        have hG := m_signed y a (by omega)
        generalize (if a < 0 then -(y : Int) else (y : Int)) = z at *
        go_wp2_with (go_at_call 30; refine (hG _).mono ?_; rintro e w'' ⟨rfl, rfl⟩)
        go_ret2
        exact ⟨ky.out, hc⟩
  · have d2 : (((2 * R : Nat) : Int) == (d : Int)) = false := by simp; omega
    have ky := key (q2) (by rw [if_neg (by omega)])
    clear key
    go_upto_region 11 with fail
    replace ky := ky
    generalize q2 = y at *
    by_cases c9 : 1000000000000000 < y
    · have b9 : decide (1000000000000000 < (y : Int)) = true := by simp; omega
      replace ky := ky (.tuple #[.int .i64 0, .int .i64 2]) (by rw [if_pos c9, if_pos c9])
      go_wp2_with fail
      go_ret2
      exact ⟨ky.out, hc⟩
    · have b9 : decide (1000000000000000 < (y : Int)) = false := by simp; omega
      replace ky := ky (.tuple #[.int .i64 (if a < 0 then -(y : Int) else (y : Int)), .int .i64 0]) (by rw [if_neg c9, if_neg c9])
      have hG := m_signed y a (by omega)
      generalize (if a < 0 then -(y : Int) else (y : Int)) = z at *
      go_wp2_with (go_at_call 30; refine (hG _).mono ?_; rintro e w'' ⟨rfl, rfl⟩)
      go_ret2
      exact ⟨ky.out, hc⟩
theorem m_scale (a num den : Int) (w : World) :
    Calls Try.prog 18 #[.int .i64 a, .int .i64 num, .int .i64 den] w fun e w' => e = .returned (.tuple #[.int .i64 (scale a num den).1, .int .i64 (scale a num den).2]) ∧ Chg [] w w' := by
  by_cases h : okM a = true ∧ 0 ≤ num ∧ num ≤ 1000000000 ∧ 1 ≤ den ∧ den ≤ 1000000000
  · obtain ⟨h0, h1, h2, h3, h4⟩ := h
    obtain ⟨m, rfl⟩ := Int.eq_ofNat_of_zero_le h1
    obtain ⟨d, rfl⟩ := Int.eq_ofNat_of_zero_le (show 0 ≤ den by omega)
    refine (scale_good (m := m) (d := d) h0 (by omega) (by omega) (by omega) w).mono ?_
    rintro e w' ⟨rfl, hc⟩
    refine ⟨?_, hc⟩
    have e : scale a m d = if 1000000000000000 < roundQ (a.natAbs * m) d then (0, 2) else (if a < 0 then -(roundQ (a.natAbs * m) d : Int) else roundQ (a.natAbs * m) d, 0) := if_pos ⟨h0, h1, h2, h3, h4⟩
    rw [e]
    by_cases c : 1000000000000000 < roundQ (a.natAbs * m) d
    · simp only [if_pos c]
    · simp only [if_neg c]
  · refine (scale_bad h w).mono ?_
    rintro e w' ⟨rfl, hc⟩
    refine ⟨?_, hc⟩
    have e : scale a num den = (0, 1) := if_neg h
    rw [e]
end Go.Proofs.Ytlkmdmaemjfelaa
