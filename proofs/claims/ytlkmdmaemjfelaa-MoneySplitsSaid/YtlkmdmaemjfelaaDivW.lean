/- bits.Div64: a number of two words by one word. -/
import Derived.Test.YtlkmdmaemjfelaaProg
import Derived.Test.YtlkmdmaemjfelaaShelf
import Derived.Test.YtlkmdmaemjfelaaDivT
import Derived.Test.YtlkmdmaemjfelaaCore
import Derived.Laws.Bits64b
import Derived.Deep.RegionLaw
import Derived.Deep.CutBlock
namespace Go.Proofs.Ytlkmdmaemjfelaa
open Go.RowKit Go.Vx
set_option linter.unusedVariables false

theorem bitLen_bounds : ∀ (k x : Nat), x < 2 ^ k → k ≤ 64 → 0 < x → 2 ^ (Lib.bitLen x - 1) ≤ x ∧ x < 2 ^ Lib.bitLen x ∧ 0 < Lib.bitLen x ∧ Lib.bitLen x ≤ k := by
  intro k
  induction k with
  | zero => intro x h1 h2 h3; simp at h1; omega
  | succ k ih =>
    intro x h1 h2 h3
    have h64 : x < 2 ^ 64 := Nat.lt_of_lt_of_le h1 (Nat.pow_le_pow_right (by omega) h2)
    rw [Lib.bitLen_half x (by omega) h64]
    by_cases hx : x = 1
    · subst hx
      have : Lib.bitLen (1 / 2) = 0 := by decide
      rw [this]
      simp
    · have h4 : x / 2 < 2 ^ k := by rw [Nat.pow_succ] at h1; omega
      obtain ⟨a, b, c, d⟩ := ih (x / 2) h4 (by omega) (by omega)
      generalize Lib.bitLen (x / 2) = m at *
      obtain ⟨m, rfl⟩ : ∃ m', m = m' + 1 := ⟨m - 1, by omega⟩
      refine ⟨?_, ?_, by omega, by omega⟩
      · rw [show 1 + (m + 1) - 1 = m + 1 by omega, Nat.pow_succ]
        simp only [Nat.add_sub_cancel] at a
        omega
      · rw [show 1 + (m + 1) = (m + 1) + 1 by omega, Nat.pow_succ]
        omega
/-- How far to shift. -/
theorem shift_of (y : Nat) (h0 : 0 < y) (hy : y < 18446744073709551616) : ∃ s : Nat, s < 64 ∧ (64 : Int) - (Lib.bitLen y : Int) = s ∧ y * 2 ^ s < 18446744073709551616 ∧ 9223372036854775808 ≤ y * 2 ^ s := by
  obtain ⟨a, b, c, d⟩ := bitLen_bounds 64 y hy (Nat.le_refl _) h0
  refine ⟨64 - Lib.bitLen y, by omega, by omega, ?_, ?_⟩
  · have := Nat.mul_lt_mul_of_pos_right b (Nat.two_pow_pos (64 - Lib.bitLen y))
    rw [← Nat.pow_add, show Lib.bitLen y + (64 - Lib.bitLen y) = 64 by omega] at this
    exact this
  · have := Nat.mul_le_mul_right (2 ^ (64 - Lib.bitLen y)) a
    rw [← Nat.pow_add, show Lib.bitLen y - 1 + (64 - Lib.bitLen y) = 63 by omega] at this
    exact this
theorem and_mask (x : Nat) (hx : x < 18446744073709551616) : bits .and .u64 (x : Int) 4294967295 = ((x % 4294967296 : Nat) : Int) := by
  have := bits_and_u64_nat x 4294967295 hx (by omega)
  rw [show ((4294967295 : Nat) : Int) = 4294967295 from rfl] at this
  rw [this, show (4294967295 : Nat) = 2 ^ 32 - 1 from rfl, Nat.and_two_pow_sub_one_eq_mod]
theorem or_add (a b s : Nat) (hb : b < 2 ^ s) (ha : a * 2 ^ s + b < 18446744073709551616) : bits .or .u64 ((a * 2 ^ s : Nat) : Int) (b : Int) = ((a * 2 ^ s + b : Nat) : Int) := by
  have := bits_or_u64_nat (a * 2 ^ s) b (by omega) (by omega)
  rw [this, ← Nat.shiftLeft_eq, Nat.shiftLeft_add_eq_or_of_lt hb]
theorem wrap_nat (n : Nat) (h : n < 18446744073709551616) : IntKind.u64.wrap (n : Int) = (n : Int) := by
  rw [IntKind.wrap_u64]; omega
theorem div64_zero (lo y : Nat) (hy : y < 18446744073709551616) (hl : lo < 18446744073709551616) (h0 : 0 < y) (w : World) :
    Calls Try.prog 27 #[.int .u64 0, .int .u64 lo, .int .u64 y] w fun e w' => e = .returned (.tuple #[.int .u64 ((lo / y : Nat) : Int), .int .u64 ((lo % y : Nat) : Int)]) ∧ Chg [] w w' := by
  have b1 : ((y : Int) == 0) = false := by simp; omega
  have b3 : ¬ (y : Int) = 0 := by omega
  go_enter Try.func27, Try.ntmps27
  have e1 : IntKind.u64.wrap ((lo : Int) / (y : Int)) = (lo : Int) / (y : Int) := by
    have h1 : lo / y < 18446744073709551616 := Nat.lt_of_le_of_lt (Nat.div_le_self _ _) hl
    rw [← Int.natCast_ediv, wrap_nat _ h1]
  have e2 : (lo : Int).tmod (y : Int) = (lo : Int) % (y : Int) := by rw [← Int.ofNat_tmod]; simp
  go_wp2_with fail
  go_region_law (fail)
  all_goals
    go_wp2_with fail
    go_ret2
    refine ⟨?_, (Chg.refl _ _).drew⟩
    first | (simp [Act.put]; done) | (simp [Act.put, e1]; done) | (simp [Act.put, e2]; done)
theorem div64_big (hi lo y : Nat) (hy : y < 18446744073709551616) (hl : lo < 18446744073709551616) (h0 : 0 < hi) (hh : hi < y) (w : World) :
    Calls Try.prog 27 #[.int .u64 hi, .int .u64 lo, .int .u64 y] w fun e w' => e = .returned (.tuple #[.int .u64 (((hi * 18446744073709551616 + lo) / y : Nat) : Int), .int .u64 (((hi * 18446744073709551616 + lo) % y : Nat) : Int)]) ∧ Chg [] w w' := by
  obtain ⟨s, hs, hz, hy1, hy2⟩ := shift_of y (by omega) hy
  have hps : 0 < 2 ^ s := Nat.two_pow_pos s
  have hpp : 2 ^ s * 2 ^ (64 - s) = 18446744073709551616 := by rw [← Nat.pow_add, show s + (64 - s) = 64 by omega]
  have hP : (2 : Int) ^ s = ((2 ^ s : Nat) : Int) := by simp
  have hP2 : (2 : Int) ^ (64 - s) = ((2 ^ (64 - s) : Nat) : Int) := by simp
  have hb1 := Nat.mul_lt_mul_of_pos_right hh hps
  -- the divisor, shifted
  have eY : IntKind.u64.wrap ((y : Int) * 2 ^ s) = ((y * 2 ^ s : Nat) : Int) := by
    rw [hP, ← Int.natCast_mul]; exact wrap_nat _ hy1
  -- the number, shifted: its upper word, its lower word
  have eH : IntKind.u64.wrap ((hi : Int) * 2 ^ s) = ((hi * 2 ^ s : Nat) : Int) := by
    rw [hP, ← Int.natCast_mul]; exact wrap_nat _ (by omega)
  have eL : IntKind.u64.wrap ((lo : Int) * 2 ^ s) = ((lo * 2 ^ s % 18446744073709551616 : Nat) : Int) := by
    rw [hP, ← Int.natCast_mul, IntKind.wrap_u64]; omega
  have hlo : lo / 2 ^ (64 - s) < 2 ^ s := by
    rw [Nat.div_lt_iff_lt_mul (Nat.two_pow_pos _), hpp]; exact hl
  have hU : hi * 2 ^ s + lo / 2 ^ (64 - s) < y * 2 ^ s := by
    have := Nat.mul_le_mul_right (2 ^ s) (show hi + 1 ≤ y from hh)
    rw [Nat.add_mul] at this
    omega
  have eO : bits .or .u64 ((hi * 2 ^ s : Nat) : Int) ((lo : Int) / 2 ^ (64 - s)) = ((hi * 2 ^ s + lo / 2 ^ (64 - s) : Nat) : Int) := by
    rw [hP2, ← Int.natCast_ediv]; exact or_add hi (lo / 2 ^ (64 - s)) s hlo (by omega)
  have hN : (hi * 2 ^ s + lo / 2 ^ (64 - s)) * 18446744073709551616 + lo * 2 ^ s % 18446744073709551616 = (hi * 18446744073709551616 + lo) * 2 ^ s := by
    have e1 : lo * 2 ^ s / 18446744073709551616 = lo / 2 ^ (64 - s) := by
      rw [← hpp, Nat.mul_comm lo, Nat.mul_div_mul_left _ _ hps]
    have e2 := Nat.div_add_mod (lo * 2 ^ s) 18446744073709551616
    rw [e1] at e2
    rw [Nat.add_mul, Nat.add_mul, Nat.mul_right_comm]
    omega
  have hq : (hi * 18446744073709551616 + lo) / y = ((hi * 18446744073709551616 + lo) * 2 ^ s) / (y * 2 ^ s) := (Nat.mul_div_mul_right _ _ hps).symm
  have hr : (hi * 18446744073709551616 + lo) % y = ((hi * 18446744073709551616 + lo) * 2 ^ s) % (y * 2 ^ s) / 2 ^ s := by
    rw [Nat.mul_mod_mul_right, Nat.mul_div_cancel _ hps]
  rw [hq, hr, ← hN]
  have hl1 : lo * 2 ^ s % 18446744073709551616 < 18446744073709551616 := Nat.mod_lt _ (by omega)
  generalize hi * 2 ^ s + lo / 2 ^ (64 - s) = U at *
  generalize lo * 2 ^ s % 18446744073709551616 = L at *
  generalize y * 2 ^ s = Y at *
  have b1 : ((y : Int) == 0) = false := by simp; omega
  have b2 : ((hi : Int) == 0) = false := by simp; omega
  have hLZ := Try.bits_LeadingZeros64 y w (by omega) (by omega)
  rw [show ((y : Int).toNat) = y from rfl, hz] at hLZ
  clear hq hr hN hpp hb1 hz hP hP2 hlo
  replace eY := Lib.hid eY
  replace eH := Lib.hid eH
  replace eL := Lib.hid eL
  replace eO := Lib.hid eO
  go_enter Try.func27, Try.ntmps27
  go_upto_region 9 with (go_at_call 73; refine hLZ.mono ?_; rintro e w' ⟨rfl, rfl⟩)
  rw [eY.out]
  go_upto_region 13 with fail
  rw [eL.out, eH.out, eO.out, and_mask Y hy1, show (Y : Int) / 4294967296 = ((Y / 4294967296 : Nat) : Int) by omega]
  have hYd : Hid (Y = Y / 4294967296 * 4294967296 + Y % 4294967296) := by show _ = _; omega
  have y1 : 2147483648 ≤ Y / 4294967296 := by omega
  have y1' : Y / 4294967296 < 4294967296 := by omega
  have y0 : Y % 4294967296 < 4294967296 := by omega
  generalize Y / 4294967296 = yn1 at *
  generalize Y % 4294967296 = yn0 at *
  go_upto_region 15 with fail
  rw [and_mask L hl1, show (L : Int) / 4294967296 = ((L / 4294967296 : Nat) : Int) by omega]
  have hLd : Hid (L = L / 4294967296 * 4294967296 + L % 4294967296) := by show _ = _; omega
  have l1' : L / 4294967296 < 4294967296 := by omega
  have l0 : L % 4294967296 < 4294967296 := by omega
  generalize L / 4294967296 = un1 at *
  generalize L % 4294967296 = un0 at *
  clear eY eH eL eO hLZ
  have nz : ¬ (yn1 : Int) = 0 := by omega
  go_upto_block 0 with fail
  have hq1 : U / yn1 < 18446744073709551616 := Nat.lt_of_le_of_lt (Nat.div_le_self _ _) (by omega)
  have hmod := Nat.div_add_mod U yn1
  have hml : U % yn1 < yn1 := Nat.mod_lt _ (by omega)
  have hle : U / yn1 * yn1 ≤ U := Nat.div_mul_le_self U yn1
  rw [show IntKind.u64.wrap ((U : Int) / (yn1 : Int)) = ((U / yn1 : Nat) : Int) by rw [← Int.natCast_ediv]; exact wrap_nat _ hq1]
  rw [show IntKind.u64.wrap (((U / yn1 : Nat) : Int) * (yn1 : Int)) = ((U / yn1 * yn1 : Nat) : Int) by rw [← Int.natCast_mul]; exact wrap_nat _ (by omega)]
  rw [show IntKind.u64.wrap ((U : Int) - ((U / yn1 * yn1 : Nat) : Int)) = ((U % yn1 : Nat) : Int) by
    rw [← Int.ofNat_sub hle, Nat.mul_comm, show U - yn1 * (U / yn1) = U % yn1 by omega]; exact wrap_nat _ (by omega)]
  have hfirst := mend_first (yn1 := yn1) (yn0 := yn0) (un := un1) (u := U) (by omega) y0 l1'
  have hmend := mend_ok (yn1 := yn1) (yn0 := yn0) (un := un1) (u := U) (by omega) y0 l1' (by rw [← hYd.out]; exact hU) (U / yn1 + 1) (U / yn1) (U % yn1) (by omega) (by rw [Nat.mul_comm]; exact hmod) (by omega) hfirst
  have hinv : U / yn1 * yn1 + U % yn1 = U := by rw [Nat.mul_comm]; exact hmod
  have hQ1 : Hid ((U * 4294967296 + un1) / (yn1 * 4294967296 + yn0) = (U * 4294967296 + un1) / Y) := by
    show _ = _
    rw [← hYd.out]
  generalize U / yn1 = qa at *
  generalize U % yn1 = ra at *
  generalize (U * 4294967296 + un1) / (yn1 * 4294967296 + yn0) = Q1 at *
  clear hle hmod hfirst
  go_cut [15] (fun qv wx => qv = .int .u64 Q1 ∧ wx = w')
  case first =>
    go_wp2_with fail
    go_loopw [15, 16] (fun qv rv wr => ∃ q r f : Nat, qv = .int .u64 q ∧ rv = .int .u64 r ∧ q < f ∧ q < 18446744073709551616 ∧ q * yn1 + r = U ∧ r < 4294967296 ∧ mend yn1 yn0 un1 f q r = Q1 ∧ w' = wr) (fun qv _ _ => (intOf qv).toNat)
    case atStart => exact ⟨qa, ra, qa + 1, rfl, rfl, by omega, by omega, hinv, by omega, hmend, rfl⟩
    case round =>
      obtain ⟨q, r, f, rfl, rfl, hqf, hqb, hqr, hr, hm, rfl⟩ := hrel
      obtain ⟨f, rfl⟩ : ∃ f', f = f' + 1 := ⟨f - 1, by omega⟩
      simp only [mend] at hm
      have ew2 : IntKind.u64.wrap (4294967296 * (r : Int) + (un1 : Int)) = ((4294967296 * r + un1 : Nat) : Int) := by
        rw [show 4294967296 * (r : Int) + (un1 : Int) = ((4294967296 * r + un1 : Nat) : Int) by omega]; exact wrap_nat _ (by omega)
      have eqn : 0 < q → IntKind.u64.wrap ((q : Int) - 1) = ((q - 1 : Nat) : Int) := by
        intro h; rw [show (q : Int) - 1 = ((q - 1 : Nat) : Int) by omega]; exact wrap_nat _ (by omega)
      have ern : IntKind.u64.wrap ((r : Int) + yn1) = ((r + yn1 : Nat) : Int) := by
        rw [show (r : Int) + yn1 = ((r + yn1 : Nat) : Int) by omega]; exact wrap_nat _ (by omega)
      have hqn : 0 < q → (q - 1) * yn1 + (r + yn1) = U := by
        intro h; obtain ⟨q, rfl⟩ : ∃ q', q = q' + 1 := ⟨q - 1, by omega⟩
        rw [Nat.add_mul] at hqr; simp only [Nat.add_sub_cancel]; omega
      replace hm := Lib.hid hm
      replace hqr := Lib.hid hqr
      replace hqn := Lib.hid hqn
      replace eqn := Lib.hid eqn
      replace ern := Lib.hid ern
      by_cases c1 : 4294967296 ≤ q
      · have d1 : decide ((4294967296 : Int) ≤ (q : Int)) = true := by simp; omega
        go_upto_region 18 with fail
        go_upto_region 20 with fail
        have hq0 : 0 < q := by omega
        have hm2 : (if 4294967296 ≤ r + yn1 then q - 1 else mend yn1 yn0 un1 f (q - 1) (r + yn1)) = Q1 := by have := hm.out; rw [if_pos (Or.inl c1)] at this; exact this
        replace hqn := Lib.hid (hqn.out hq0)
        first | rw [eqn.out hq0] | rw [show (q : Int) - 1 = ((q - 1 : Nat) : Int) by omega]
        first | rw [ern.out] | rw [show (r : Int) + yn1 = ((r + yn1 : Nat) : Int) by omega]
        have hlt : q - 1 < q := by omega
        have hlt2 : q - 1 < f := by omega
        have hlt3 : q - 1 < 18446744073709551616 := by omega
        clear eqn ern hm hqr ew2
        replace hm2 := Lib.hid hm2
        generalize r + yn1 = rn at *
        generalize q - 1 = qn at *
        by_cases c3 : 4294967296 ≤ rn
        · have d3 : decide ((4294967296 : Int) ≤ (rn : Int)) = true := by simp; omega
          have hm3 : qn = Q1 := by have := hm2.out; rw [if_pos c3] at this; exact this
          replace hm3 := Lib.hid hm3
          go_wp2_with fail
          go_meet
          exact ⟨by rw [hm3.out], rfl⟩
        · have d3 : decide ((4294967296 : Int) ≤ (rn : Int)) = false := by simp; omega
          have hm3 : mend yn1 yn0 un1 f qn rn = Q1 := by have := hm2.out; rw [if_neg c3] at this; exact this
          replace hm3 := Lib.hid hm3
          go_wp2_with fail
          go_roundw
          case measure => simp only [intOf]; omega
          case rel => exact ⟨qn, rn, f, rfl, rfl, hlt2, hlt3, hqn.out, by omega, hm3.out, by trivial⟩
      · have d1 : decide ((4294967296 : Int) ≤ (q : Int)) = false := by simp; omega
        have hqy : q * yn0 < 18446744073709551616 := by
          have := Nat.mul_lt_mul_of_lt_of_le (show q < 4294967296 by omega) (Nat.le_of_lt y0) (by omega)
          omega
        have ew1 : IntKind.u64.wrap ((q : Int) * (yn0 : Int)) = ((q * yn0 : Nat) : Int) := by rw [← Int.natCast_mul]; exact wrap_nat _ hqy
        have hz0 : q = 0 → q * yn0 = 0 := by rintro rfl; simp
        generalize q * yn0 = P at *
        by_cases c2 : 4294967296 * r + un1 < P
        · have d2 : decide (4294967296 * (r : Int) + (un1 : Int) < (P : Int)) = true := by simp; omega
          go_upto_region 18 with fail
          go_upto_region 20 with fail
          have hq0 : 0 < q := by exact Nat.pos_of_ne_zero (fun h => by have := hz0 h; omega)
          have hm2 : (if 4294967296 ≤ r + yn1 then q - 1 else mend yn1 yn0 un1 f (q - 1) (r + yn1)) = Q1 := by have := hm.out; rw [if_pos (Or.inr c2)] at this; exact this
          replace hqn := Lib.hid (hqn.out hq0)
          first | rw [eqn.out hq0] | rw [show (q : Int) - 1 = ((q - 1 : Nat) : Int) by omega]
          first | rw [ern.out] | rw [show (r : Int) + yn1 = ((r + yn1 : Nat) : Int) by omega]
          have hlt : q - 1 < q := by omega
          have hlt2 : q - 1 < f := by omega
          have hlt3 : q - 1 < 18446744073709551616 := by omega
          clear eqn ern hm hqr ew2
          replace hm2 := Lib.hid hm2
          generalize r + yn1 = rn at *
          generalize q - 1 = qn at *
          by_cases c3 : 4294967296 ≤ rn
          · have d3 : decide ((4294967296 : Int) ≤ (rn : Int)) = true := by simp; omega
            have hm3 : qn = Q1 := by have := hm2.out; rw [if_pos c3] at this; exact this
            replace hm3 := Lib.hid hm3
            go_wp2_with fail
            go_meet
            exact ⟨by rw [hm3.out], rfl⟩
          · have d3 : decide ((4294967296 : Int) ≤ (rn : Int)) = false := by simp; omega
            have hm3 : mend yn1 yn0 un1 f qn rn = Q1 := by have := hm2.out; rw [if_neg c3] at this; exact this
            replace hm3 := Lib.hid hm3
            go_wp2_with fail
            go_roundw
            case measure => simp only [intOf]; omega
            case rel => exact ⟨qn, rn, f, rfl, rfl, hlt2, hlt3, hqn.out, by omega, hm3.out, by trivial⟩
        · have d2 : decide (4294967296 * (r : Int) + (un1 : Int) < (P : Int)) = false := by simp; omega
          have hm3 : q = Q1 := by have := hm.out; rw [if_neg (by omega)] at this; exact this
          replace hm3 := Lib.hid hm3
          clear hm
          go_wp2_with fail
          go_meet
          exact ⟨by rw [hm3.out], rfl⟩
  case rest =>
    obtain ⟨rfl, rfl⟩ := hcut
    obtain ⟨R, hR, hdm⟩ := digit_at (show 0 < Y by omega) hQ1.out
    clear hmend hinv hQ1
    have eR : Hid (IntKind.u64.wrap (IntKind.u64.wrap (IntKind.u64.wrap ((U : Int) * 4294967296) + (un1 : Int)) - IntKind.u64.wrap ((Q1 : Int) * (Y : Int))) = (R : Int)) := by
      show _ = _
      rw [← Int.natCast_mul]
      generalize Q1 * Y = P at *
      simp only [IntKind.wrap_u64]
      omega
    replace hdm := Lib.hid hdm
    clear hml hq1
    go_upto_block 2 with fail
    rw [eR.out]
    clear eR
    have hq1 : R / yn1 < 18446744073709551616 := Nat.lt_of_le_of_lt (Nat.div_le_self _ _) (by omega)
    have hmod := Nat.div_add_mod R yn1
    have hml : R % yn1 < yn1 := Nat.mod_lt _ (by omega)
    have hle : R / yn1 * yn1 ≤ R := Nat.div_mul_le_self R yn1
    rw [show IntKind.u64.wrap ((R : Int).tdiv (yn1 : Int)) = ((R / yn1 : Nat) : Int) by rw [← Int.ofNat_tdiv]; exact wrap_nat _ hq1]
    rw [show IntKind.u64.wrap (((R / yn1 : Nat) : Int) * (yn1 : Int)) = ((R / yn1 * yn1 : Nat) : Int) by rw [← Int.natCast_mul]; exact wrap_nat _ (by omega)]
    rw [show IntKind.u64.wrap ((R : Int) - ((R / yn1 * yn1 : Nat) : Int)) = ((R % yn1 : Nat) : Int) by
      rw [← Int.ofNat_sub hle, Nat.mul_comm, show R - yn1 * (R / yn1) = R % yn1 by omega]; exact wrap_nat _ (by omega)]
    have hfirst := mend_first (yn1 := yn1) (yn0 := yn0) (un := un0) (u := R) (by omega) y0 l0
    have hmend := mend_ok (yn1 := yn1) (yn0 := yn0) (un := un0) (u := R) (by omega) y0 l0 (by rw [← hYd.out]; exact hR) (R / yn1 + 1) (R / yn1) (R % yn1) (by omega) (by rw [Nat.mul_comm]; exact hmod) (by omega) hfirst
    have hinv : R / yn1 * yn1 + R % yn1 = R := by rw [Nat.mul_comm]; exact hmod
    have hQ0 : Hid ((R * 4294967296 + un0) / (yn1 * 4294967296 + yn0) = (R * 4294967296 + un0) / Y) := by
      show _ = _
      rw [← hYd.out]
    generalize R / yn1 = qb at *
    generalize R % yn1 = rb at *
    generalize (R * 4294967296 + un0) / (yn1 * 4294967296 + yn0) = Q0 at *
    clear hle hmod hfirst
    go_cut [18] (fun qv wx => qv = .int .u64 Q0 ∧ wx = wc)
    case first =>
      go_wp2_with fail
      go_loopw [18, 16] (fun qv rv wr => ∃ q r f : Nat, qv = .int .u64 q ∧ rv = .int .u64 r ∧ q < f ∧ q < 18446744073709551616 ∧ q * yn1 + r = R ∧ r < 4294967296 ∧ mend yn1 yn0 un0 f q r = Q0 ∧ wc = wr) (fun qv _ _ => (intOf qv).toNat)
      case atStart => exact ⟨qb, rb, qb + 1, rfl, rfl, by omega, by omega, hinv, by omega, hmend, rfl⟩
      case round =>
        obtain ⟨q, r, f, rfl, rfl, hqf, hqb, hqr, hr, hm, rfl⟩ := hrel
        obtain ⟨f, rfl⟩ : ∃ f', f = f' + 1 := ⟨f - 1, by omega⟩
        simp only [mend] at hm
        have ew2 : IntKind.u64.wrap (4294967296 * (r : Int) + (un0 : Int)) = ((4294967296 * r + un0 : Nat) : Int) := by
          rw [show 4294967296 * (r : Int) + (un0 : Int) = ((4294967296 * r + un0 : Nat) : Int) by omega]; exact wrap_nat _ (by omega)
        have eqn : 0 < q → IntKind.u64.wrap ((q : Int) - 1) = ((q - 1 : Nat) : Int) := by
          intro h; rw [show (q : Int) - 1 = ((q - 1 : Nat) : Int) by omega]; exact wrap_nat _ (by omega)
        have ern : IntKind.u64.wrap ((r : Int) + yn1) = ((r + yn1 : Nat) : Int) := by
          rw [show (r : Int) + yn1 = ((r + yn1 : Nat) : Int) by omega]; exact wrap_nat _ (by omega)
        have hqn : 0 < q → (q - 1) * yn1 + (r + yn1) = R := by
          intro h; obtain ⟨q, rfl⟩ : ∃ q', q = q' + 1 := ⟨q - 1, by omega⟩
          rw [Nat.add_mul] at hqr; simp only [Nat.add_sub_cancel]; omega
        replace hm := Lib.hid hm
        replace hqr := Lib.hid hqr
        replace hqn := Lib.hid hqn
        replace eqn := Lib.hid eqn
        replace ern := Lib.hid ern
        by_cases c1 : 4294967296 ≤ q
        · have d1 : decide ((4294967296 : Int) ≤ (q : Int)) = true := by simp; omega
          go_upto_region 25 with fail
          go_upto_region 27 with fail
          have hq0 : 0 < q := by omega
          have hm2 : (if 4294967296 ≤ r + yn1 then q - 1 else mend yn1 yn0 un0 f (q - 1) (r + yn1)) = Q0 := by have := hm.out; rw [if_pos (Or.inl c1)] at this; exact this
          replace hqn := Lib.hid (hqn.out hq0)
          first | rw [eqn.out hq0] | rw [show (q : Int) - 1 = ((q - 1 : Nat) : Int) by omega]
          first | rw [ern.out] | rw [show (r : Int) + yn1 = ((r + yn1 : Nat) : Int) by omega]
          have hlt : q - 1 < q := by omega
          have hlt2 : q - 1 < f := by omega
          have hlt3 : q - 1 < 18446744073709551616 := by omega
          clear eqn ern hm hqr ew2
          replace hm2 := Lib.hid hm2
          generalize r + yn1 = rn at *
          generalize q - 1 = qn at *
          by_cases c3 : 4294967296 ≤ rn
          · have d3 : decide ((4294967296 : Int) ≤ (rn : Int)) = true := by simp; omega
            have hm3 : qn = Q0 := by have := hm2.out; rw [if_pos c3] at this; exact this
            replace hm3 := Lib.hid hm3
            go_wp2_with fail
            go_meet
            exact ⟨by rw [hm3.out], rfl⟩
          · have d3 : decide ((4294967296 : Int) ≤ (rn : Int)) = false := by simp; omega
            have hm3 : mend yn1 yn0 un0 f qn rn = Q0 := by have := hm2.out; rw [if_neg c3] at this; exact this
            replace hm3 := Lib.hid hm3
            go_wp2_with fail
            go_roundw
            case measure => simp only [intOf]; omega
            case rel => exact ⟨qn, rn, f, rfl, rfl, hlt2, hlt3, hqn.out, by omega, hm3.out, by trivial⟩
        · have d1 : decide ((4294967296 : Int) ≤ (q : Int)) = false := by simp; omega
          have hqy : q * yn0 < 18446744073709551616 := by
            have := Nat.mul_lt_mul_of_lt_of_le (show q < 4294967296 by omega) (Nat.le_of_lt y0) (by omega)
            omega
          have ew1 : IntKind.u64.wrap ((q : Int) * (yn0 : Int)) = ((q * yn0 : Nat) : Int) := by rw [← Int.natCast_mul]; exact wrap_nat _ hqy
          have hz0 : q = 0 → q * yn0 = 0 := by rintro rfl; simp
          generalize q * yn0 = P at *
          by_cases c2 : 4294967296 * r + un0 < P
          · have d2 : decide (4294967296 * (r : Int) + (un0 : Int) < (P : Int)) = true := by simp; omega
            go_upto_region 25 with fail
            go_upto_region 27 with fail
            have hq0 : 0 < q := by exact Nat.pos_of_ne_zero (fun h => by have := hz0 h; omega)
            have hm2 : (if 4294967296 ≤ r + yn1 then q - 1 else mend yn1 yn0 un0 f (q - 1) (r + yn1)) = Q0 := by have := hm.out; rw [if_pos (Or.inr c2)] at this; exact this
            replace hqn := Lib.hid (hqn.out hq0)
            first | rw [eqn.out hq0] | rw [show (q : Int) - 1 = ((q - 1 : Nat) : Int) by omega]
            first | rw [ern.out] | rw [show (r : Int) + yn1 = ((r + yn1 : Nat) : Int) by omega]
            have hlt : q - 1 < q := by omega
            have hlt2 : q - 1 < f := by omega
            have hlt3 : q - 1 < 18446744073709551616 := by omega
            clear eqn ern hm hqr ew2
            replace hm2 := Lib.hid hm2
            generalize r + yn1 = rn at *
            generalize q - 1 = qn at *
            by_cases c3 : 4294967296 ≤ rn
            · have d3 : decide ((4294967296 : Int) ≤ (rn : Int)) = true := by simp; omega
              have hm3 : qn = Q0 := by have := hm2.out; rw [if_pos c3] at this; exact this
              replace hm3 := Lib.hid hm3
              go_wp2_with fail
              go_meet
              exact ⟨by rw [hm3.out], rfl⟩
            · have d3 : decide ((4294967296 : Int) ≤ (rn : Int)) = false := by simp; omega
              have hm3 : mend yn1 yn0 un0 f qn rn = Q0 := by have := hm2.out; rw [if_neg c3] at this; exact this
              replace hm3 := Lib.hid hm3
              go_wp2_with fail
              go_roundw
              case measure => simp only [intOf]; omega
              case rel => exact ⟨qn, rn, f, rfl, rfl, hlt2, hlt3, hqn.out, by omega, hm3.out, by trivial⟩
          · have d2 : decide (4294967296 * (r : Int) + (un0 : Int) < (P : Int)) = false := by simp; omega
            have hm3 : q = Q0 := by have := hm.out; rw [if_neg (by omega)] at this; exact this
            replace hm3 := Lib.hid hm3
            clear hm
            go_wp2_with fail
            go_meet
            exact ⟨by rw [hm3.out], rfl⟩
    case rest =>
      obtain ⟨rfl, rfl⟩ := hcut
      obtain ⟨S, hS, hdm2⟩ := digit_at (show 0 < Y by omega) hQ0.out
      clear hmend hinv hQ0
      have eS : Hid (IntKind.u64.wrap (IntKind.u64.wrap (IntKind.u64.wrap ((R : Int) * 4294967296) + (un0 : Int)) - IntKind.u64.wrap ((Q0 : Int) * (Y : Int))) = (S : Int)) := by
        show _ = _
        rw [← Int.natCast_mul]
        generalize Q0 * Y = P at *
        simp only [IntKind.wrap_u64]
        omega
      have eQ : Hid (IntKind.u64.wrap (IntKind.u64.wrap ((Q1 : Int) * 4294967296) + (Q0 : Int)) = ((Q1 * 4294967296 + Q0 : Nat) : Int)) := by
        show _ = _
        have q1b := digit_lt hU l1' hdm.out
        have q0b := digit_lt hR l0 hdm2
        simp only [IntKind.wrap_u64]
        omega
      replace hdm2 := Lib.hid hdm2
      have z : (S : Int) / 2 ^ s = ((S / 2 ^ s : Nat) : Int) := by simp
      obtain ⟨t1, t2⟩ := two_digits hLd.out hS hdm.out hdm2.out
      replace t1 := Lib.hid t1
      replace t2 := Lib.hid t2
      replace z := Lib.hid z
      go_wp2_with fail
      rw [eQ.out, eS.out, z.out]
      go_ret2
      refine ⟨?_, Chg.refl _ _⟩
      have pair : ∀ a b c d : Nat, a = c → b = d → Ending.returned (.tuple #[.int .u64 (c : Int), .int .u64 ((d / 2 ^ s : Nat) : Int)]) = Ending.returned (.tuple #[.int .u64 (a : Int), .int .u64 ((b / 2 ^ s : Nat) : Int)]) := by
        rintro a b _ _ rfl rfl
        rfl
      exact pair _ _ _ _ t1.out t2.out
/-- bits.Div64: the quotient and the rest. -/
theorem div64 (hi lo y : Nat) (hy : y < 18446744073709551616) (hl : lo < 18446744073709551616) (hh : hi < y) (w : World) :
    Calls Try.prog 27 #[.int .u64 hi, .int .u64 lo, .int .u64 y] w fun e w' => e = .returned (.tuple #[.int .u64 (((hi * 18446744073709551616 + lo) / y : Nat) : Int), .int .u64 (((hi * 18446744073709551616 + lo) % y : Nat) : Int)]) ∧ Chg [] w w' := by
  rcases Nat.eq_zero_or_pos hi with h | h
  · subst h
    rw [Nat.zero_mul, Nat.zero_add]
    exact div64_zero lo y hy hl hh w
  · exact div64_big hi lo y hy hl h hh w
end Go.Proofs.Ytlkmdmaemjfelaa
