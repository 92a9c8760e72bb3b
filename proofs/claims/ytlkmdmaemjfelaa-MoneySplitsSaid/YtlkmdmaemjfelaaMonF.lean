/- The money's laws of Scale: the guard's call, what turning the sign does. -/
import Derived.Test.YtlkmdmaemjfelaaMonD
import Derived.Test.YtlkmdmaemjfelaaMonE
namespace Go.Proofs.Ytlkmdmaemjfelaa
open Go.RowKit Go.Vx
set_option linter.unusedVariables false
set_option linter.unusedSimpArgs false

theorem e5 : scale 5 1 2 = (2, 0) := by decide
theorem e7 : scale 7 1 2 = (4, 0) := by decide
theorem e10 : splitN (-10 : Int).natAbs (weigh [1, 1, 1]).toNat ([1, 1, 1].map Int.toNat) = [4, 3, 3] := by decide
theorem split10 {w : World} {A : Option Addr} {n c : Nat} (hs : Src w 1 A n ([1, 1, 1].map (Value.int .i64))) :
    Calls Try.prog 12 #[.int .i64 (-10), .slice A n c] w fun e w' => ∃ v F, e = .returned (.tuple #[v, .int .i64 0]) ∧ Fix w' 3 1 v n [.int .i64 (-4), .int .i64 (-3), .int .i64 (-3)] F ∧ (∀ g, g ∈ F → w.heap.size ≤ g) ∧ Chg [] w w' := by
  have e2 : signedAll (-10) [4, 3, 3] = [.int .i64 (-4), .int .i64 (-3), .int .i64 (-3)] := by simp [signedAll]
  have h3 := split_good (w := w) (A := A) (n := n) (c := c) (a := -10) (l := [1, 1, 1]) hs (by decide) (by decide)
  rw [e10, e2] at h3
  exact h3
set_option maxHeartbeats 1000000 in
set_option maxRecDepth 8000 in
theorem m_alive (w : World) : Calls Try.prog 10 #[] w fun e w' => e = .returned (.bool true) ∧ Chg [] w w' := by
  have h1 := m_scale 5 1 2
  have h2 := m_scale 7 1 2
  rw [e5] at h1
  rw [e7] at h2
  go_enter Try.func10, Try.ntmps10
  go_wp2_with fail
  refine (h1 _).mono ?_
  rintro e w1 ⟨rfl, hc1⟩
  dsimp only
  go_wp2_with fail
  refine (h2 _).mono ?_
  rintro e w2 ⟨rfl, hc2⟩
  dsimp only
  go_wp2_with fail
  refine (split10 (by exact Src.lit rfl rfl)).mono ?_
  rintro e w3 ⟨v, F, rfl, hf, hF, hc3⟩
  obtain ⟨A, c, rfl⟩ : ∃ A c, v = .slice A 3 c := by obtain ⟨A, c, h, _⟩ := id hf; exact ⟨A, c, h⟩
  obtain ⟨g, rfl, rfl, hel⟩ := hf.el (k := 0) (by omega)

  obtain ⟨u0, r0, c0, -⟩ := hf.one_at (k := 0) (by omega)
  obtain ⟨u1, r1, c1, -⟩ := hf.one_at (k := 1) (by omega)
  obtain ⟨u2, r2, c2, -⟩ := hf.one_at (k := 2) (by omega)
  simp at r0 r1 r2
  subst r0 r1 r2
  clear hel
  dsimp only
  go_wp2_with fail
  go_ret
  exact ⟨rfl, ((hc1.trans' hc2).alloc _).trans' hc3⟩
theorem roundQ_mono {P P' d : Nat} (h : P ≤ P') : roundQ P d ≤ roundQ P' d := by
  have h1 : P / d ≤ P' / d := Nat.div_le_div_right h
  unfold roundQ
  rcases Nat.lt_or_ge (P / d) (P' / d) with h2 | h2
  · split <;> split <;> omega
  · have e : P / d = P' / d := by omega
    have h3 : P % d ≤ P' % d := by
      have a1 := Nat.div_add_mod P d
      have a2 := Nat.div_add_mod P' d
      rw [e] at a1
      omega
    rw [e]
    split <;> split <;> omega
theorem roundQ_same {N d : Nat} (hd : 0 < d) : roundQ (N * d) d = N := by
  unfold roundQ
  rw [Nat.mul_mod_left, Nat.mul_div_cancel _ hd]
  split
  · rename_i h; omega
  · rfl
def scaleOk (a num den : Int) : Prop := okM a = true ∧ 0 ≤ num ∧ num ≤ 1000000000 ∧ 1 ≤ den ∧ den ≤ 1000000000
theorem scale_no {a num den : Int} (h : ¬ scaleOk a num den) : scale a num den = (0, 1) := if_neg h
theorem scale_big {a num den : Int} (h : scaleOk a num den) (hb : 1000000000000000 < roundQ (a.natAbs * num.toNat) den.toNat) : scale a num den = (0, 2) := by
  have : scale a num den = _ := if_pos h
  rw [this, if_pos hb]
theorem scale_yes {a num den : Int} (h : scaleOk a num den) (hb : roundQ (a.natAbs * num.toNat) den.toNat ≤ 1000000000000000) : scale a num den = (if a < 0 then -(roundQ (a.natAbs * num.toNat) den.toNat : Int) else roundQ (a.natAbs * num.toNat) den.toNat, 0) := by
  have : scale a num den = _ := if_pos h
  rw [this, if_neg (by omega)]
theorem roundQ_zero (d : Nat) (hd : 0 < d) : roundQ 0 d = 0 := by
  have := roundQ_same (N := 0) hd
  rwa [Nat.zero_mul] at this
set_option maxHeartbeats 1000000 in
set_option maxRecDepth 8000 in
theorem moneyTurns_walk (a : Int) (wa : (Lit.int .i64 a).wf = true) (num : Int) (wn : (Lit.int .i64 num).wf = true) (den : Int) (wd : (Lit.int .i64 den).wf = true) (w : World) :
    Calls Try.prog 4 #[.int .i64 a, .int .i64 num, .int .i64 den] w fun e w' => e = .returned (.bool true) ∧ Chg [] w w' := by
  have h1 := m_scale a num den
  by_cases hk : scaleOk a num den
  · have hA := okM_iff.1 hk.1
    have hneg : IntKind.i64.wrap (-a) = -a := by rw [IntKind.wrap_i64]; omega
    have hk2 : scaleOk (-a) num den := ⟨okM_iff.2 (by omega), hk.2⟩
    have hk3 : scaleOk a den den := ⟨hk.1, by have := hk.2; omega, by have := hk.2; omega, hk.2.2.2⟩
    have hk4 : scaleOk a (min (num + 1) 1000000000) den := ⟨hk.1, by have := hk.2; omega, by have := hk.2; omega, hk.2.2.2⟩
    have hN : (-a).natAbs = a.natAbs := Int.natAbs_neg a
    have h2 := m_scale (-a) num den
    have h3 := m_scale a den den
    have h4 := m_scale a (min (num + 1) 1000000000) den
    have hn1 : IntKind.i64.wrap (num + 1) = num + 1 := by rw [IntKind.wrap_i64]; have := hk.2; omega
    have hd0 : 0 < den.toNat := by have := hk.2; omega
    rw [scale_yes hk3 (by rw [roundQ_same hd0]; omega), roundQ_same hd0, show (if a < 0 then -(a.natAbs : Int) else (a.natAbs : Int)) = a by split <;> omega] at h3
    have hmono : roundQ (a.natAbs * num.toNat) den.toNat ≤ roundQ (a.natAbs * (min (num + 1) 1000000000).toNat) den.toNat := roundQ_mono (Nat.mul_le_mul_left _ (by have := hk.2; omega))
    have hzero : a = 0 → roundQ (a.natAbs * num.toNat) den.toNat = 0 := by
      rintro rfl
      rw [show (0 : Int).natAbs * num.toNat = 0 by simp]
      exact roundQ_zero _ hd0
    rcases Nat.lt_or_ge 1000000000000000 (roundQ (a.natAbs * num.toNat) den.toNat) with hb | hb
    · rw [scale_big hk hb] at h1
      rw [scale_big hk2 (by rw [hN]; exact hb)] at h2
      clear h3 h4 hmono hzero hk hk2 hk3 hk4
      go_enter Try.func4, Try.ntmps4
      go_wp2_with (go_at_call 10; refine (m_alive _).mono ?_; rintro e w0 ⟨rfl, hc0⟩)
      refine (h1 _).mono ?_
      rintro e w1 ⟨rfl, hc1⟩
      dsimp only
      go_wp2_with fail
      refine (h2 _).mono ?_
      rintro e w2 ⟨rfl, hc2⟩
      dsimp only
      go_wp2_with fail
      go_ret
      exact ⟨by trivial, (hc0.trans' hc1).trans' hc2⟩
    · rw [scale_yes hk hb] at h1
      rw [scale_yes hk2 (by rw [hN]; exact hb), hN] at h2
      obtain ⟨r, hr⟩ : ∃ r, r = roundQ (a.natAbs * num.toNat) den.toNat := ⟨_, rfl⟩
      rw [← hr] at h1 h2 hb hmono hzero
      obtain ⟨s, hs⟩ : ∃ s : Int, s = if a < 0 then -(r : Int) else r := ⟨_, rfl⟩
      have hs2 : (if -a < 0 then -(r : Int) else (r : Int)) = -s := by
        subst hs
        by_cases h0 : a = 0
        · have := hzero h0
          split <;> split <;> omega
        · split <;> split <;> omega
      have hmax : max s (-s) = (r : Int) := by subst hs; split <;> omega
      have hsb : -1000000000000000 ≤ s := by subst hs; split <;> omega
      have hsb2 : s ≤ 1000000000000000 := by subst hs; split <;> omega
      rw [← hs] at h1
      rw [hs2] at h2
      replace hmax := Lib.hid hmax
      have ha2 : Hid (a = a) := Lib.hid rfl
      by_cases hb2 : 1000000000000000 < roundQ (a.natAbs * (min (num + 1) 1000000000).toNat) den.toNat
      · rw [scale_big hk4 hb2] at h4
        clear hmono hzero hk hk2 hk3 hk4 hs hs2 hr hb2
        go_enter Try.func4, Try.ntmps4
        go_wp2_with (go_at_call 10; refine (m_alive _).mono ?_; rintro e w0 ⟨rfl, hc0⟩)
        refine (h1 _).mono ?_
        rintro e w1 ⟨rfl, hc1⟩
        dsimp only
        go_wp2_with fail
        refine (h2 _).mono ?_
        rintro e w2 ⟨rfl, hc2⟩
        dsimp only
        go_wp2_with fail
        refine (h3 _).mono ?_
        rintro e w3 ⟨rfl, hc3⟩
        dsimp only
        go_wp2_with fail
        refine (h4 _).mono ?_
        rintro e w4 ⟨rfl, hc4⟩
        dsimp only
        go_wp2_with fail
        go_ret
        exact ⟨by trivial, (((hc0.trans' hc1).trans' hc2).trans' hc3).trans' hc4⟩
      · rw [scale_yes hk4 (by omega)] at h4
        obtain ⟨r', hr'⟩ : ∃ r', r' = roundQ (a.natAbs * (min (num + 1) 1000000000).toNat) den.toNat := ⟨_, rfl⟩
        rw [← hr'] at h4 hb2 hmono
        obtain ⟨v, hv⟩ : ∃ v : Int, v = if a < 0 then -(r' : Int) else r' := ⟨_, rfl⟩
        have hvmax : max v (-v) = (r' : Int) := by subst hv; split <;> omega
        have hvb : -1000000000000000 ≤ v := by subst hv; split <;> omega
        have hvb2 : v ≤ 1000000000000000 := by subst hv; split <;> omega
        rw [← hv] at h4
        have hge : decide (max s (-s) ≤ max v (-v)) = true := by rw [hmax.out, hvmax]; simp; omega
        clear hmono hzero hk hk2 hk3 hk4 hs hs2 hr hb2 hr' hv hvmax hmax
        go_enter Try.func4, Try.ntmps4
        go_wp2_with (go_at_call 10; refine (m_alive _).mono ?_; rintro e w0 ⟨rfl, hc0⟩)
        refine (h1 _).mono ?_
        rintro e w1 ⟨rfl, hc1⟩
        dsimp only
        go_wp2_with fail
        refine (h2 _).mono ?_
        rintro e w2 ⟨rfl, hc2⟩
        dsimp only
        go_wp2_with fail
        refine (h3 _).mono ?_
        rintro e w3 ⟨rfl, hc3⟩
        dsimp only
        go_wp2_with fail
        refine (h4 _).mono ?_
        rintro e w4 ⟨rfl, hc4⟩
        dsimp only
        go_wp2_with fail
        go_ret
        exact ⟨by trivial, (((hc0.trans' hc1).trans' hc2).trans' hc3).trans' hc4⟩
  · rw [scale_no hk] at h1
    have h2 := m_scale (wrap64 (-a)) num den
    have hk2 : ¬ scaleOk (wrap64 (-a)) num den := by
      rintro ⟨k1, k2⟩
      refine hk ⟨?_, k2⟩
      have := okM_iff.1 k1
      simp [Lit.wf] at wa
      have hmin : IntKind.i64.min = -9223372036854775808 := rfl
      rw [hmin] at wa
      unfold wrap64 at this
      rw [okM_iff]
      omega
    rw [scale_no hk2] at h2
    clear hk hk2
    go_enter Try.func4, Try.ntmps4
    go_wp2_with (go_at_call 10; refine (m_alive _).mono ?_; rintro e w0 ⟨rfl, hc0⟩)
    refine (h1 _).mono ?_
    rintro e w1 ⟨rfl, hc1⟩
    dsimp only
    go_wp2_with fail
    refine (h2 _).mono ?_
    rintro e w2 ⟨rfl, hc2⟩
    dsimp only
    go_wp2_with fail
    go_ret
    exact ⟨by trivial, (hc0.trans' hc1).trans' hc2⟩
end Go.Proofs.Ytlkmdmaemjfelaa
