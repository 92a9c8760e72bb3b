/- The proof of PlanEvery, but for its row. -/
import Derived.Test.YtlbkjhfnpjbjlaaMPlan7
/- PlanEvery. -/
namespace Go.Proofs.Ytlbkjhfnpjbjlaa
open Go.RowKit Go.Vx
set_option linter.unusedVariables false
set_option linter.unusedSimpArgs false

theorem row_one {w : World} {x : TV} (hx : TArg w x) : TRow0 ((w.alloc (.cells (tvEnc x).toArray 24)).alloc (.cells (tvEnc x).toArray 24)) (some ⟨w.heap.size + 1, 0, none⟩) 1 [x] :=
  ⟨Src.lit (size := 12) (m := 1) (cs := (tvEnc x).toArray) (B := w.heap.size + 1) (by simp) rfl, fun y hy => by
    rw [List.mem_singleton.1 hy]
    exact ⟨(hx.tg.alloc _).alloc _, (hx.wt.alloc _).alloc _⟩, rfl⟩
theorem perAt_get (t : Tp) {N k : Nat} (hk : k < N) : (perAt t N).getD k 0 = t.frm + (k : Int) * t.every := by
  unfold perAt
  simp [List.getD, List.getElem?_map, hk]
set_option maxRecDepth 100000 in
set_option maxHeartbeats 8000000 in
theorem planEvery_walk (w : World) (x : TV) (hx : TArg w x) : Calls Try.prog 4 #[.agg #[.int .i64 x.t.kind, .int .i64 x.t.id, .int .i64 x.t.ent, .int .i64 x.t.frm, .int .i64 x.t.til, .int .i64 x.t.every, .int .i64 x.t.amt, .int .i64 x.t.deb, .int .i64 x.t.cred, .slice x.tA x.t.tg.length x.tc, .slice x.wA x.t.wt.length x.wc, .int .i64 x.t.rank]] w fun e w' => e = .returned (.bool true) ∧ Chg [] w w' := by
  have hsm := pl_small (c := 1) (row_one hx) (by omega)
  have hsy := @small_yes [x]
  have hal := pl_alive
  obtain ⟨t, tA, tc, wA, wc⟩ := x
  have htg := hx.tg
  have hwt := hx.wt
  dsimp only at htg hwt
  have hpr := fun W (z : Chg [] w W) (h1 : t.tg.length ≤ 1000000) (h2 : t.wt.length ≤ 1000000) => pl_periods t (tc := tc) (wc := wc) (htg.chg z (by simp)) (hwt.chg z (by simp)) h1 h2
  have hck := fun W (z : Chg [] w W) (h1 : t.tg.length ≤ 1000000) (h2 : t.wt.length ≤ 1000000) => pl_check t (tc := tc) (wc := wc) (htg.chg z (by simp)) (hwt.chg z (by simp)) h1 h2
  have hcE : chkE t = if checkT t = true then 0 else 1 := rfl
  have hpl : perL t = if checkT t = true then perAt t (cntT t) else [] := rfl
  have hcf := @check_front t
  have hcl := @cnt_lt t
  have hpg := fun k => @perAt_get t (cntT t) k
  have hpn := per_len t (cntT t)
  unfold tvEnc at hsm
  generalize smallN [(⟨t, tA, tc, wA, wc⟩ : TV)] = sb at *
  generalize cntT t = N at *
  generalize perAt t N = PA at *
  generalize checkT t = cb at *
  generalize perL t = PL at *
  generalize chkE t = CE at *
  clear hx htg hwt
  obtain ⟨kind, id', ent, frm, til, every, amt, deb, cred, tg, wt, rank⟩ := t
  unfold tpV at *
  dsimp only at *
  have hz := (Chg.refl [] w).alloc (.cells #[.int .i64 kind, .int .i64 id', .int .i64 ent, .int .i64 frm, .int .i64 til, .int .i64 every, .int .i64 amt, .int .i64 deb, .int .i64 cred, .slice tA tg.length tc, .slice wA wt.length wc, .int .i64 rank] 24)
  have hB := Blk.new w 24 #[.int .i64 kind, .int .i64 id', .int .i64 ent, .int .i64 frm, .int .i64 til, .int .i64 every, .int .i64 amt, .int .i64 deb, .int .i64 cred, .slice tA tg.length tc, .slice wA wt.length wc, .int .i64 rank]
  have hz2 := hz.alloc (.cells #[.int .i64 kind, .int .i64 id', .int .i64 ent, .int .i64 frm, .int .i64 til, .int .i64 every, .int .i64 amt, .int .i64 deb, .int .i64 cred, .slice tA tg.length tc, .slice wA wt.length wc, .int .i64 rank] 24)
  replace hsy := Lib.hid hsy
  replace hpr := Lib.hid hpr
  replace hck := Lib.hid hck
  replace hcE := Lib.hid hcE
  replace hpl := Lib.hid hpl
  replace hcf := Lib.hid hcf
  replace hcl := Lib.hid hcl
  replace hpg := Lib.hid hpg
  replace hpn := Lib.hid hpn
  go_enter Try.func4, Try.ntmps4
  go_wp2_with fail
  refine hsm.mono ?_
  rintro e w1 ⟨rfl, hz3⟩
  clear hsm
  have hz13 := hz2.trans' hz3
  cases sb with
  | false =>
    go_wp2_with fail
    refine (hal _).mono ?_
    rintro e w2 ⟨rfl, hz4⟩
    go_wp2_with fail
    go_ret
    exact ⟨rfl, hz13.trans' hz4⟩
  | true =>
  obtain ⟨-, hsl, -⟩ := hsy.out rfl
  have hsl' := hsl _ (List.mem_singleton.2 rfl)
  dsimp only at hsl'
  clear hsy hsl
  have hB1 := (hB.alloc (.cells #[.int .i64 kind, .int .i64 id', .int .i64 ent, .int .i64 frm, .int .i64 til, .int .i64 every, .int .i64 amt, .int .i64 deb, .int .i64 cred, .slice tA tg.length tc, .slice wA wt.length wc, .int .i64 rank] 24)).chg hz3 (by simp)
  clear hB hz hz2 hz3
  replace hsl' := Lib.hid hsl'
  go_wp2_with fail
  refine (hal _).mono ?_
  rintro e w2 ⟨rfl, hz4⟩
  clear hal
  have hzw2 := hz13.trans' hz4
  have hB2 := hB1.chg hz4 (by simp)
  have hpr2 := hpr.out _ hzw2 (by have := hsl'.out.1; omega) (by have := hsl'.out.2; omega)
  have hck0 := fun W z => hck.out W z (by have := hsl'.out.1; omega) (by have := hsl'.out.2; omega)
  replace hck0 := Lib.hid hck0
  generalize tg.length = tn at *
  generalize wt.length = wn at *
  have hBc := fun W (k : Chg [] w2 W) => hB2.chg k (by simp)
  replace hBc := Lib.hid hBc
  have c0 := hB2.cell 0
  have c1 := hB2.cell 1
  have c2 := hB2.cell 2
  have c3 := hB2.cell 3
  have c4 := hB2.cell 4
  have c5 := hB2.cell 5
  have c6 := hB2.cell 6
  have c7 := hB2.cell 7
  have c8 := hB2.cell 8
  have c9 := hB2.cell 9
  have c10 := hB2.cell 10
  have c11 := hB2.cell 11
  clear hB1 hB2 hz13 hz4 hpr hck
  go_wp2_with fail
  refine hpr2.mono ?_
  rintro e w3 ⟨pv, pF, rfl, hpf, -, hz5⟩
  obtain ⟨pA, pc, rfl, -, hpc, hpm, -⟩ := _root_.id hpf
  have hzw3 := hzw2.trans' hz5
  have hck3 := hck0.out _ hzw3
  have hB3 := hBc.out _ hz5
  clear hpr2 hck0 c0 c1 c2 c3 c4 c5 c6 c7 c8 c9 c10 c11
  obtain ⟨jb, hjb⟩ : ∃ jb, w.heap.size = jb := ⟨_, rfl⟩
  rw [hjb] at hB3 ⊢
  have c0 := hB3.cell 0
  have c1 := hB3.cell 1
  have c2 := hB3.cell 2
  have c3 := hB3.cell 3
  have c4 := hB3.cell 4
  have c5 := hB3.cell 5
  have c6 := hB3.cell 6
  have c7 := hB3.cell 7
  have c8 := hB3.cell 8
  have c9 := hB3.cell 9
  have c10 := hB3.cell 10
  have c11 := hB3.cell 11
  clear hBc hjb
  rw [hcE.out] at hck3
  cases cb with
  | false =>
    have hp0 : PL.length = 0 := by rw [hpl.out]; rfl
    rw [if_neg (by simp)] at hck3
    rw [hp0] at hpf ⊢
    clear hp0 hpc hpm
    go_wp2_with fail
    refine hck3.mono ?_
    rintro e w4 ⟨rfl, hz6⟩
    go_wp2_with fail
    go_ret
    exact ⟨rfl, hzw3.trans' hz6⟩
  | true =>
  rw [if_pos rfl] at hck3
  obtain ⟨h1, h2, h3, h4, h5, -⟩ := hcf.out rfl
  have hcl2 := fun k => hcl.out rfl (k := k)
  have hpl2 : PL = PA := by rw [hpl.out, if_pos rfl]
  have hPn : PL.length = N := by rw [hpl2]; exact hpn.out
  have hcell : ∀ W, Chg [] w3 W → ∀ k, k < N → ∃ ad, pA = some ad ∧ W.cell? (ad.add k) = some (.int .i64 (frm + (k : Int) * every)) := fun W z k hk => by
    obtain ⟨ad, ha, hc⟩ := (Fix.src (hpf.chg z (by simp))).2 (by omega)
    refine ⟨ad, ha, hc k _ ?_⟩
    rw [List.getElem?_map, List.getElem?_eq_getElem (by omega), Option.map_some]
    have := hpg.out _ hk
    rw [← hpl2] at this
    simp [List.getD, List.getElem?_eq_getElem (show k < PL.length by omega)] at this
    rw [this]
  have hN0 : 0 < N := (hcl2 0).2 (by simpa using h2)
  have hNl : N ≤ 1200 := by
    have := (hcl2 (N - 1)).1 (by omega)
    have h7 : ((N - 1 : Nat) : Int) * 1 ≤ ((N - 1 : Nat) : Int) * every := Int.mul_le_mul_of_nonneg_left (by omega) (by omega)
    omega
  rw [hPn]
  replace hcl2 := Lib.hid hcl2
  replace hcell := Lib.hid hcell
  replace hPn := Lib.hid hPn
  clear hpl hpl2 hpg hpn hcf hcl hcE hpf hpc hpm
  go_wp2_with fail
  refine hck3.mono ?_
  rintro e w4 ⟨rfl, hz6⟩
  have hz34 := hz6
  have hBc := fun W (k : Chg [] w4 W) => (hB3.chg hz6 (by simp)).chg k (by simp)
  replace hBc := Lib.hid hBc
  clear hck3 c0 c1 c2 c3 c4 c5 c6 c7 c8 c9 c10 c11 hB3
  go_wp2_with fail
  go_loopw [4] (fun iv wr => ∃ k : Nat, k ≤ N ∧ iv = .int .i64 k ∧ Chg [] w4 wr) (fun iv _ => N - (intOf iv).toNat)
  case atStart => exact ⟨0, by omega, rfl, Chg.refl _ _⟩
  case round =>
    obtain ⟨k, hk, rfl, hzr⟩ := hrel
    have hB4 := hBc.out _ hzr
    have d3 : wr.cell? ⟨jb, 3, none⟩ = some (.int .i64 frm) := hB4.cell 3
    have d4 : wr.cell? ⟨jb, 4, none⟩ = some (.int .i64 til) := hB4.cell 4
    have d5 : wr.cell? ⟨jb, 5, none⟩ = some (.int .i64 every) := hB4.cell 5
    have hkw : IntKind.i64.wrap ((k : Int) + 1) = (k : Int) + 1 := by rw [IntKind.wrap_i64]; omega
    clear hB4
    by_cases hlt : k < N
    · obtain ⟨ad, rfl, q0⟩ := hcell.out _ (hz6.trans' hzr) k hlt
      have hle := (hcl2.out k).1 hlt
      have hke : 0 ≤ (k : Int) * every := Int.mul_nonneg (by omega) (by omega)
      have hlt2 : (k : Int) < (N : Int) := by omega
      have hw0 : IntKind.i64.wrap ((k : Int) * every) = (k : Int) * every := by rw [IntKind.wrap_i64]; omega
      have hw2 : IntKind.i64.wrap (frm + (k : Int) * every) = frm + (k : Int) * every := by rw [IntKind.wrap_i64]; omega
      obtain ⟨Y, hY⟩ : ∃ Y, (k : Int) * every = Y := ⟨_, rfl⟩
      rw [hY] at q0 hle hke hw2
      have hw1 : IntKind.i64.wrap ((k : Int) * every) = Y := by rw [hw0, hY]
      clear hw0
      replace hY := Lib.hid hY
      have b1 : (frm + Y != frm + Y) = false := by simp
      have b2 : decide (til < frm + Y) = false := by simp; omega
      clear hle hke
      go_wp2_with fail
      go_quiet (fail)
      go_wp2_with fail
      exact ⟨⟨k + 1, by omega, by go_num, hzr.drewN _⟩, by simp [intOf]; omega⟩
    · obtain rfl : k = N := by omega
      obtain ⟨ad, rfl, q0⟩ := hcell.out _ (hz6.trans' hzr) (k - 1) (by omega)
      have hle := (hcl2.out (k - 1)).1 (by omega)
      have hge : ¬ frm + (k : Int) * every ≤ til := fun h => by have := (hcl2.out k).2 h; omega
      have hke : 0 ≤ ((k - 1 : Nat) : Int) * every := Int.mul_nonneg (by omega) (by omega)
      have hst : frm + (k : Int) * every = frm + ((k - 1 : Nat) : Int) * every + every := by
        rw [show (k : Int) = ((k - 1 : Nat) : Int) + 1 by omega, Int.add_mul]; omega
      rw [hst] at hge
      have hk1 : IntKind.i64.wrap ((k : Int) - 1) = ((k - 1 : Nat) : Int) := by rw [IntKind.wrap_i64]; omega
      have hk2 : ((k - 1 : Nat) : Int) < (k : Int) := by omega
      have hk3 : k - 1 < k := by omega
      generalize ((k - 1 : Nat) : Int) * every = Y at *
      have hw1 : IntKind.i64.wrap (frm + Y + every) = frm + Y + every := by rw [IntKind.wrap_i64]; omega
      have b1 : decide ((1 : Int) ≤ (k : Int)) = true := by simp; omega
      have b2 : decide (til < frm + Y + every) = true := by simp; omega
      replace hge := Lib.hid hge
      replace hst := Lib.hid hst
      clear hle hke hlt
      generalize k - 1 = m at *
      go_wp2_with fail
      go_quiet (fail)
      go_wp2_with fail
      go_ret
      exact ⟨rfl, (hzw3.trans' (hz6.trans' hzr)).drewN _⟩
end Go.Proofs.Ytlbkjhfnpjbjlaa
