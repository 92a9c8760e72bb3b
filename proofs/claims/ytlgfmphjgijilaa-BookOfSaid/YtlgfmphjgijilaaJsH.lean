/- BookOf, walked. -/
import Derived.Test.YtlgfmphjgijilaaJsG
namespace Go.Proofs.Ytlgfmphjgijilaa
open Go.RowKit Go.Vx
set_option linter.unusedVariables false
set_option linter.unusedSimpArgs false

theorem turn_nat2 (turn : Int) (n : Nat) (h : 0 < n) (hn : n ≤ 1000000) : ∃ r : Nat, r < n ∧ (turn.tmod n + n).tmod n = r ∧ IntKind.i64.wrap (turn.tmod n) = turn.tmod n ∧ IntKind.i64.wrap (turn.tmod n + n) = turn.tmod n + n ∧ IntKind.i64.wrap ((turn.tmod n + n).tmod n) = (turn.tmod n + n).tmod n := by
  have e1 : turn.tmod n < n := Int.tmod_lt_of_pos turn (by omega)
  have e2 : -(n : Int) < turn.tmod n := by
    have := Int.tmod_lt_of_pos (-turn) (b := (n : Int)) (by omega)
    rw [Int.neg_tmod] at this
    omega
  have e3 := Int.tmod_nonneg (a := turn.tmod n + n) (n : Int) (by omega)
  have e4 : (turn.tmod n + n).tmod n < n := Int.tmod_lt_of_pos _ (by omega)
  exact ⟨((turn.tmod n + n).tmod n).toNat, by omega, by omega, by rw [IntKind.wrap_i64]; omega, by rw [IntKind.wrap_i64]; omega, by rw [IntKind.wrap_i64]; omega⟩
set_option maxRecDepth 100000 in
set_option maxHeartbeats 16000000 in
theorem bookOf_walk (w : World) (A : Option Addr) (n c : Nat) (l : List JV) (x : l.length = n ∧ n ≤ c ∧ c ≤ maxLen ∧ Go.Vx.Src w 6 A n (l.flatMap jvEnc) ∧ ∀ x ∈ l, JArg w x) (y : n * 72 ≤ 140737488351232) (turn : Int) (wk : (Lit.int .i64 turn).wf = true) :
    Calls Try.prog 5 #[.slice A n c, .int .i64 turn] w fun e w' => e = .returned (.bool true) ∧ Chg [] w w' := by
  obtain ⟨hl, hnc, hcm, hs, ho⟩ := x
  unfold maxLen at hcm
  have hal := l6_alive
  have hfew := bk_few (c := c) hs (by omega) (fun q hq => by
    obtain ⟨A, c, h, -⟩ := (ho q hq).ok
    have h1 := (ho q hq).hl
    have h2 := (ho q hq).hr
    unfold maxLen at h1 h2
    exact ⟨A, c, h, by omega, by omega⟩) (few := 30) (by omega)
  have hrow : ((n : Int) ≤ 30 ∧ ∀ q ∈ l, q.j.ref.size ≤ 2000 ∧ q.j.lines.length ≤ 2000) → RowOk w A n l := fun hb => ⟨hs, fun q hq => (ho q hq).ok, fun q hq => by have := (hb.2 q hq).2; omega, hl⟩
  unfold FewPost at hfew
  replace hrow := Lib.hid hrow
  replace hl := Lib.hid hl
  clear hs ho y
  go_enter Try.func5, Try.ntmps5
  go_wp2_with fail
  refine hfew.mono ?_
  rintro e w0 ⟨b, rfl, hb, hz0⟩
  clear hfew
  cases b with
  | false =>
    clear hb
    go_wp2_with fail
    refine (hal _).mono ?_
    rintro e w1 ⟨rfl, hz⟩
    clear hal
    go_wp2_with fail
    go_ret
    exact ⟨rfl, hz0.trans' hz⟩
  | true =>
  have hb' := hb rfl
  clear hb
  have hr := hrow.out hb'
  have hn30 : n ≤ 30 := by omega
  have hrs : ∀ q ∈ l, q.j.ref.size ≤ maxLen := fun q hq => by have := (hb'.2 q hq).1; unfold maxLen; omega
  replace hr := Lib.hid hr
  replace hrs := Lib.hid hrs
  clear hrow hb'
  go_wp2_with fail
  refine (hal _).mono ?_
  rintro e w1 ⟨rfl, hz1⟩
  clear hal
  have hz01 := hz0.trans' hz1
  clear hz0 hz1
  have hln := bk_lentj (c := c) (hr.out.keep hz01) (by omega)
  go_wp2_with fail
  refine hln.mono ?_
  rintro e w2 ⟨X, g, c1, rfl, hLt, hX, hgw, hc1, hz2⟩
  clear hln
  have hXn : X.length = n := by
    have := congrArg List.length hX
    rw [List.length_map, List.length_map, hl.out] at this
    exact this
  have hXj : ∀ q ∈ X, q.j.lines.length ≤ 1000000 ∧ q.j.ref.size ≤ maxLen := fun q hq => by
    have : q.j ∈ jns l := by rw [← hX]; exact List.mem_map.2 ⟨q, hq, rfl⟩
    obtain ⟨q', hq', he⟩ := List.mem_map.1 this
    rw [← he]
    exact ⟨hr.out.2.2.1 q' hq', hrs.out q' hq'⟩
  have hrX := hLt.row (fun q hq => (hXj q hq).1)
  have hof := jb_of (c := c1) hrX.1 (by omega) hrX.2.1 hXj
  rw [hX] at hof
  have hstay := fun W (z : Chg [] w2 W) (B : Option Addr) (d : Nat) (hb : RowOk W B X.length l) => bk_staysj (c := c1) (d := d) (hLt.keep z) (fun q hq => (hXj q hq).1) hc1 hb (by omega) hX
  rw [hXn] at hof hstay ⊢
  have hz02 := hz01.trans' hz2
  clear hLt hX hXn hXj hrX hz01 hz2 hgw hc1
  replace hstay := Lib.hid hstay
  go_wp2_with fail
  refine hof.mono ?_
  rintro e w3 ⟨ho1, ho2⟩
  clear hof
  obtain ⟨B, E, hBE⟩ : ∃ B E, ofN [] (jns l) = (B, E) := ⟨_, _, rfl⟩
  rw [hBE] at ho1 ho2
  dsimp only at ho1 ho2
  have hpv : ∃ pv : Option Addr, e = .returned (.tuple #[.pointer pv, .int .i64 E]) ∧ Chg [] w2 w3 ∧ ((E ≠ 0 ∧ pv = none) ∨ (E = 0 ∧ ∃ p R, pv = some ⟨p, 0, none⟩ ∧ BN w3 p B R)) := by
    by_cases hE : E = 0
    · obtain ⟨p, R, he, hB, hp, hR, hz⟩ := ho2 hE
      exact ⟨_, by rw [he, hE], hz, .inr ⟨hE, p, R, rfl, hB⟩⟩
    · obtain ⟨he, hz⟩ := ho1 hE
      exact ⟨none, he, hz, .inl ⟨hE, rfl⟩⟩
  obtain ⟨pv, rfl, hz3, hpv⟩ := hpv
  have hz03 := hz02.trans' hz3
  replace hpv := Lib.hid hpv
  replace hBE := Lib.hid hBE
  clear ho1 ho2
  go_wp2_with fail
  refine bo_loop (w := w3) (hr.out.keep hz03) (by omega) hrs.out (Chg.refl [] w3) _ _ _ _ _ _ _ _ _ _ _ _ _ _ _ _ _ _ _ _ _ _ _ _ _ _ _ _ _ _ _ _ _ _ _ _ _ _ _ _ _ _ _ _ _ _ _ _ _ _ _ _ _ _ _ _ _ _ _ _ _ _ _ _ _ _ _ _ _ _ _ _ _ _ _ _ _ _ _ _ _ _ _ _ _ _ _ _ _ _ _ _ _ _ _ _ _ _ _ _ _ _ _ _ _ _ _ _ _ _ _ _ _ _ _ _ _ ?_
  intro w4 B' E' rv y10 y29 y30 y31 y32 y33 y34 y35 y36 y37 y38 y39 y40 y41 y42 y43 y44 y45 y46 y47 y48 y49 y50 y51 y52 hBE2 hfa
  have hBB : B' = B ∧ E' = E := by
    have h := hBE2.symm.trans hBE.out
    injection h with h1 h2
    exact ⟨h1, h2⟩
  obtain ⟨rfl, rfl⟩ := hBB
  clear hBE2
  obtain ⟨Xr, Fr, hfr, hXr, hJr, hFr, hz4⟩ := hfa
  obtain ⟨Ar, cr, rfl, -⟩ := _root_.id hfr
  have hz04 := hz03.trans' hz4
  have hst := hstay.out w4 (hz3.trans' hz4) A c (hr.out.keep hz04)
  rcases hpv.out with ⟨hE, rfl⟩ | ⟨rfl, p, R, rfl, hB⟩
  · have hb1 : (E' != E') = false := by simp
    have hb2 : (E' != 0) = true := by simp [hE]
    replace hfr := Lib.hid hfr
    replace hJr := Lib.hid hJr
    clear hE hXr hFr
    go_wp2_with fail
    refine hst.mono ?_
    rintro e w5 ⟨rfl, hz5⟩
    go_wp2_with fail
    go_ret
    exact ⟨rfl, hz04.trans' hz5⟩
  · have hB4 := hB.keep hz4
    replace hfr := Lib.hid hfr
    replace hJr := Lib.hid hJr
    replace hXr := Lib.hid hXr
    replace hB4 := Lib.hid hB4
    clear hB hFr
    go_wp2_with fail
    refine hst.mono ?_
    rintro e w5 ⟨rfl, hz5⟩
    have hz05 := hz04.trans' hz5
    clear hst
    by_cases h0 : n = 0
    · subst h0
      go_wp2_with fail
      go_ret
      exact ⟨rfl, hz05⟩
    have hb0 : ((n : Int) == 0) = false := beq_eq_false_iff_ne.2 (by omega)
    obtain ⟨k, hk, hk1, q1, q2, q3⟩ := turn_nat2 turn n (by omega) (by omega)
    rw [hk1] at q3
    have hn0 : ¬ (n : Int) = 0 := by omega
    obtain ⟨ad, hA, -⟩ := hr.out.1.2 (by omega)
    subst hA
    have hturn := of_turn (L := jns l) (by rw [List.length_map, hl.out]; omega) (by rw [hBE.out]) k
    rw [hBE.out] at hturn
    dsimp only at hturn
    have hone : ∀ x ∈ l, x.pv.oneCell' = true := fun x hx => by
      obtain ⟨A, c, h, -⟩ := hr.out.2.1 x hx
      rw [h]
      rfl
    have hmm : ∀ q, q ∈ l.drop k ++ l.take k → q ∈ l := fun q hq => by
      rcases List.mem_append.1 hq with h | h
      · exact List.mem_of_mem_drop h
      · exact List.mem_of_mem_take h
    have hjr : jns (l.drop k ++ l.take k) = (jns l).drop k ++ (jns l).take k := by unfold jns; rw [List.map_append, List.map_drop, List.map_take]
    replace hturn := Lib.hid hturn
    replace hone := Lib.hid hone
    replace hmm := Lib.hid hmm
    replace hjr := Lib.hid hjr
    go_upto_region 18 with fail
    refine bo_reg18 (c := c) (P := fun w6 v x w7 => x = 0 ∧ Chg [] w6 w7 ∧ ∃ p2 R2, v = .pointer (some ⟨p2, 0, none⟩) ∧ BN w7 p2 B' R2) hl.out hk hn30 hnc (by omega) (hr.out.keep hz05).1 hone.out (Chg.refl [] w5)
      (fun w6 A4 c4 hz6 h4 => (jb_of (c := c4) h4 (by omega) (fun q hq => (hr.out.2.1 q (hmm.out q hq)).keep (hz05.trans' hz6)) (fun q hq => ⟨hr.out.2.2.1 q (hmm.out q hq), hrs.out q (hmm.out q hq)⟩)).mono (by
        rintro e w7 ⟨-, h⟩
        rw [hjr.out, hturn.out] at h
        obtain ⟨p2, R2, rfl, hB2, -, -, hz7⟩ := h rfl
        exact ⟨_, _, rfl, rfl, hz7, p2, R2, rfl, hB2⟩)) _ _ _ _ _ _ _ _ _ _ _ _ _ _ _ _ _ _ _ _ _ _ _ _ _ _ _ _ _ _ _ _ _ _ _ _ _ _ _ _ _ _ _ _ _ _ _ _ _ _ _ _ _ _ _ _ _ _ _ _ _ _ _ _ _ _ _ _ _ _ _ _ _ _ _ _ _ _ _ _ _ _ _ _ _ _ _ _ _ _ _ _ _ _ _ _ _ _ _ _ _ _ _ _ _ _ _ _ _ _ _ _ _ _ _ _ _ _ _ ?_
    rintro w6 w7 v x y86 y87 y88 y89 y90 y91 y92 y93 y94 y95 y96 y97 hz6 ⟨rfl, hz7, p2, R2, rfl, hB2⟩
    have hz57 := hz6.trans' hz7
    have hB7 := hB4.out.keep (hz5.trans' hz57)
    have hln := hB4.out.lines
    have hll := hB4.out.len
    have hall := bn_all hB7
    have hrowr : RowOk w7 Ar Xr.length Xr := (fit_row (w' := w4) hfr.out hJr.out (fun x hx => by have := hln x.j (by rw [← hXr.out]; exact List.mem_map.2 ⟨x, hx, rfl⟩); omega)).keep (hz5.trans' hz57)
    have hz07 := hz05.trans' hz57
    have hXrl : Xr.length = B'.length := by rw [← hXr.out, List.length_map]
    replace hrowr := Lib.hid hrowr
    replace hln := Lib.hid hln
    replace hll := Lib.hid hll
    replace hB7 := Lib.hid hB7
    replace hB2 := Lib.hid hB2
    replace hXrl := Lib.hid hXrl
    clear q1 q2 q3 hk1 hb0 h0 hn0 hz6 hz7 hz57
    go_wp2_with fail
    refine hall.mono ?_
    rintro e w8 ⟨Y, v8, F8, rfl, hfy, hY, hJ8, hF8, hz8⟩
    clear hall
    obtain ⟨A8, c8, rfl, -⟩ := _root_.id hfy
    have hrowy := fit_row (w' := w8) hfy hJ8 (fun x hx => by have := hln.out x.j (by rw [← hY]; exact List.mem_map.2 ⟨x, hx, rfl⟩); omega)
    have hYl : Y.length = Xr.length := by rw [hXrl.out, ← hY, List.length_map]
    have hsm := bk_samej (c := c8) (d := cr) hrowy (by rw [hYl]; exact hrowr.out.keep hz8) (by rw [hYl, hXrl.out]; have := hll.out; omega) (by rw [hY, hXr.out])
    rw [hYl] at hsm ⊢
    have hbs := fun W (z : Chg [] w8 W) => bn_same (hB7.out.keep (hz8.trans' z)) (hB2.out.keep (hz8.trans' z))
    have hbs2 := fun W (z : Chg [] w8 W) => bn_same (hB2.out.keep (hz8.trans' z)) (hB7.out.keep (hz8.trans' z))
    have hz08 := hz07.trans' hz8
    replace hbs := Lib.hid hbs
    replace hbs2 := Lib.hid hbs2
    clear hrowy hfy hY hJ8 hF8 hYl hz8 hz07
    go_wp2_with fail
    refine hsm.mono ?_
    rintro e w9 ⟨rfl, hz9⟩
    clear hsm
    go_wp2_with fail
    refine (hbs.out _ hz9).mono ?_
    rintro e w10 ⟨rfl, hz10⟩
    go_wp2_with fail
    refine (hbs2.out _ (hz9.trans' hz10)).mono ?_
    rintro e w11 ⟨rfl, hz11⟩
    go_wp2_with fail
    go_ret
    exact ⟨rfl, hz08.trans' ((hz9.trans' hz10).trans' hz11)⟩
end Go.Proofs.Ytlgfmphjgijilaa
