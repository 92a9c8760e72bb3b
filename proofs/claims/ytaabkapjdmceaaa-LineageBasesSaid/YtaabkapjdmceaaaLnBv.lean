/- LineageBases: the walk. -/
import Derived.Test.YtaabkapjdmceaaaLnBt
import Derived.Test.YtaabkapjdmceaaaLnBu
import Derived.Test.YtaabkapjdmceaaaLnZa
namespace Go.Proofs.Ytaabkapjdmceaaa
open Go.RowKit Go.Vx Go.Maps Go.Sort
set_option linter.unusedVariables false
set_option linter.unusedSimpArgs false

set_option maxRecDepth 100000 in
set_option maxHeartbeats 8000000 in
theorem lineageBases_walk (w : World) (A : Option Addr) (n c : Nat) (l : List (Int × Int)) (x0 : l.length = n ∧ n ≤ c ∧ c ≤ maxLen ∧ Src w 2 A n (l.flatMap pairCells) ∧ ∀ x ∈ l, True) (y0 : n * 16 ≤ 140737488351232) (a : Int) (wa : (Lit.int .i64 a).wf = true) (b : Int) (wb : (Lit.int .i64 b).wf = true) :
    Calls Try.prog 4 #[.slice A n c, .int .i64 a, .int .i64 b] w fun e w' => e = .returned (.bool true) ∧ Chg [] w w' := by
  have hal := ln_alive
  by_cases hn : 30 < n
  · have hb1 : decide ((30 : Int) < n) = true := by simp; omega
    go_enter Try.func4, Try.ntmps4
    go_wp2_with fail
    refine (hal _).mono ?_
    rintro e w1 ⟨rfl, hz1⟩
    go_wp2_with fail
    go_ret
    exact ⟨rfl, hz1⟩
  have hb1 : decide ((30 : Int) < n) = false := by simp; omega
  have hbd := fun w' (k : Chg [] w w') => ln_build (c := c) (x0.2.2.2.1.chg k (by simp)) (by omega)
  clear x0 y0
  go_enter Try.func4, Try.ntmps4
  go_wp2_with fail
  refine (hal _).mono ?_
  rintro e w1 ⟨rfl, hz1⟩
  go_wp2_with fail
  refine (hbd _ hz1).mono ?_
  rintro e w2 ⟨lp, rp, C, rfl, h2, hC⟩
  clear hal hbd
  have hz2 : Chg [] w w2 := hz1.trans' h2.chg
  have hwf := h2.wf
  have hCl : C.length ≤ 400 := by omega
  go_wp2_with fail
  refine (h2.left.bases hCl a b).mono ?_
  rintro e w3 ⟨v, F, rfl, hf, hF, hz3⟩
  replace h2 := h2.keep hz3
  have hzw : Chg [] w w3 := hz2.trans' hz3
  have hIs : ∀ w', Chg [] w3 w' → ∀ x y : Int, Calls Try.prog 12 #[.pointer (some ⟨rp, 0, none⟩), .int .i64 x, .int .i64 y] w' fun e w'' => e = .returned (.bool (isL C x.toNat y.toNat)) ∧ Chg [] w' w'' := fun w' k x y => (h2.keep k).is hwf hCl x y
  have hB := fun w' (k : Chg [] w3 w') => (h2.keep k).left.base hCl a b
  have hcov := fun x (h1 : isL C x a.toNat = true) (h2 : isL C x b.toNat = true) => basesS_cover hwf h1 h2
  have hisz := fun x (h : x ∈ basesS C a.toNat b.toNat) => basesS_is hwf h
  have hap := fun x y (h : x ∈ basesS C a.toNat b.toNat) (k : y ∈ basesS C a.toNat b.toNat) => basesS_apart hwf h k
  have hnd := basesS_nodup hwf a.toNat b.toNat
  have hself := fun (h : isL C a.toNat b.toNat = true) => basesS_self hwf h
  have hnat := fun (h : isL C a.toNat b.toNat = true) => isL_nat hwf h
  obtain ⟨z, hzz⟩ : ∃ z, basesS C a.toNat b.toNat = z := ⟨_, rfl⟩
  rw [hzz] at hf hcov hisz hap hnd hself
  replace hzz := Lib.hid hzz
  obtain ⟨zA, zc, rfl, -, hzl1, hzm, -⟩ := _root_.id hf
  have hzl2 : zc ≤ 9223372036854775807 := hzm
  have hzc : ∀ w', Chg [] w3 w' → ∀ k, (hk : k < z.length) → ∃ ad, zA = some ad ∧ w'.cell? (ad.add k) = some (.int .i64 (z[k] : Nat)) := by
    intro w' k j hj
    obtain ⟨ad, h1, h2⟩ := (Fix.src (hf.chg k (by simp))).2 (by omega)
    exact ⟨ad, h1, h2 j _ (by simp [natVals, hj])⟩
  clear h2 hz1 hz2 hz3 hF hf hwf
  replace hC := Lib.hid hC
  go_wp2_with fail
  refine bs_block0 hIs hisz hap hnd hzl1 hzm hzc (Chg.refl _ _) _ _ _ _ _ _ _ _ _ _ _ _ _ _ _ _ _ _ _ _ _ _ _ _ _ _ _ _ _ _ _ _ _ _ _ _ _ _ _ _ _ _ _ _ _ _ _ _ _ _ _ _ _ _ _ _ _ _ _ _ _ _ _ _ _ _ _ _ _ _ _ _ _ _ _ _ _ _ _ _ _ _ _ _ _ _ _ _ _ _ _ _ _ _ _ _ _ _ _ _ _ _ _ _ _ _ _ _ _ _ _ _ _ _ _ _ _ _ _ _ _ _ _ _ _ _ _ _ _ _ _ _ _ _ _ _ _ _ _ _ ?_
  intro wx y6 y11 y12 y38 y39 y40 y41 y42 y43 y44 y45 y46 y47 y48 y49 y50 y51 y52 y53 y54 y55 y56 y57 y58 y59 y60 y61 y62 y63 y64 y65 y66 y67 y68 y69 y70 y71 y72 y73 y74 y75 y76 y77 y78 y79 y80 y81 y82 hz
  go_wp2_with fail
  refine bs_block4 (by omega) hIs hcov hzl1 hzm hzc hz _ _ _ _ _ _ _ _ _ _ _ _ _ _ _ _ _ _ _ _ _ _ _ _ _ _ _ _ _ _ _ _ _ _ _ _ _ _ _ _ _ _ _ _ _ _ _ _ _ _ _ _ _ _ _ _ _ _ _ _ _ _ _ _ _ _ _ _ _ _ _ _ _ _ _ _ _ _ _ _ _ _ _ _ _ _ _ _ _ _ _ _ _ _ _ _ _ _ _ _ _ _ _ _ _ _ _ _ _ _ _ _ _ _ _ _ _ _ _ _ _ _ _ _ _ _ _ _ _ _ _ _ _ _ _ _ _ _ _ ?_
  clear hz wx
  intro wr y6 y13 y14 y15 y83 y84 y85 y86 y87 y88 y89 y90 y91 y92 y93 y94 y95 y96 y97 y98 y99 y100 y101 y102 y103 y104 y105 y106 y107 y108 y109 y110 y111 y112 y113 y114 y115 y116 y117 y118 hz
  clear hisz hap hnd
  have hI := fun w' (k : Chg [] w3 w') => hIs w' k a b
  have hB1 := hB _ hz
  clear hIs hB hcov hzc
  cases e1 : isL C a.toNat b.toNat with
  | false =>
    rw [e1] at hI
    clear hself hnat e1
    generalize bestL C (basesL C a.toNat b.toNat) = o at *
    go_wp2_with fail
    refine hB1.mono ?_
    rintro e w4 ⟨rfl, hz4⟩
    go_wp2_with fail
    refine (hI _ (hz.trans' hz4)).mono ?_
    rintro e w5 ⟨rfl, hz5⟩
    go_wp2_with fail
    go_ret
    exact ⟨rfl, hzw.trans' ((hz.trans' hz4).trans' hz5)⟩
  | true =>
    rw [e1] at hI
    obtain ⟨f1, f2⟩ := hself e1
    have f3 := hnat e1
    rw [f2] at hB1
    simp only [Option.getD_some, Option.isSome_some, f3] at hB1
    subst f1
    clear hself hnat e1 f2 f3
    simp only [List.length_cons, List.length_nil, Nat.zero_add] at *
    go_wp2_with fail
    refine hB1.mono ?_
    rintro e w4 ⟨rfl, hz4⟩
    go_wp2_with fail
    refine (hI _ (hz.trans' hz4)).mono ?_
    rintro e w5 ⟨rfl, hz5⟩
    go_wp2_with fail
    go_ret
    exact ⟨rfl, hzw.trans' ((hz.trans' hz4).trans' hz5)⟩
end Go.Proofs.Ytaabkapjdmceaaa
