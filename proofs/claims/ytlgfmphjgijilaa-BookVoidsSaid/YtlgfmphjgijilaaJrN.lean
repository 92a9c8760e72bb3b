/- BookVoids, walked. -/
import Derived.Test.YtlgfmphjgijilaaJrM
import Derived.Lib.QuietBelow
namespace Go.Proofs.Ytlgfmphjgijilaa
open Go.RowKit Go.Vx
set_option linter.unusedVariables false
set_option linter.unusedSimpArgs false

set_option maxRecDepth 100000 in
set_option maxHeartbeats 16000000 in
theorem bookVoids_walk (w : World) (A : Option Addr) (n c : Nat) (l : List JV) (x : l.length = n ∧ n ≤ c ∧ c ≤ maxLen ∧ Go.Vx.Src w 6 A n (l.flatMap jvEnc) ∧ ∀ x ∈ l, JArg w x) (y : n * 72 ≤ 140737488351232) (k : Int) (wk : (Lit.int .i64 k).wf = true) :
    Calls Try.prog 4 #[.slice A n c, .int .i64 k] w fun e w' => e = .returned (.bool true) ∧ Chg [] w w' := by
  obtain ⟨hl, hnc, hcm, hs, ho⟩ := x
  unfold maxLen at hcm
  have hal := l6_alive
  have hfew := bk_few (c := c) hs (by omega) (fun q hq => by
    obtain ⟨A, c, h, -⟩ := (ho q hq).ok
    have h1 := (ho q hq).hl
    have h2 := (ho q hq).hr
    unfold maxLen at h1 h2
    exact ⟨A, c, h, by omega, by omega⟩) (few := 30) (by omega)
  have hfit := fun (hb : (n : Int) ≤ 30 ∧ ∀ q ∈ l, q.j.ref.size ≤ 2000 ∧ q.j.lines.length ≤ 2000) W (z : Chg [] w W) => l6_fit (c := c) (hs.chg z (by simp)) (by omega) (fun q hq => (ho q hq).ok.keep z) (fun q hq => by have := hb.2 q hq; unfold maxLen; omega) (most := 20) (by omega)
  obtain ⟨hg, hgl⟩ := fit_good 20 (jns l) [] Good.nil (by simp)
  change Good (fitN (jns l) 20) at hg
  change ((fitN (jns l) 20).length : Int) ≤ 20 at hgl
  generalize fitN (jns l) 20 = L at *
  unfold FewPost at hfew
  replace hfit := Lib.hid hfit
  replace ho := Lib.hid ho
  replace hg := Lib.hid hg
  replace hgl := Lib.hid hgl
  clear hl hs y
  go_enter Try.func4, Try.ntmps4
  go_wp2_with fail
  refine hfew.mono ?_
  rintro e w0 ⟨b, rfl, hb, hz0⟩
  clear hfew
  cases b with
  | false =>
    clear hb
    go_wp2_with fail
    refine (hal _).mono ?_
    rintro e w1 ⟨rfl, hz⟩
    clear hal
    go_wp2_with fail
    go_ret
    exact ⟨rfl, hz0.trans' hz⟩
  | true =>
  have hb' := hb rfl
  clear hb
  replace hb' := Lib.hid hb'
  go_wp2_with fail
  refine (hal _).mono ?_
  rintro e w1 ⟨rfl, hz1⟩
  clear hal
  have hz01 := hz0.trans' hz1
  clear hz0 hz1
  go_wp2_with fail
  refine (hfit.out hb'.out _ hz01).mono ?_
  rintro e w2 ⟨X, v, F, rfl, hfx, hX, hJ, hF, hz2⟩
  clear hfit
  obtain ⟨Ax, cx, rfl, -, hncx, hcmx, -⟩ := _root_.id hfx
  unfold maxLen at hcmx
  have hXl : X.length = L.length := by rw [← hX]; simp
  have hgl2 := hgl.out
  have hofz : ofN [] (jns X) = (L, 0) := by rw [hX]; exact of_good L [] L rfl hg.out (by omega)
  have hline : ∀ q ∈ X, q.j.lines.length ≤ 8 ∧ q.j.ref.size ≤ 8 ∧ checkE q.j = 0 ∧ q.j ∈ L := fun q hq => by
    have hm : q.j ∈ L := by rw [← hX]; exact List.mem_map.2 ⟨q, hq, rfl⟩
    have hc := hg.out.chk _ hm
    refine ⟨checkE_lines hc, ?_, hc, hm⟩
    unfold checkE at hc
    cases hf : frontB q.j with
    | false => rw [hf] at hc; simp at hc
    | true => unfold frontB refB at hf; simp at hf; omega
  have hof := l6_of (c := cx) (Fix.src hfx) (by omega) (fun q hq => (hJ q hq).ok) (fun q hq => by have := hline q hq; unfold maxLen; omega) (by rw [hofz])
  rw [hofz] at hof
  dsimp only at hof
  have hz02 := hz01.trans' hz2
  clear hz01 hz2 hofz
  have hX20 : X.length ≤ 20 := by omega
  replace hline := Lib.hid hline
  replace hXl := Lib.hid hXl
  replace hX := Lib.hid hX
  clear hgl2 hncx
  replace hfx := Lib.hid hfx
  replace hJ := Lib.hid hJ
  replace hF := Lib.hid hF
  go_wp2_with fail
  refine hof.mono ?_
  rintro e w3 ⟨p, R, rfl, hB, hp, hR, hz3⟩
  clear hof
  by_cases h0 : X.length = 0
  · have hb0 : ((X.length : Int) == 0) = true := beq_iff_eq.2 (by omega)
    have hln := bn_len hB
    rw [show L.length = 0 by have := hXl.out; omega] at hln
    replace hR := Lib.hid hR
    clear hB h0
    go_wp2_with fail
    refine hln.mono ?_
    rintro e w4 ⟨rfl, hz4⟩
    go_wp2_with fail
    go_ret
    exact ⟨rfl, (hz02.trans' hz3).trans' hz4⟩
  have hb0 : ((X.length : Int) == 0) = false := beq_eq_false_iff_ne.2 (by omega)
  obtain ⟨m, hm, hm1, hw1, hw2, hw3⟩ := turn_nat k X.length (by omega) (by omega)
  rw [hm1] at hw3
  have hn0 : ¬ (X.length : Int) = 0 := by omega
  have hcell := fun W (z : Chg [] w2 W) => jv_cells (Fix.src (hfx.out.chg z (by simp))) hm
  obtain ⟨adx, hax, c0, c1, c2, c3, c4, c5⟩ := hcell _ hz3
  subst hax
  obtain ⟨Ap, cp, hpp, hsp⟩ := (hJ.out _ (List.getElem_mem hm)).ok
  rw [hpp] at c4
  obtain ⟨hq1, hq2, hq3, hq4⟩ := hline.out _ (List.getElem_mem hm)
  have hxget := fun W (z : Chg [] w2 W) => r1_get (c := cx) (Fix.src (hfx.out.chg z (by simp))) (by omega) (fun q hq => by obtain ⟨A, c, h, -⟩ := hJ.out q hq; exact ⟨A, _, c, h⟩) 999999
  have hfn : foundB X 999999 = foundN L 999999 := by rw [found_jns, hX.out]
  rw [hfn] at hxget
  have hgv : ∃ V, (∃ a b p s A m c x, V = Value.agg #[.int .i64 a, .int .i64 b, .int .i64 p, .string s, .slice A m c, .bool x]) ∧ getV X 999999 = V := by
    unfold getV
    cases hg : getJ X 999999 with
    | none => exact ⟨_, ⟨0, 0, 0, ⟨#[]⟩, none, 0, 0, false, rfl⟩, rfl⟩
    | some q =>
      obtain ⟨A, c, hp, -⟩ := hJ.out q (getJ_mem hg).1
      exact ⟨_, ⟨q.j.id, q.j.ent, q.j.per, q.j.ref, A, q.j.lines.length, c, q.j.void, rfl⟩, by dsimp only; unfold jnV; rw [hp]⟩
  obtain ⟨V, ⟨ga, gb, gp, gs, gA, gm, gc, gx, rfl⟩, hV⟩ := hgv
  rw [hV] at hxget
  obtain ⟨R1, hB1, hR1⟩ := hB.trim
  have hR2 : ∀ g ∈ R1, w2.heap.size ≤ g ∧ g < w3.heap.size := fun g hg => ⟨hR g (hR1 g hg).1, (hR1 g hg).2⟩
  have hlt := hB.lt
  have hpc := fun W (z : Chg [] w2 W) => r1_copy X[m].j (c := cp) (hsp.chg z (by simp)) (by omega)
  clear hfn hV hcell hJ hline hF hB hR hR1 hX
  generalize X[m].j = j at *
  generalize X[m] = xm at *
  have hinv := fun (cs : Array Value) => (show VSt w2 p w3.heap.size cs (w3.alloc (.cells cs 31)) L from ⟨R1, hB1.keep ((Chg.refl [] w3).alloc _), fun g hg => ⟨(hR2 g hg).1, by have := (hR2 g hg).2; omega⟩, by omega, hp, Blk.new _ _ _, hz3.alloc _⟩)
  obtain ⟨i, e, r, s, ll, vo⟩ := j
  unfold jnV at hpc
  dsimp only at *
  have hinv := hinv #[.int .i64 i, .int .i64 e, .int .i64 r, .string s, .slice Ap ll.length cp, .bool vo]
  have hid : 1 ≤ i ∧ i ≤ 999999 := checkE_id hq3
  have hme := hg.out
  replace hR2 := Lib.hid hR2
  clear hB1 hR2 hlt hp hpp
  replace hxget := Lib.hid hxget
  replace hpc := Lib.hid hpc
  have hvo := void_at hme.srt hq4
  have hgo := getN_of hme.srt hq4
  dsimp only at hvo hgo
  cases vo with
  | true =>
    rw [if_pos rfl] at hvo
    have ham := amend_void hme.srt hq4 rfl hq3 rfl
    have hvd := hinv.void hid
    rw [hgo, hvo] at hvd
    dsimp only at hvd
    rw [if_pos rfl] at hvd
    clear hme hgo hvo hinv
    go_wp2_with fail
    refine hvd.mono ?_
    rintro e' w4 ⟨rfl, hin4⟩
    clear hvd
    have hA := hin4.amend ⟨i, e, r, s, ll, true⟩ (c := cp) hsp (by omega) (by show s.size ≤ maxLen; unfold maxLen; omega)
    rw [ham] at hA
    obtain ⟨R4, -, -, -, -, hJ4, -⟩ := hin4
    have d0 := hJ4.cell 0
    have d1 := hJ4.cell 1
    have d2 := hJ4.cell 2
    have d3 := hJ4.cell 3
    have d4 := hJ4.cell 4
    have d5 := hJ4.cell 5
    clear hJ4
    go_wp2_with fail
    refine hA.mono ?_
    rintro e' w5 ⟨rfl, R5, -, -, -, -, -, hz5⟩
    go_wp2_with fail
    go_ret
    exact ⟨rfl, hz02.trans' hz5⟩
  | false =>
    rw [if_neg (by simp)] at hvo
    obtain ⟨L1, hL1⟩ : ∃ L1, L1 = putN L (voidedN ⟨i, e, r, s, ll, false⟩) := ⟨_, rfl⟩
    have hs1 : SrtN L1 := by rw [hL1]; exact srt_putN hme.srt _
    have hm1' : voidedN ⟨i, e, r, s, ll, false⟩ ∈ L1 := by rw [hL1]; exact putN_mem hq4 rfl
    have hvo1 := void_at hs1 hm1'
    have hgo1 := getN_of hs1 hm1'
    have ham := amend_void hs1 (j := ⟨i, e, r, s, ll, false⟩) hm1' rfl hq3 rfl
    have hpl : foundN L 999999 = false → Hid (postN L1 (lastN ⟨i, e, r, s, ll, false⟩) = 0) := fun h => Lib.hid (by rw [hL1]; exact post_last hme (by have := hgl.out; omega) hq4 rfl h)
    have hll : L1.length = X.length := by rw [hL1, len_putN, hXl.out]
    have hfo1 : foundN L1 i = true := List.any_eq_true.2 ⟨_, hm1', by simp [voidedN]⟩
    change voidN L1 i = _ at hvo1
    change getN L1 i = _ at hgo1
    rw [show (voidedN ⟨i, e, r, s, ll, false⟩).void = true from rfl, if_pos rfl] at hvo1
    have hvd := hinv.void hid
    rw [hgo, hvo] at hvd
    dsimp only at hvd
    rw [if_neg (by simp), ← hL1] at hvd
    replace hpl := Lib.hid hpl
    replace hll := Lib.hid hll
    replace hgo1 := Lib.hid hgo1
    replace hvo1 := Lib.hid hvo1
    replace hfo1 := Lib.hid hfo1
    replace ham := Lib.hid ham
    clear hme hgo hvo hinv hs1 hm1' hL1
    go_wp2_with fail
    refine hvd.mono ?_
    rintro e' w4 ⟨rfl, hin4⟩
    clear hvd
    have hvd := hin4.void hid
    rw [hgo1.out, hvo1.out] at hvd
    dsimp only at hvd
    rw [show (voidedN ⟨i, e, r, s, ll, false⟩).void = true from rfl, if_pos rfl] at hvd
    obtain ⟨R4, -, -, -, -, hJ4, -⟩ := hin4
    have d0 := hJ4.cell 0
    clear hJ4
    go_wp2_with fail
    refine hvd.mono ?_
    rintro e' w5 ⟨rfl, hin5⟩
    clear hvd d0
    have hA := hin5.amend ⟨i, e, r, s, ll, false⟩ (c := cp) hsp (by omega) (by show s.size ≤ maxLen; unfold maxLen; omega)
    rw [ham.out, if_neg (by decide)] at hA
    obtain ⟨R5, -, -, -, -, hJ5, -⟩ := hin5
    have d0 := hJ5.cell 0
    have d1 := hJ5.cell 1
    have d2 := hJ5.cell 2
    have d3 := hJ5.cell 3
    have d4 := hJ5.cell 4
    have d5 := hJ5.cell 5
    clear hJ5
    go_wp2_with fail
    refine hA.mono ?_
    rintro e' w6 ⟨rfl, hin6⟩
    clear hA d0 d1 d2 d3 d4 d5
    have hln := hin6.len
    rw [hll.out] at hln
    go_wp2_with fail
    refine hln.mono ?_
    rintro e' w7 ⟨rfl, hin7⟩
    clear hln
    have hgt := hin7.get hid
    rw [hgo1.out, hfo1.out] at hgt
    have hin7' := Lib.hid hin7
    obtain ⟨R7, -, -, -, -, hJ7, -⟩ := hin7
    have d0 := hJ7.cell 0
    clear hJ7
    go_wp2_with fail
    refine hgt.mono ?_
    rintro e' w8 ⟨v8, F8, rfl, hf8, hz8⟩
    clear hgt d0
    dsimp only [Option.getD] at hf8 ⊢
    rw [show (voidedN ⟨i, e, r, s, ll, false⟩).lines = ll from rfl] at hf8
    obtain ⟨A8, c8, rfl, -⟩ := _root_.id hf8
    have hin8 := (hin7'.out.keep hz8).keep ((Chg.refl [] w8).alloc (.cells #[.int .i64 i, .int .i64 e, .int .i64 r, .string s, .slice A8 ll.length c8, .bool true] 31))
    clear hin7'
    unfold jnV voidedN
    dsimp only
    have hYb := Blk.new w8 31 #[.int .i64 i, .int .i64 e, .int .i64 r, .string s, .slice A8 ll.length c8, .bool true]
    have hf8a := hf8.alloc (.cells #[.int .i64 i, .int .i64 e, .int .i64 r, .string s, .slice A8 ll.length c8, .bool true] 31)
    have hin8' := Lib.hid hin8
    obtain ⟨R8, -, -, -, -, hJ8, hz28⟩ := hin8
    have d0 := hJ8.cell 0
    have d1 := hJ8.cell 1
    have d2 := hJ8.cell 2
    have d3 := hJ8.cell 3
    have d4 := hJ8.cell 4
    have d5 := hJ8.cell 5
    have hcp := hpc.out _ hz28
    obtain ⟨Y0, hY0⟩ : ∃ Y0, w8.heap.size = Y0 := ⟨_, rfl⟩
    rw [hY0] at hYb
    go_wp2_with fail
    try rw [hY0]
    clear hY0
    generalize w8.alloc (.cells #[.int .i64 i, .int .i64 e, .int .i64 r, .string s, .slice A8 ll.length c8, .bool true] 31) = wy at *
    refine hcp.mono ?_
    rintro e' w9 ⟨vz, Fz, rfl, hfz, -, hz9⟩
    obtain ⟨Az, cz, rfl, -⟩ := _root_.id hfz
    have hin9 := (hin8'.out.keep hz9).keep ((Chg.refl [] w9).alloc (.cells #[.int .i64 999999, .int .i64 e, .int .i64 r, .string s, .slice Az ll.length cz, .bool false] 31))
    have hZb := Blk.new w9 31 #[.int .i64 999999, .int .i64 e, .int .i64 r, .string s, .slice Az ll.length cz, .bool false]
    have hYb9 := (hYb.chg hz9 (by simp)).alloc (.cells #[.int .i64 999999, .int .i64 e, .int .i64 r, .string s, .slice Az ll.length cz, .bool false] 31)
    have hf89 := (hf8a.chg hz9 (by simp)).alloc (.cells #[.int .i64 999999, .int .i64 e, .int .i64 r, .string s, .slice Az ll.length cz, .bool false] 31)
    have hfz9 := hfz.alloc (.cells #[.int .i64 999999, .int .i64 e, .int .i64 r, .string s, .slice Az ll.length cz, .bool false] 31)
    have hz29 := (hz28.trans' hz9).alloc (.cells #[.int .i64 999999, .int .i64 e, .int .i64 r, .string s, .slice Az ll.length cz, .bool false] 31)
    have hxg := hxget.out _ hz29
    obtain ⟨Z0, hZ0⟩ : ∃ Z0, w9.heap.size = Z0 := ⟨_, rfl⟩
    rw [hZ0] at hZb
    clear hcp d0 d1 d2 d3 d4 d5 hin8' hYb hf8a hJ8 hz28 hz9 hfz hf8 hz8
    replace hin9 := Lib.hid hin9
    go_wp2_with fail
    try rw [hZ0]
    clear hZ0
    generalize w9.alloc (.cells #[.int .i64 999999, .int .i64 e, .int .i64 r, .string s, .slice Az ll.length cz, .bool false] 31) = wz at *
    refine hxg.mono ?_
    rintro e' w10 ⟨rfl, hz10⟩
    have hzo := hz10.alloc (.cells #[.int .i64 ga, .int .i64 gb, .int .i64 gp, .string gs, .slice gA gm gc, .bool gx] 31)
    have hin := hin9.out.keep hzo
    have hZ := hZb.chg hzo (by simp)
    have hY := hYb9.chg hzo (by simp)
    have hf8' := hf89.chg hzo (by simp)
    have hfz' := hfz9.chg hzo (by simp)
    have hz210 := hz29.trans' hzo
    clear hxg hin9 hZb hYb9 hf89 hfz9 hz29 hzo hz10
    replace hin := Lib.hid hin
    replace hZ := Lib.hid hZ
    replace hY := Lib.hid hY
    replace hf8' := Lib.hid hf8'
    replace hfz' := Lib.hid hfz'
    replace hz210 := Lib.hid hz210
    go_wp2_with fail
    generalize w10.alloc (.cells #[.int .i64 ga, .int .i64 gb, .int .i64 gp, .string gs, .slice gA gm gc, .bool gx] 31) = wo at *
    have hJc : ∀ W, Chg [] wo W → Blk W w3.heap.size 31 #[.int .i64 i, .int .i64 e, .int .i64 r, .string s, .slice Ap ll.length cp, .bool false] := fun W z => by obtain ⟨R, -, -, -, -, h, -⟩ := hin.out; exact h.chg z (by simp)
    have hYc := fun W (z : Chg [] wo W) => hY.out.chg z (by simp)
    have hZc := fun W (z : Chg [] wo W) => hZ.out.chg z (by simp)
    have hvd := fun W => r1_voided ⟨i, e, r, s, ll, false⟩ (.slice Ap ll.length cp) ⟨_, _, _, rfl⟩ W
    have hsm := fun W (z : Chg [] wo W) => r1_same (voidedN ⟨i, e, r, s, ll, false⟩) (voidedN ⟨i, e, r, s, ll, false⟩) (A := A8) (B := Ap) (c := c8) (d := cp) ((Fix.src hf8'.out).chg z (by simp)) (hsp.chg (hz210.out.trans' z) (by simp)) (show ll.length ≤ 1000000 by omega) (show ll.length ≤ 1000000 by omega)
    have hps := fun W (z : Chg [] wo W) => (hin.out.keep z).post (lastN ⟨i, e, r, s, ll, false⟩) (A := Az) (n := ll.length) (c := cz) ((Fix.src hfz'.out).chg z (by simp)) (by omega) (by show s.size ≤ maxLen; unfold maxLen; omega)
    rw [same_self] at hsm
    unfold jnV voidedN at hvd hsm
    unfold jnV lastN at hps
    dsimp only at hvd hsm hps
    replace hJc := Lib.hid hJc
    replace hYc := Lib.hid hYc
    replace hZc := Lib.hid hZc
    replace hvd := Lib.hid hvd
    replace hsm := Lib.hid hsm
    replace hps := Lib.hid hps
    have hd0 : Chg [] wo wo.drew := (Chg.refl [] wo).drew
    clear hinv hxget hpc c0 c1 c2 c3 c4 hm1 hw1 hw2 hw3 hn0 hb0 h0 hm hX20 hcm hnc hcmx hz3 hid hq1 hq2 hsp
    have xy0 := (hYc.out wo (Chg.refl _ _)).cell 0
    have xy1 := (hYc.out wo (Chg.refl _ _)).cell 1
    have xy2 := (hYc.out wo (Chg.refl _ _)).cell 2
    have xy3 := (hYc.out wo (Chg.refl _ _)).cell 3
    have xy4 := (hYc.out wo (Chg.refl _ _)).cell 4
    have xy5 := (hYc.out wo (Chg.refl _ _)).cell 5
    have xj0 := (hJc.out wo (Chg.refl _ _)).cell 0
    have xj1 := (hJc.out wo (Chg.refl _ _)).cell 1
    have xj2 := (hJc.out wo (Chg.refl _ _)).cell 2
    have xj3 := (hJc.out wo (Chg.refl _ _)).cell 3
    have xj4 := (hJc.out wo (Chg.refl _ _)).cell 4
    have xj5 := (hJc.out wo (Chg.refl _ _)).cell 5
    have xz0 := (hZc.out wo (Chg.refl _ _)).cell 0
    have xz1 := (hZc.out wo (Chg.refl _ _)).cell 1
    have xz2 := (hZc.out wo (Chg.refl _ _)).cell 2
    have xz3 := (hZc.out wo (Chg.refl _ _)).cell 3
    have xz4 := (hZc.out wo (Chg.refl _ _)).cell 4
    have xz5 := (hZc.out wo (Chg.refl _ _)).cell 5
    have vy0 := (hYc.out wo.drew hd0).cell 0
    have vy1 := (hYc.out wo.drew hd0).cell 1
    have vy2 := (hYc.out wo.drew hd0).cell 2
    have vy3 := (hYc.out wo.drew hd0).cell 3
    have vy4 := (hYc.out wo.drew hd0).cell 4
    have vy5 := (hYc.out wo.drew hd0).cell 5
    have vj0 := (hJc.out wo.drew hd0).cell 0
    have vj1 := (hJc.out wo.drew hd0).cell 1
    have vj2 := (hJc.out wo.drew hd0).cell 2
    have vj3 := (hJc.out wo.drew hd0).cell 3
    have vj4 := (hJc.out wo.drew hd0).cell 4
    have vj5 := (hJc.out wo.drew hd0).cell 5
    have vz0 := (hZc.out wo.drew hd0).cell 0
    have vz1 := (hZc.out wo.drew hd0).cell 1
    have vz2 := (hZc.out wo.drew hd0).cell 2
    have vz3 := (hZc.out wo.drew hd0).cell 3
    have vz4 := (hZc.out wo.drew hd0).cell 4
    have vz5 := (hZc.out wo.drew hd0).cell 5
    cases hfd : foundN L 999999 with
    | true =>
      have ch := fun d os => Chg.of_below (F := []) (below_regrown wo d os)
      have cV := fun d os => Calls.regrown_of ((hvd.out (Sort.grow (redrawn wo d) os)).mono fun _ _ ⟨he, hz⟩ => ⟨he, hz.below⟩)
      have cS := fun d os => Calls.regrown_of ((hsm.out (Sort.grow (redrawn wo d) os) (ch d os)).mono fun _ _ ⟨he, hz⟩ => ⟨he, hz.below⟩)
      have uy0 := cell_regrown xy0
      have uy1 := cell_regrown xy1
      have uy2 := cell_regrown xy2
      have uy3 := cell_regrown xy3
      have uy4 := cell_regrown xy4
      have uy5 := cell_regrown xy5
      have uj0 := cell_regrown xj0
      have uj1 := cell_regrown xj1
      have uj2 := cell_regrown xj2
      have uj3 := cell_regrown xj3
      have uj4 := cell_regrown xj4
      have uj5 := cell_regrown xj5
      replace ch := Lib.hid ch
      refine wp_region_quiet_below (by kernel_rfl) (by kernel_rfl) ?_
      repeat (quiet_step (first | exact cV _ _ | exact cS _ _))
      refine wpQuiet_nil ?_
      intro _ hw'
      obtain ⟨⟨dq, osq⟩, hw''⟩ := hw'
      subst hw''
      go_wp2_with fail
      go_ret
      exact ⟨rfl, (hz02.trans' hz210.out).trans' (ch.out dq osq)⟩
    | false =>
      have hpl2 := hpl.out hfd
      have hps2 : ∀ W, Chg [] wo W → Calls Try.prog 7 #[.pointer (some ⟨p, 0, none⟩), .agg #[.int .i64 999999, .int .i64 e, .int .i64 r, .string s, .slice Az ll.length cz, .bool false]] W fun e w' => e = .returned (.int .i64 0) ∧ Chg [] w2 w' := fun W z => by
        have h := hps.out W z
        rw [show postN L1 ⟨999999, e, r, s, ll, false⟩ = 0 from hpl2.out] at h
        exact h
      replace hps2 := Lib.hid hps2
      go_region_law (first
        | (go_simp; go_at_call 19; refine (hvd.out _).mono ?_; rintro e1 w11 ⟨rfl, hz11⟩; have hzA := hd0.trans' hz11; have uy0 := (hYc.out w11 hzA).cell 0; have uy1 := (hYc.out w11 hzA).cell 1; have uy2 := (hYc.out w11 hzA).cell 2; have uy3 := (hYc.out w11 hzA).cell 3; have uy4 := (hYc.out w11 hzA).cell 4; have uy5 := (hYc.out w11 hzA).cell 5; have uj0 := (hJc.out w11 hzA).cell 0; have uj1 := (hJc.out w11 hzA).cell 1; have uj2 := (hJc.out w11 hzA).cell 2; have uj3 := (hJc.out w11 hzA).cell 3; have uj4 := (hJc.out w11 hzA).cell 4; have uj5 := (hJc.out w11 hzA).cell 5; have uz0 := (hZc.out w11 hzA).cell 0; have uz1 := (hZc.out w11 hzA).cell 1; have uz2 := (hZc.out w11 hzA).cell 2; have uz3 := (hZc.out w11 hzA).cell 3; have uz4 := (hZc.out w11 hzA).cell 4; have uz5 := (hZc.out w11 hzA).cell 5)
        | (go_simp; go_at_call 18; refine (hsm.out _ hzA).mono ?_; rintro e1 w12 ⟨rfl, hz12⟩; have hzB := hzA.trans' hz12; have sy0 := (hYc.out w12 hzB).cell 0; have sy1 := (hYc.out w12 hzB).cell 1; have sy2 := (hYc.out w12 hzB).cell 2; have sy3 := (hYc.out w12 hzB).cell 3; have sy4 := (hYc.out w12 hzB).cell 4; have sy5 := (hYc.out w12 hzB).cell 5; have sj0 := (hJc.out w12 hzB).cell 0; have sj1 := (hJc.out w12 hzB).cell 1; have sj2 := (hJc.out w12 hzB).cell 2; have sj3 := (hJc.out w12 hzB).cell 3; have sj4 := (hJc.out w12 hzB).cell 4; have sj5 := (hJc.out w12 hzB).cell 5; have sz0 := (hZc.out w12 hzB).cell 0; have sz1 := (hZc.out w12 hzB).cell 1; have sz2 := (hZc.out w12 hzB).cell 2; have sz3 := (hZc.out w12 hzB).cell 3; have sz4 := (hZc.out w12 hzB).cell 4; have sz5 := (hZc.out w12 hzB).cell 5)
        | (go_simp; go_at_call 7; refine (hps2.out _ hzB).mono ?_; rintro e1 w13 ⟨rfl, hz13⟩))
      all_goals
        go_wp2_with fail
        go_ret
        exact ⟨rfl, hz02.trans' hz13⟩
end Go.Proofs.Ytlgfmphjgijilaa
