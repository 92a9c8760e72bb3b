/- LineageChain. -/
import Derived.Test.YtaabkapjdmceaaaLnP
import Derived.Test.YtaabkapjdmceaaaLnR
namespace Go.Proofs.Ytaabkapjdmceaaa
open Go.RowKit Go.Vx Go.Maps Go.Sort
set_option linter.unusedVariables false
set_option linter.unusedSimpArgs false

set_option maxRecDepth 100000 in
set_option maxHeartbeats 4000000 in
theorem lineageChain_walk (n : Int) (wn : (Lit.int .i64 n).wf = true) (a : Int) (wf : (Lit.int .i64 a).wf = true) (b : Int) (wb : (Lit.int .i64 b).wf = true) (w : World) : Calls Try.prog 5 #[.int .i64 n, .int .i64 a, .int .i64 b] w fun e w' => e = .returned (.bool true) ∧ Chg [] w w' := by
  have hal := ln_alive
  by_cases h1 : n < 1
  · have hb1 : decide (n < 1) = true := by simpa using h1
    go_enter Try.func5, Try.ntmps5
    go_wp2_with fail
    refine (hal _).mono ?_
    rintro e w1 ⟨rfl, hz1⟩
    go_wp2_with fail
    go_ret
    exact ⟨rfl, hz1⟩
  by_cases h2 : 60 < n
  · have hb1 : decide (n < 1) = false := by simp; omega
    have hb2 : decide (60 < n) = true := by simpa using h2
    go_enter Try.func5, Try.ntmps5
    go_wp2_with fail
    refine (hal _).mono ?_
    rintro e w1 ⟨rfl, hz1⟩
    go_wp2_with fail
    go_ret
    exact ⟨rfl, hz1⟩
  have hb1 : decide (n < 1) = false := by simp; omega
  have hb2 : decide (60 < n) = false := by simp; omega
  obtain ⟨m, rfl⟩ : ∃ m : Nat, n = m := ⟨n.toNat, by omega⟩
  have hm1 : 1 ≤ m := by omega
  have hm6 : m ≤ 60 := by omega
  clear h1 h2
  go_enter Try.func5, Try.ntmps5
  go_wp2_with fail
  refine (hal _).mono ?_
  rintro e w1 ⟨rfl, hz1⟩
  go_wp2_with fail
  have h0 := LnNew.start w1 hz1
  generalize w1.alloc (.cells #[.slice none 0 0] 26) = wa at *
  generalize w1.heap.size = lp at *
  clear hal hb1 hb2 hz1
  go_loopw [8] (fun iv wr => ∃ i : Nat, i ≤ m ∧ iv = .int .i64 ((i + 1 : Nat) : Int) ∧ LnNew w wr lp (chainL (fun i => (i : Int) + 1) i)) (fun iv _ => m + 1 - (intOf iv).toNat)
  case atStart => exact ⟨0, by omega, rfl, h0⟩
  case round =>
    obtain ⟨i, hi, rfl, hL⟩ := hrel
    clear h0
    by_cases hlt : i < m
    · have hadd := chain_add (f := fun i : Nat => (i : Int) + 1) (n := i)
      by_cases hi0 : i = 0
      · subst hi0
        have ha := hL.addTo (Fix.nil wr 3 1) (l := []) 1 ⟨#[97, 110, 110]⟩ (by decide) (by omega) (by decide) (by decide) (by omega) (by simp) (by simp) (k := 1) rfl hadd
        clear hadd
        go_wp2_with fail
        refine ha.mono ?_
        rintro e w2 ⟨rfl, hL2⟩
        go_wp2_with fail
        go_roundw
        case measure => simp [intOf]; omega
        case rel => exact ⟨1, by omega, rfl, hL2⟩
      · rw [if_neg hi0] at hadd
        have ha := fun w' (k : Chg [] wr w') (Bk : Nat) c (hf : Fix w' 3 1 (.slice (some ⟨Bk, 0, none⟩) 1 c) 1 [.int .i64 (i : Nat)] [Bk]) => (hL.keep k).addTo (l := [i]) hf ((i : Int) + 1) ⟨#[97, 110, 110]⟩ (by rw [chain_len]; omega) (by omega) (by decide) (by decide) (by omega) (by simp) (by simpa using chain_there.2 ⟨by omega, Nat.le_refl _⟩) (k := (i : Int) + 1) (by rw [chain_len]; omega) hadd
        clear hadd
        go_wp2_with fail
        refine (ha _ ((Chg.refl [] wr).alloc (.cells #[.int .i64 (i : Nat)] 3)) _ _ (Fix.lit1 wr 3 (.int .i64 (i : Nat)))).mono ?_
        rintro e w2 ⟨rfl, hL2⟩
        go_wp2_with fail
        go_roundw
        case measure => simp [intOf]; omega
        case rel => exact ⟨i + 1, by omega, by go_num, hL2⟩
    · obtain rfl : i = m := by omega
      clear hi hlt
      have key : ∀ a : Int, ∃ r : Nat, r < i ∧ (a.tmod i + i).tmod i = r ∧ -(i : Int) < a.tmod i ∧ a.tmod i < i := fun a => by
        have e1 : a.tmod i < i := Int.tmod_lt_of_pos a (by omega)
        have e2 : -(i : Int) < a.tmod i := by
          have := Int.tmod_lt_of_pos (-a) (b := (i : Int)) (by omega)
          rw [Int.neg_tmod] at this
          omega
        have e3 := Int.tmod_nonneg (a := a.tmod i + i) (i : Int) (by omega)
        have e4 : (a.tmod i + i).tmod i < i := Int.tmod_lt_of_pos _ (by omega)
        exact ⟨((a.tmod i + i).tmod i).toNat, by omega, by omega, e2, e1⟩
      obtain ⟨x, hx, hx1, hx2, hx3⟩ := key a
      obtain ⟨y, hy, hy1, hy2, hy3⟩ := key b
      clear key
      have q1 : IntKind.i64.wrap (a.tmod i + i) = a.tmod i + i := by rw [IntKind.wrap_i64]; omega
      have q2 : IntKind.i64.wrap (b.tmod i + i) = b.tmod i + i := by rw [IntKind.wrap_i64]; omega
      have q3 : ¬ (i : Int) = 0 := by omega
      have q4 : IntKind.i64.wrap (a.tmod i) = a.tmod i := by rw [IntKind.wrap_i64]; omega
      have q5 : IntKind.i64.wrap (b.tmod i) = b.tmod i := by rw [IntKind.wrap_i64]; omega
      have q6 : IntKind.i64.wrap (x : Int) = x := by rw [IntKind.wrap_i64]; omega
      have q7 : IntKind.i64.wrap (y : Int) = y := by rw [IntKind.wrap_i64]; omega
      have q8 : IntKind.i64.wrap (1 + (x : Int)) = ((x + 1 : Nat) : Int) := by rw [IntKind.wrap_i64]; omega
      have q9 : IntKind.i64.wrap (1 + (y : Int)) = ((y + 1 : Nat) : Int) := by rw [IntKind.wrap_i64]; omega
      go_wp2_with fail
      go_region
      have hL2 := hL.keep (Chg.refl [] wr).drew
      have hCl : (chainL (fun i : Nat => (i : Int) + 1) i).length ≤ 400 := by rw [chain_len]; omega
      have hX : x + 1 ≤ i := by omega
      have hY : y + 1 ≤ i := by omega
      have hgx : ((chainL (fun i : Nat => (i : Int) + 1) i)[x]'(by rw [chain_len]; omega)).gen = x + 1 ∧ ((chainL (fun i : Nat => (i : Int) + 1) i)[x]'(by rw [chain_len]; omega)).root = (x : Int) + 1 := by simp [chainL]
      have hG : ∀ w', Chg [] wr.drew w' → Calls Try.prog 14 #[.pointer (some ⟨lp, 0, none⟩), .int .i64 ((x + 1 : Nat) : Int)] w' fun e w'' => ∃ A n c au, e = .returned (.tuple #[.agg #[.int .i64 ((x + 1 : Nat) : Int), .int .i64 ((x + 1 : Nat) : Int), .slice A n c, .int .i64 ((x : Int) + 1), .string au], .bool true]) ∧ Chg [] w' w'' := fun w' k =>
        ((hL2.keep k).get hCl (i := x) (by rw [chain_len]; omega)).mono (by
          rintro e w'' ⟨v, F, rfl, hf, -, hz⟩
          obtain ⟨A, c, rfl, -⟩ := _root_.id hf
          exact ⟨A, _, c, _, by rw [hgx.1, hgx.2], hz⟩)
      have hB := fun w' (k : Chg [] wr.drew w') => (hL2.keep k).base hCl ((x + 1 : Nat) : Int) ((y + 1 : Nat) : Int)
      have hBs := fun w' (k : Chg [] wr.drew w') => (hL2.keep k).bases hCl ((x + 1 : Nat) : Int) ((y + 1 : Nat) : Int)
      have hIs := fun w' (k : Chg [] wr.drew w') => (hL2.keep k).is hCl ((x + 1 : Nat) : Int) ((y + 1 : Nat) : Int)
      have hH := fun w' (k : Chg [] wr.drew w') A n c (l : List Int) (hs : Src w' 1 A n (l.map (Value.int .i64))) (hn : n ≤ 1000000) => (hL2.keep k).history hCl (c := c) hs hn
      simp only [Int.toNat_natCast] at hB hBs hIs
      rw [chain_bases (by omega) hX (by omega) hY, best_one] at hB
      rw [basesS_one (chain_bases (by omega) hX (by omega) hY)] at hBs
      rw [chain_is (by omega) (by omega) hY] at hIs
      obtain ⟨M, hM⟩ : ∃ M, min (x + 1) (y + 1) = M := ⟨_, rfl⟩
      rw [hM] at hB hBs
      have hmi : min ((x : Int) + 1) ((y : Int) + 1) = (M : Int) := by omega
      replace hM := Lib.hid hM
      have hHi := chain_hist (f := fun i : Nat => (i : Int) + 1) (a := x + 1) (by omega) hX
      have hz0 : Chg [] w wr.drew := hL2.chg
      clear hgx hL2 hL
      generalize chainL (fun i : Nat => (i : Int) + 1) i = C at *
      generalize wr.drew = wd at *
      have r0 := Chg.refl [] wd
      go_wp2_with fail
      refine (hG _ r0).mono ?_
      rintro e w2 ⟨gA, gn, gc, au, rfl, hz2⟩
      clear hG q1 q2 q3 q4 q5 q6 q7 q8 q9 hx1 hx2 hx3 hy1 hy2 hy3
      go_wp2_with fail
      have hcb := Blk.new w2 43 #[.int .i64 ((x : Int) + 1), .int .i64 ((x : Int) + 1), .slice gA gn gc, .int .i64 ((x : Int) + 1), .string au]
      replace hz2 := hz2.alloc (.cells #[.int .i64 ((x : Int) + 1), .int .i64 ((x : Int) + 1), .slice gA gn gc, .int .i64 ((x : Int) + 1), .string au] 43)
      generalize w2.heap.size = cb at *
      generalize w2.alloc (.cells #[.int .i64 ((x : Int) + 1), .int .i64 ((x : Int) + 1), .slice gA gn gc, .int .i64 ((x : Int) + 1), .string au] 43) = w3 at *
      refine (hB _ hz2).mono ?_
      rintro e w4 ⟨rfl, hz4⟩
      replace hcb := hcb.chg hz4 (by simp)
      replace hz4 := hz2.trans' hz4
      clear hB hz2
      simp only [Option.getD_some, Option.isSome_some]
      go_wp2_with fail
      refine (hH _ (hz4.alloc (.cells #[.int .i64 ((x : Int) + 1)] 3)) _ _ _ [((x + 1 : Nat) : Int)] (Src.one1 rfl) (by omega)).mono ?_
      rintro e w5 ⟨v, F, rfl, hf, -, hz5⟩
      rw [show ([((x + 1 : Nat) : Int)] : List Int).map Int.toNat = [x + 1] by simp, hHi] at hf
      replace hcb := (hcb.alloc (.cells #[.int .i64 ((x : Int) + 1)] 3)).chg hz5 (by simp)
      replace hz5 := (hz4.alloc (.cells #[.int .i64 ((x : Int) + 1)] 3)).trans' hz5
      clear hz4 hH hHi
      have hll : ((List.range (x + 1)).map fun i => x + 1 - i).length = x + 1 := by simp
      rw [hll] at hf
      have hel : ∀ k, k < x + 1 → ((List.range (x + 1)).map fun i => x + 1 - i)[k]? = some (x + 1 - k) := fun k hk => by rw [List.getElem?_map, List.getElem?_range hk]; rfl
      generalize (List.range (x + 1)).map (fun i => x + 1 - i) = H at *
      obtain ⟨hA, hc, rfl, -⟩ := _root_.id hf
      go_wp2_with fail
      go_loopw [17] (fun kv wr => ∃ k : Nat, k ≤ x + 1 ∧ kv = .int .i64 k ∧ Chg [] w5 wr) (fun kv _ => x + 1 - (intOf kv).toNat)
      case atStart => exact ⟨0, by omega, rfl, Chg.refl _ _⟩
      case round =>
        obtain ⟨k, hk, rfl, hzr⟩ := hrel
        by_cases hlt : k < x + 1
        · obtain ⟨g', c', hBq, -, -, -, hcj, -⟩ := (hf.chg hzr (by simp)).at_ (k := k) (j := 0) hlt (by omega)
          have hB' : hA = some ⟨g', 0, none⟩ := by injection hBq
          subst hB'
          rw [show k * 1 + 0 = k by omega, natVals, List.getElem?_map, hel k hlt] at hcj
          have hsub : (x : Int) + 1 - (k : Int) = ((x + 1 - k : Nat) : Int) := by omega
          clear hBq hBs hIs
          go_wp2_with fail
          exact ⟨⟨k + 1, by omega, by go_num, hzr⟩, by simp [intOf]; omega⟩
        · obtain rfl : k = x + 1 := by omega
          clear hel
          replace hcb := hcb.chg hzr (by simp)
          have c1 := hcb.cell 1
          have c3 := hcb.cell 3
          simp at c1 c3
          replace hz5 := hz5.trans' hzr
          have hI := hIs _ hz5
          clear hIs hf hcb hzr
          by_cases hxy : x ≤ y
          · rw [show decide (x + 1 ≤ y + 1) = true by simpa using hxy] at hI
            go_wp2_with fail
            refine hI.mono ?_
            rintro e w6 ⟨rfl, hz6⟩
            go_wp2_with fail
            refine (hBs _ (hz5.trans' hz6)).mono ?_
            rintro e w7 ⟨v7, F7, rfl, hf7, -, hz7⟩
            obtain ⟨A7, c7, rfl, -⟩ := _root_.id hf7
            have hs := ln_same (l := [M]) (c := c7) (d := 1) (Fix.src (hf7.alloc (.cells #[.int .i64 (M : Nat)] 3))) (Src.one1 rfl) (by simp)
            go_wp2_with fail
            refine hs.mono ?_
            rintro e w8 ⟨rfl, hz8⟩
            go_wp2_with fail
            go_ret
            exact ⟨by simp [hxy], hz0.trans' (((hz5.trans' hz6).trans' hz7).trans' (((Chg.refl [] w7).alloc _).trans' hz8))⟩
          · rw [show decide (x + 1 ≤ y + 1) = false by simpa using hxy] at hI
            go_wp2_with fail
            refine hI.mono ?_
            rintro e w6 ⟨rfl, hz6⟩
            go_wp2_with fail
            refine (hBs _ (hz5.trans' hz6)).mono ?_
            rintro e w7 ⟨v7, F7, rfl, hf7, -, hz7⟩
            obtain ⟨A7, c7, rfl, -⟩ := _root_.id hf7
            have hs := ln_same (l := [M]) (c := c7) (d := 1) (Fix.src (hf7.alloc (.cells #[.int .i64 (M : Nat)] 3))) (Src.one1 rfl) (by simp)
            go_wp2_with fail
            refine hs.mono ?_
            rintro e w8 ⟨rfl, hz8⟩
            go_wp2_with fail
            go_ret
            exact ⟨by simp [hxy], hz0.trans' (((hz5.trans' hz6).trans' hz7).trans' (((Chg.refl [] w7).alloc _).trans' hz8))⟩
end Go.Proofs.Ytaabkapjdmceaaa
