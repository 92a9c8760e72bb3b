/- ChartOrder: the walk. -/
import Derived.Test.YtfcedgglehedjaaChJa
namespace Go.Proofs.Ytfcedgglehedjaa
open Go.RowKit Go.Vx Go.Maps Go.Sort Go.Shelf
set_option linter.unusedVariables false
set_option linter.unusedSimpArgs false

theorem lit_src {w : World} {ks : List Int} {cs : Array Value} {m : Nat} (hc : cs.toList = ks.map encI) (hm : cs.size = m * 1) : Src (w.alloc (.cells cs 3)) 1 (some ⟨w.heap.size, 0, none⟩) m (ks.map encI) := hc ▸ Src.lit rfl hm
set_option maxRecDepth 100000 in
set_option maxHeartbeats 8000000 in
theorem chartOrder_walk (w : World) (A : Option Addr) (n c : Nat) (l : List Acc) (x0 : l.length = n ∧ n ≤ c ∧ c ≤ maxLen ∧ Src w 3 A n (l.flatMap accEnc) ∧ ∀ x ∈ l, (Lit.int .i64 x.code).wf = true ∧ (Lit.int .i64 x.kind).wf = true) (y0 : n * 24 ≤ 140737488351232) (turn : Int) (wt : (Lit.int .i64 turn).wf = true) :
    Calls Try.prog 4 #[.slice A n c, .int .i64 turn] w fun e w' => e = .returned (.bool true) ∧ Chg [] w w' := by
  have hal := l3_alive
  by_cases h20 : 20 < n
  · have hb1 : decide ((20 : Int) < n) = true := by simp; omega
    go_enter Try.func4, Try.ntmps4
    go_wp2_with fail
    refine (hal _).mono ?_
    rintro e w1 ⟨rfl, hz1⟩
    go_wp2_with fail
    go_ret
    exact ⟨rfl, hz1⟩
  by_cases hn0 : n = 0
  · have hb1 : decide ((20 : Int) < n) = false := by simp; omega
    subst hn0
    go_enter Try.func4, Try.ntmps4
    go_wp2_with fail
    refine (hal _).mono ?_
    rintro e w1 ⟨rfl, hz1⟩
    go_wp2_with fail
    go_ret
    exact ⟨rfl, hz1⟩
  have hb1 : decide ((20 : Int) < n) = false := by simp; omega
  have hb2 : ((n : Int) == 0) = false := by simp; omega
  obtain ⟨hl, hcc, hcm, hs, -⟩ := x0
  have hcm2 : c ≤ 9223372036854775807 := hcm
  obtain ⟨ad, rfl, -⟩ := hs.2 (by omega)
  have key : ∃ r : Nat, r < n ∧ (turn.tmod n + n).tmod n = r ∧ -(n : Int) < turn.tmod n ∧ turn.tmod n < n := by
    have e1 : turn.tmod n < n := Int.tmod_lt_of_pos turn (by omega)
    have e2 : -(n : Int) < turn.tmod n := by
      have := Int.tmod_lt_of_pos (-turn) (b := (n : Int)) (by omega)
      rw [Int.neg_tmod] at this
      omega
    have e3 := Int.tmod_nonneg (a := turn.tmod n + n) (n : Int) (by omega)
    have e4 : (turn.tmod n + n).tmod n < n := Int.tmod_lt_of_pos _ (by omega)
    exact ⟨((turn.tmod n + n).tmod n).toNat, by omega, by omega, e2, e1⟩
  obtain ⟨k, hk, hk1, hk2, hk3⟩ := key
  have q1 : IntKind.i64.wrap (turn.tmod n + n) = turn.tmod n + n := by rw [IntKind.wrap_i64]; omega
  have q3 : ¬ (n : Int) = 0 := by omega
  have q4 : IntKind.i64.wrap (turn.tmod n) = turn.tmod n := by rw [IntKind.wrap_i64]; omega
  have q6 : IntKind.i64.wrap (k : Int) = k := by rw [IntKind.wrap_i64]; omega
  obtain ⟨hpe, hpl⟩ := new_perm (rot_perm l k).symm
  have hn20 : n ≤ 20 := by omega
  go_enter Try.func4, Try.ntmps4
  go_wp2_with fail
  refine (hal _).mono ?_
  rintro e w1 ⟨rfl, hz1⟩
  clear hal
  go_wp2_with fail
  by_cases hE : newE [] l = 0
  · have hE2 := hpe.1 hE
    have hp2 := hpl hE
    have hG : Good (newL [] l) := newL_good Good.nil
    have hln := newL_len0 hE
    rw [List.length_nil, Nat.zero_add, hl] at hln
    refine (ch_new_ok (hs.chg hz1 (by simp)) (by omega) hE).mono ?_
    rintro e w2 ⟨p, rfl, hc2⟩
    have hz2 : Chg [] w w2 := hz1.trans' hc2.chg
    go_upto_region 5 with fail
    refine co_reg5 (c := c) (P := fun w4 v x w5 => x = 0 ∧ ∃ p2, v = .pointer (some ⟨p2, 0, none⟩) ∧ CNew w4 w5 p2 (newL [] l)) hl hk hn20 hcc hcm2 (hs.chg hz2 (by simp)) (Chg.refl [] w2)
      (fun w4 A4 c4 _ h4 => (ch_new_ok h4 (by omega) hE2).mono (by
        rintro e w5 ⟨p2, rfl, hc5⟩
        exact ⟨_, _, rfl, rfl, p2, rfl, by rw [hp2]; exact hc5⟩)) _ _ _ _ _ _ _ _ _ _ _ _ _ _ _ _ _ _ _ _ _ _ _ _ _ _ _ _ _ _ _ _ _ _ _ _ _ _ _ _ _ _ _ _ _ _ _ _ _ _ _ _ _ _ _ _ _ _ _ _ _ _ _ _ _ _ _ _ _ _ _ _ _ _ _ _ _ _ _ _ _ _ _ _ _ _ _ _ _ _ _ _ _ _ _ _ _ _ _ _ _ _ _ _ _ _ ?_
    rintro w4 w5 v x y40 y41 y42 y43 y44 y45 y46 y47 y48 y49 y50 y51 hz4 ⟨rfl, p2, rfl, hc5⟩
    have hz5 : Chg [] w w5 := hz2.trans' (hz4.trans' hc5.chg)
    have hca : CNew w1 w5 p (newL [] l) := hc2.keep (hz4.trans' hc5.chg)
    have hone := cntLt_one hG
    have hsix := cntLt_six hG
    have hstep := fun k => cntLt_step (newL [] l) k
    have hkall := kindL_all hG
    have hkno := kindL_none (newL [] l)
    clear hpe hpl hE hE2 hp2 hs hz4 hc2
    generalize newL [] l = L at *
    have hL20 : L.length ≤ 20 := by omega
    have hL105 : L.length ≤ 100000 := by omega
    have hkind := fun w' (z : Chg [] w5 w') (A : Option Addr) m c (ks : List Int) hs hA hm => (hca.keep z).kind hG hL105 (A := A) (m := m) (c := c) (ks := ks) hs hA hm
    have haa := fun w' (z : Chg [] w5 w') => (hca.keep z).all hG (by omega)
    have hbb := fun w' (z : Chg [] w5 w') => (hc5.keep z).all hG (by omega)
    simp only [hln] at haa hbb hsix hkall
    replace hln := Lib.hid hln
    replace hl := Lib.hid hl
    replace hstep := Lib.hid hstep
    replace hkind := Lib.hid hkind
    replace haa := Lib.hid haa
    replace hbb := Lib.hid hbb
    replace hkno := Lib.hid hkno
    replace hkall := Lib.hid hkall
    replace hsix := Lib.hid hsix
    replace hone := Lib.hid hone
    dsimp only
    go_wp2_with fail
    go_loopw [10, 11] (fun nv kv wr => ∃ k : Nat, 1 ≤ k ∧ k ≤ 6 ∧ kv = .int .i64 k ∧ nv = .int .i64 (cntLt L k : Nat) ∧ Chg [] w5 wr) (fun _ kv _ => 6 - (intOf kv).toNat)
    case atStart => exact ⟨1, by omega, by omega, rfl, by rw [show ((1 : Nat) : Int) = 1 from rfl, hone.out]; rfl, Chg.refl _ _⟩
    case round =>
      obtain ⟨k, hk1, hk6, rfl, rfl, hz⟩ := hrel
      by_cases hlt : k ≤ 5
      · have hkn := hkind.out _ (hz.alloc (.cells #[.int .i64 (k : Int)] 3)) _ 1 1 [(k : Int)] (lit_src rfl rfl) (by intro ad h; cases h; rfl) (by omega)
        have hst := hstep.out (k : Int)
        have hle : cntLt L (k : Int) ≤ 20 := Nat.le_trans (List.length_filter_le _ _) hL20
        have hle2 : cntLt L ((k : Int) + 1) ≤ 20 := Nat.le_trans (List.length_filter_le _ _) hL20
        clear hstep hkind haa hbb hone hsix
        generalize hq : cntLt L (k : Int) = q at *
        generalize hq2 : (kindL L [(k : Int)]) = kl at *
        replace hst := Lib.hid hst
        have hkl : kl.length ≤ 20 := by have := hst.out; omega
        replace hq := Lib.hid hq
        replace hq2 := Lib.hid hq2
        go_wp2_with fail
        refine hkn.mono ?_
        rintro e w6 ⟨v, F', rfl, hf, -, hz6⟩
        obtain ⟨A6, c6, rfl, -⟩ := _root_.id hf
        clear hkn
        go_wp2_with fail
        refine ⟨⟨k + 1, by omega, by omega, by go_num, ?_, (hz.alloc _).trans' hz6⟩, by simp [intOf]; omega⟩
        rw [show ((k + 1 : Nat) : Int) = (k : Int) + 1 by omega, hst.out]
        push_cast
        rfl
      · obtain rfl : k = 6 := by omega
        rw [show ((6 : Nat) : Int) = 6 from rfl, hsix.out]
        have hkA := fun w' (z : Chg [] w5 w') => hkind.out _ (z.alloc (.cells #[.int .i64 1, .int .i64 2, .int .i64 3, .int .i64 4, .int .i64 5] 3)) _ 5 5 [1, 2, 3, 4, 5] (lit_src rfl rfl) (by intro ad h; cases h; rfl) (by omega)
        have hkN := fun w' (z : Chg [] w5 w') => hkind.out w' z none 0 0 [] ⟨rfl, by simp⟩ (by simp) (by omega)
        simp only [hkno.out] at hkN
        clear hstep hkind hone hsix hkno
        generalize kindL L [1, 2, 3, 4, 5] = kl at *
        have hkall' : ((kl.length : Int) == (n : Int)) = true := by rw [hkall.out]; simp
        go_wp2_with fail
        refine (haa.out _ hz).mono ?_
        rintro e w6 ⟨v6, F6, rfl, hf6, -, hz6⟩
        replace hz6 := hz.trans' hz6
        obtain ⟨A6, c6, rfl, -⟩ := _root_.id hf6
        go_wp2_with fail
        refine (hbb.out _ hz6).mono ?_
        rintro e w7 ⟨v7, F7, rfl, hf7, -, hz7⟩
        obtain ⟨A7, c7, rfl, -⟩ := _root_.id hf7
        have hsm := same_accs (c := c6) (d := c7) (Fix.src (hf6.chg hz7 (by simp))) (Fix.src hf7) (by omega)
        replace hz7 := hz6.trans' hz7
        clear haa hbb hf6 hf7 hz6
        go_wp2_with fail
        refine hsm.mono ?_
        rintro e w8 ⟨rfl, hz8⟩
        replace hz8 := hz7.trans' hz8
        clear hsm hz7
        have hA8 := hkA _ hz8
        go_wp2_with fail
        refine hA8.mono ?_
        rintro e w9 ⟨v9, F9, rfl, hf9, -, hz9⟩
        obtain ⟨A9, c9, rfl, -⟩ := _root_.id hf9
        replace hz9 := (hz8.alloc _).trans' hz9
        have hN9 := hkN _ hz9
        clear hA8 hkA hkN
        go_wp2_with fail
        refine hN9.mono ?_
        rintro e w10 ⟨v10, F10, rfl, hf10, -, hz10⟩
        obtain ⟨A10, c10, rfl, -⟩ := _root_.id hf10
        simp only [List.length_nil]
        go_wp2_with fail
        go_ret
        exact ⟨by first | rfl | simp [*], hz5.trans' (hz9.trans' hz10)⟩
  · have hE2 : newE [] (l.drop k ++ l.take k) ≠ 0 := fun h => hE (hpe.2 h)
    refine (ch_new_bad (hs.chg hz1 (by simp)) (by omega) hE).mono ?_
    rintro e w2 ⟨rfl, hc2⟩
    have hz2 : Chg [] w w2 := hz1.trans' hc2
    have hb3 : (newE [] l == 0) = false := by simpa using hE
    go_upto_region 5 with fail
    refine co_reg5 (c := c) (P := fun w4 v x w5 => (x == 0) = false ∧ v = .pointer none ∧ Chg [] w4 w5) hl hk hn20 hcc hcm2 hs hz2
      (fun w4 A4 c4 _ h4 => (ch_new_bad h4 (by omega) hE2).mono (by
        rintro e w5 ⟨rfl, hc5⟩
        exact ⟨_, _, rfl, by simpa using hE2, rfl, hc5⟩)) _ _ _ _ _ _ _ _ _ _ _ _ _ _ _ _ _ _ _ _ _ _ _ _ _ _ _ _ _ _ _ _ _ _ _ _ _ _ _ _ _ _ _ _ _ _ _ _ _ _ _ _ _ _ _ _ _ _ _ _ _ _ _ _ _ _ _ _ _ _ _ _ _ _ _ _ _ _ _ _ _ _ _ _ _ _ _ _ _ _ _ _ _ _ _ _ _ _ _ _ _ _ _ _ _ _ ?_
    rintro w4 w5 v x y40 y41 y42 y43 y44 y45 y46 y47 y48 y49 y50 y51 hz4 ⟨hx, rfl, hc5⟩
    have hz5 : Chg [] w w5 := hz4.trans' hc5
    clear hpe hpl hE hE2 hs
    generalize newE [] l = pe at *
    have hb4 : (pe != 0) = true := by simp [bne, hb3]
    go_wp2_with fail
    go_ret
    exact ⟨rfl, hz5⟩
end Go.Proofs.Ytfcedgglehedjaa
