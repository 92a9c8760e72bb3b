/- ClothLasts: the walk. -/
import Derived.Test.YtjbjiomajldkoaaClothLe
namespace Go.Proofs.Ytjbjiomajldkoaa
open Go.RowKit Go.Vx Go.Maps
set_option linter.unusedVariables false
set_option linter.unusedSimpArgs false

theorem wov_size (l : List OpV) : ∀ t ∈ wov l, t.2.size ≤ 40 := fun t ht => by
  obtain ⟨x, -, hx⟩ := List.mem_filterMap.1 ht
  split at hx
  · injection hx with hx
    rw [← hx]
    assumption
  · cases hx
theorem press_size {B : List ByteArray} {ks : List (Int × ByteArray)} (hB : ∀ j, (B.getD j em).size ≤ 40) (hk : ∀ t ∈ ks, t.2.size ≤ 40) (j : Nat) : ((pressTo B ks).getD j em).size ≤ 40 := press_good (fun _ s => s.size ≤ 40) ks B hB hk j
theorem base_size (j : Nat) : (base6.getD j em).size ≤ 40 := by
  rw [List.getD_eq_getElem?_getD]
  unfold base6
  rw [List.getElem?_replicate]
  split <;> decide
theorem thr_size (l : List OpV) : ∀ t ∈ thr (wov l), t.2.size ≤ 40 := fun t ht => by
  obtain ⟨x, hx, rfl⟩ := List.mem_map.1 ht
  exact wov_size l x hx
theorem pres_len (B : List ByteArray) (ks : List (Int × ByteArray)) (h : B.length = 6) : (pressTo B ks).length = 6 := by rw [pressTo_length]; exact h
set_option maxRecDepth 100000 in
set_option maxHeartbeats 8000000 in
theorem clothLasts_walk (w : World) (A0 : Option Addr) (n0 c0 : Nat) (l0 : List OpV) (x0 : l0.length = n0 ∧ n0 ≤ c0 ∧ c0 ≤ maxLen ∧ Src w 4 A0 n0 (l0.flatMap opCells) ∧ ∀ x ∈ l0, OpOk w x) (y0 : n0 * 56 ≤ 140737488351232)
    (A1 : Option Addr) (n1 c1 : Nat) (l1 : List OpV) (x1 : l1.length = n1 ∧ n1 ≤ c1 ∧ c1 ≤ maxLen ∧ Src w 4 A1 n1 (l1.flatMap opCells) ∧ ∀ x ∈ l1, OpOk w x) (y1 : n1 * 56 ≤ 140737488351232)
    (A2 : Option Addr) (n2 c2 : Nat) (keep : List Bool) (x2 : keep.length = n2 ∧ n2 ≤ c2 ∧ c2 ≤ maxLen ∧ Src w 1 A2 n2 (keep.map .bool)) (y2 : n2 * 1 ≤ 140737488351232) :
    Calls Try.prog 3 #[.slice A0 n0 c0, .slice A1 n1 c1, .slice A2 n2 c2] w fun e w' => e = .returned (.bool true) ∧ Chg [] w w' := by
  have hL0 := light_at w A0 n0 c0 l0 x0
  have hL1 := light_at w A1 n1 c1 l1 x1
  have hal := alive_at w
  have hcel0 := op_cells x0.2.2.2.1 x0.1
  have hcel1 := op_cells x1.2.2.2.1 x1.1
  have hs2 := x2.2.2.2
  have hc0 : c0 ≤ 9223372036854775807 := x0.2.2.1
  have hc1 : c1 ≤ 9223372036854775807 := x1.2.2.1
  have hc2 : c2 ≤ 9223372036854775807 := x2.2.2.1
  replace x0 := Lib.hid x0
  replace x1 := Lib.hid x1
  replace x2 := Lib.hid x2
  replace hcel0 := Lib.hid hcel0
  replace hcel1 := Lib.hid hcel1
  replace hs2 := Lib.hid hs2
  clear y0 y1 y2
  go_enter Try.func3, Try.ntmps3
  go_wp2_with fail
  refine hL0.mono ?_
  rintro e w' ⟨b0, rfl, rfl, hb0⟩
  clear hL0
  cases b0 with
  | false =>
    clear hb0
    go_wp2_with fail
    refine hal.mono ?_
    rintro e w1 ⟨rfl, hz1⟩
    go_wp2_with fail
    go_ret
    exact ⟨rfl, hz1⟩
  | true =>
    replace hb0 := Lib.hid (hb0 rfl)
    go_wp2_with fail
    refine hL1.mono ?_
    rintro e w' ⟨b1, rfl, rfl, hb1⟩
    clear hL1
    cases b1 with
    | false =>
      clear hb1
      go_wp2_with fail
      refine hal.mono ?_
      rintro e w1 ⟨rfl, hz1⟩
      go_wp2_with fail
      go_ret
      exact ⟨rfl, hz1⟩
    | true =>
      replace hb1 := Lib.hid (hb1 rfl)
      by_cases hk80 : 80 < n2
      · have hg : decide ((80 : Int) < n2) = true := by simp; omega
        go_wp2_with fail
        refine hal.mono ?_
        rintro e w1 ⟨rfl, hz1⟩
        go_wp2_with fail
        go_ret
        exact ⟨rfl, hz1⟩
      have hg : decide ((80 : Int) < n2) = false := by simp; omega
      have hn0 : n0 ≤ 60 := by have := hb0.out.1; have := x0.out.1; omega
      have hn1 : n1 ≤ 60 := by have := hb1.out.1; have := x1.out.1; omega
      go_wp2_with fail
      refine hal.mono ?_
      rintro e w1 ⟨rfl, hz1⟩
      clear hal
      go_wp2_with fail
      refine (new_at 6 _).mono ?_
      rintro e w2 ⟨p, pr, F, rfl, hc2', hw2, hF⟩
      replace hc2' : ClothAt w2 p pr (.slice none 0 0) (.slice none 0 0) (laC base6 []) F [] [] := hc2'
      have hz2 : Chg [] w w2 := hz1.trans hw2 (by simp)
      have hsz1 := hz1.size
      have hsz2 := hz2.size
      have hLa0 : LaA w (w2.alloc (.cells (six (strCell base6)) 28)) p pr F w2.heap.size base6 [] base6 := by
        refine ⟨_, _, [], [], hc2'.alloc _, Blk.new _ _ _, hz2.alloc _, fun g hg => ?_, hsz2, fun hm => ?_⟩
        · have := hF g (by simpa using hg)
          omega
        · obtain ⟨cs, t, hb, -⟩ := cloth_blks hc2' _ (by simpa using hm)
          have := hb.lt
          omega
      clear hc2' hw2 hF hz1 hz2
      replace hLa0 := Lib.hid hLa0
      go_wp2_with fail
      refine cla_one hcel0.out x0.out.1 hn0 x0.out.2.1 hc0 (fun x hx => (hb0.out.2 x hx).1) hLa0.out _ _ _ _ _ _ _ _ _ _ _ _ _ _ _ _ _ _ _ _ _ _ _ _ _ _ _ _ _ _ _ _ _ _ _ _ _ _ _ _ _ _ _ _ _ _ _ _ _ _ _ _ _ _ _ _ _ _ _ _ _ _ _ _ _ _ _ _ _ _ _ _ _ _ _ _ _ _ _ _ _ _ _ _ _ _ _ _ _ _ _ _ _ _ _ _ _ _ _ _ _ _ _ _ _ _ _ _ _ _ _ _ _ _ _ _ _ _ _ _ _ _ _ _ _ _ _ _ _ _ _ _ _ _ _ _ _ _ _ _ _ _ _ _ _ _ _ _ _ _ _ _ _ _ _ _ _ _ _ _ _ _ _ _ _ _ _ _ _ _ _ _ _ _ _ _ _ _ _ _ _ ?_
      clear hLa0
      intro wA y9 y10 y43 y44 y45 y46 y47 y48 y49 y50 y51 y52 y53 y54 y55 y56 y57 y58 y59 y60 y61 y62 y63 y64 y65 y66 y67 y68 y69 y70 y71 y72 hLa
      dsimp only
      obtain ⟨lo, ke, G, H, hca, hb8, hz, hFo, h8, h8F⟩ := hLa
      generalize w2.heap.size = b8 at *
      have hq0 := wov_in l0
      have hl0 := wov_len l0
      have hE6 := lastsOf_len (wov l0)
      have hEs : ∀ j, ((lastsOf (wov l0)).getD j em).size ≤ 40 := press_size base_size (thr_size l0)
      have hpr := press_on hca rfl (by show (thr (wov l0)).length < 1000000; rw [thr_len]; have := x0.out.1; omega) (by simp [laC]) (laC_rows rfl hq0) (by intro h; simp [laC] at h)
      rw [laC_press, show (laC base6 (wov l0)).weaveR = 0 from rfl] at hpr
      generalize lastsOf (wov l0) = E at *
      replace hEs := Lib.hid hEs
      replace hE6 := Lib.hid hE6
      clear hq0 hl0
      go_wp2_with fail
      refine hpr.mono ?_
      rintro e wB ⟨lo5, ke5, G5, H5, rfl, hc5, hz5, hG5, hH5⟩
      clear hpr
      have hszA := hz.size
      have hblt := hb8.lt
      have hzB : Chg [] w wB := hz.trans hz5 (fun g hg => .inr (hFo g (by simp at hg ⊢; rcases hg with hg | hg | hg <;> simp [hg])))
      have hb8B := hb8.chg hz5 (fun hm => h8F (by simp at hm ⊢; rcases hm with hm | hm | hm <;> simp [hm]))
      have hFB := foot_sub hFo hz.size hG5 hH5
      have h8FB : b8 ∉ p :: (F ++ G5 ++ H5) := by
        intro hm
        simp only [List.mem_cons, List.mem_append] at hm h8F
        rcases hm with hm | (hm | hm) | hm
        · exact h8F (.inl hm)
        · exact h8F (.inr (.inl (.inl hm)))
        · rcases hG5 _ hm with h | h
          · exact h8F (.inr (.inl (.inr h)))
          · omega
        · rcases hH5 _ hm with h | h
          · exact h8F (.inr (.inr h))
          · omega
      clear hca hb8 hz hFo h8F hz5 hG5 hH5
      have hszB := hzB.size
      have hb8C := hb8B.alloc (.cells (six (mapCell fun _ => none)) 35)
      have hgC := Blk.new wB 35 (six (mapCell fun _ => none))
      have hcC := hc5.alloc (.cells (six (mapCell fun _ => none)) 35)
      have hzC := hzB.alloc (.cells (six (mapCell fun _ => none)) 35)
      have hgF : wB.heap.size ∉ p :: (F ++ G5 ++ H5) := fun hm => by
        obtain ⟨cs, t, hb, -⟩ := cloth_blks hc5 _ hm
        have := hb.lt
        omega
      have hg8 : b8 ≠ wB.heap.size := by have := hb8B.lt; omega
      clear hc5 hzB hb8B
      replace hcC := Lib.hid hcC
      replace hb8C := Lib.hid hb8C
      replace hgC := Lib.hid hgC
      replace hzC := Lib.hid hzC
      replace hFB := Lib.hid hFB
      replace h8FB := Lib.hid h8FB
      replace hgF := Lib.hid hgF
      replace hg8 := Lib.hid hg8
      go_wp2_with fail
      refine cla_two hb8C.out hgC.out (fun j => Nat.le_trans (hEs.out j) (by unfold maxLen; omega)) _ _ _ _ _ _ _ _ _ _ _ _ _ _ _ _ _ _ _ _ _ _ _ _ _ _ _ _ _ _ _ _ _ _ _ _ _ _ _ _ _ _ _ _ _ _ _ _ _ _ _ _ _ _ _ _ _ _ _ _ _ _ _ _ _ _ _ _ _ _ _ _ _ _ _ _ _ _ _ _ _ _ _ _ _ _ _ _ _ _ _ _ _ _ _ _ _ _ _ _ _ _ _ _ _ _ _ _ _ _ _ _ _ _ _ _ _ _ _ _ _ _ _ _ _ _ _ _ _ _ _ _ _ _ _ _ _ _ _ _ _ _ _ _ _ _ _ _ _ _ _ _ _ _ _ _ _ _ _ _ _ _ _ _ _ _ _ _ _ _ _ _ _ _ _ _ _ _ _ _ _ _ ?_
      intro wD y12 y77 y78 y79 y80 y81 y82 y83 y84 y85 y86 y87 hpost
      dsimp only
      obtain ⟨f, hM, hf, hzD⟩ := hpost
      have hLaD : LaA w wD p pr F b8 E [] E := by
        refine ⟨lo5, ke5, G5, H5, hcC.out.chg hzD (fun x hx hm => ?_), hb8C.out.chg hzD (by simpa using hg8.out), hzC.out.trans hzD (fun x hx => .inr ?_), hFB.out, h8, h8FB.out⟩
        · obtain rfl : x = wB.heap.size := by simpa using hm
          exact hgF.out hx
        · obtain rfl : x = wB.heap.size := by simpa using hx
          exact hszB
      have hloC : w.heap.size ≤ (wB.alloc (.cells (six (mapCell fun _ => none)) 35)).heap.size := hzC.out.size
      generalize (wB.alloc (.cells (six (mapCell fun _ => none)) 35)).heap.size = lo0 at *
      generalize wB.heap.size = g at *
      clear hcC hb8C hgC hzC hFB h8FB hgF hg8 hzD
      replace hLaD := Lib.hid hLaD
      replace hM := Lib.hid hM
      replace hf := Lib.hid hf
      go_wp2_with fail
      refine cla_three hcel1.out x1.out.1 hn1 x1.out.2.1 hc1 (fun x hx => (hb1.out.2 x hx).1) hE6.out hloC hf.out hLaD.out hM.out _ _ _ _ _ _ _ _ _ _ _ _ _ _ _ _ _ _ _ _ _ _ _ _ _ _ _ _ _ _ _ _ _ _ _ _ _ _ _ _ _ _ _ _ _ _ _ _ _ _ _ _ _ _ _ _ _ _ _ _ _ _ _ _ _ _ _ _ _ _ _ _ _ _ _ _ _ _ _ _ _ _ _ _ _ _ _ _ _ _ _ _ _ _ _ _ _ _ _ _ _ _ _ _ _ _ _ _ _ _ _ _ _ _ _ _ _ _ _ _ _ _ _ _ _ _ _ _ _ _ _ _ _ _ _ _ _ _ _ _ _ _ _ _ _ _ _ _ _ _ _ _ _ _ _ _ _ _ _ _ _ _ _ _ _ _ _ _ _ _ _ _ _ _ _ _ _ _ _ _ _ ?_
      clear hLaD hM
      intro wE y13 y14 y88 y89 y90 y91 y92 y93 y94 y95 y96 y97 y98 y99 y100 y101 y102 y103 y104 y105 y106 y107 y108 y109 y110 y111 y112 y113 y114 y115 y116 y117 y118 hLa hM
      dsimp only
      obtain ⟨lo, ke, G, H, hca, hb8, hz, hFo, h8', h8F⟩ := hLa
      have hq1 := wov_in l1
      have hl1 := wov_len l1
      have hts := thr_size l1
      have hm60 : (thr (wov l1)).length ≤ 60 := by rw [thr_len]; have := x1.out.1; omega
      have hlo := loose_at hca
      have htr := tear_on (m := c2) hca rfl (laC_rows hE6.out hq1) (by show (thr (wov l1)).length ≤ 1000000; omega) (hs2.out.chg hz (by simp)) (by omega)
      have htor := laC_tear E (wov l1) keep
      have hkm := kept_may E (wov l1) keep (thr (wov l1)).length
      have hkle := keptTo_le (thr (wov l1)) keep (thr (wov l1)).length
      have hks : ∀ t ∈ keptTo (thr (wov l1)) keep (thr (wov l1)).length, t.2.size ≤ 40 := fun t ht => hts t (keptTo_mem _ _ _ t ht)
      rw [show (laC E (wov l1)).loose = thr (wov l1) from rfl] at hlo htr
      have hblks := cloth_blks hca
      generalize mayB E (wov l1) = T at *
      generalize (laC E (wov l1)).tear keep = ct at *
      generalize thr (wov l1) = L at *
      obtain ⟨m, hm⟩ : ∃ m, L.length = m := ⟨_, rfl⟩
      rw [hm] at hlo htr htor hkm hkle hks hm60
      replace hm := Lib.hid hm
      obtain ⟨K, hK⟩ : ∃ K, (keptTo L keep m).length = K := ⟨_, rfl⟩
      rw [hK] at htr hkle
      replace hK := Lib.hid hK
      have hPs : ∀ j, ((pressTo E (keptTo L keep m)).getD j em).size ≤ maxLen := fun j => Nat.le_trans (press_size hEs.out hks j) (by unfold maxLen; omega)
      have hP6 := pres_len E (keptTo L keep m) hE6.out
      have hPK : K = 0 → pressTo E (keptTo L keep m) = E := fun h => by
        rw [← hK.out] at h
        rw [List.eq_nil_of_length_eq_zero h]
        rfl
      generalize pressTo E (keptTo L keep m) = P at *
      clear hts hl1 hq1 hks
      replace htor := Lib.hid htor
      replace hkm := Lib.hid hkm
      replace hPs := Lib.hid hPs
      replace hPK := Lib.hid hPK
      replace hP6 := Lib.hid hP6
      replace hblks := Lib.hid hblks
      replace hM := Lib.hid hM
      replace hb8 := Lib.hid hb8
      replace hFo := Lib.hid hFo
      replace h8F := Lib.hid h8F
      clear hca
      go_wp2_with fail
      refine hlo.mono ?_
      rintro e wE' ⟨rfl, rfl⟩
      clear hlo
      go_wp2_with fail
      refine htr.mono ?_
      rintro e wF ⟨rfl, hcF, hzF⟩
      clear htr
      have hsub : ∀ x ∈ p :: F, x ∈ p :: (F ++ G ++ H) := fun x hx => by simp at hx ⊢; rcases hx with hx | hx <;> simp [hx]
      have hMF := hM.out.weave hzF (fun x hx => hblks.out x (hsub x hx))
      have hb8F := hb8.out.chg hzF (fun hm => h8F.out (hsub _ hm))
      have hzwF : Chg [] w wF := hz.trans hzF (fun x hx => .inr (hFo.out x (hsub x hx)))
      have hpF : p ∉ [b8] := fun hm => h8F.out (by simp at hm; simp [hm])
      have hmd := mend_at hcF
      rw [htor.out] at hmd
      have hpblk := cloth_blks hcF p (by simp)
      have hpw : w.heap.size ≤ p := hFo.out p (by simp)
      clear hcF hM hb8 hz hzF htor
      clear hblks
      go_wp2_with fail
      refine hmd.mono ?_
      rintro e wG ⟨rfl, hcG, hzG⟩
      clear hmd
      have hMG := hMF.weave hzG (fun x hx => by
        obtain rfl : x = p := by simpa using hx
        exact hpblk)
      have hb8G := hb8F.chg hzG (fun hm => by
        obtain rfl : b8 = p := by simpa using hm
        exact hpF (by simp))
      have hzwG : Chg [] w wG := hzwF.trans hzG (fun x hx => .inr (by
        obtain rfl : x = p := by simpa using hx
        exact hpw))
      have hq : IntKind.i64.wrap ((m : Int) - (K : Int)) = (m : Int) - K := by rw [IntKind.wrap_i64]; omega
      have hlw := fun w' (k : Chg [] wG w') => loose_at (hcG.chg k (by simp))
      rw [show (laC P []).loose = [] from rfl] at hlw
      simp only [List.length_nil] at hlw
      clear hMF hb8F hzwF hzG hFo h8F hpF hpblk hsub
      replace hMG := Lib.hid hMG
      replace hb8G := Lib.hid hb8G
      replace hcG := Lib.hid hcG
      replace hlw := Lib.hid hlw
      go_wp2_with fail
      refine cla_four (L := L) (hs2.out.chg hzwG (by simp)) (by omega) x2.out.2.1 hc2 hm.out hm60 _ _ _ _ _ _ _ _ _ _ _ _ _ _ _ _ _ _ _ _ _ _ _ _ _ _ _ _ _ _ _ _ _ _ _ _ _ _ _ _ _ _ _ _ _ _ _ _ _ _ _ _ _ _ _ _ _ _ _ _ _ _ _ _ _ _ _ _ _ _ _ _ _ _ _ _ _ _ _ _ _ _ _ _ _ _ _ _ _ _ _ _ _ _ _ _ _ _ _ _ _ _ _ _ _ _ _ _ _ _ _ _ _ _ _ _ _ _ _ _ _ _ _ _ _ _ _ _ _ _ _ _ _ _ _ _ _ _ _ _ _ _ _ _ _ _ _ _ _ _ _ _ _ _ _ _ _ _ _ _ _ _ _ _ _ _ _ _ _ _ _ _ _ _ _ _ _ _ _ _ _ ?_
      intro y18 y126 y127 y128 y129 y130 y131 y132 y133 y134 y135 y136 y137 y138 y139 y140 y141 y142
      dsimp only
      rw [hK.out]
      go_wp2_with fail
      refine cla_five hcG.out hP6.out hb8G.out hMG.out hf.out hkm.out hPK.out hPs.out _ _ _ _ _ _ _ _ _ _ _ _ _ _ _ _ _ _ _ _ _ _ _ _ _ _ _ _ _ _ _ _ _ _ _ _ _ _ _ _ _ _ _ _ _ _ _ _ _ _ _ _ _ _ _ _ _ _ _ _ _ _ _ _ _ _ _ _ _ _ _ _ _ _ _ _ _ _ _ _ _ _ _ _ _ _ _ _ _ _ _ _ _ _ _ _ _ _ _ _ _ _ _ _ _ _ _ _ _ _ _ _ _ _ _ _ _ _ _ _ _ _ _ _ _ _ _ _ _ _ _ _ _ _ _ _ _ _ _ _ _ _ _ _ _ _ _ _ _ _ _ _ _ _ _ _ _ _ _ _ _ _ _ _ _ _ _ _ _ _ _ _ _ _ _ _ _ _ _ _ ?_
      intro wH y6 y19 y20 y21 y143 y144 y145 y146 y147 y148 y149 y150 y151 y152 y153 y154 y155 y156 y157 y158 y159 y160 y161 y162 y163 y164 y165 y166 y167 y168 y169 y170 y171 y172 y173 hzH
      dsimp only
      have hlH := hlw.out _ hzH
      clear hlw
      go_wp2_with fail
      refine hlH.mono ?_
      rintro e wI ⟨rfl, rfl⟩
      go_wp2_with fail
      go_ret
      exact ⟨by first | rfl | simp, hzwG.trans' hzH⟩
end Go.Proofs.Ytjbjiomajldkoaa
