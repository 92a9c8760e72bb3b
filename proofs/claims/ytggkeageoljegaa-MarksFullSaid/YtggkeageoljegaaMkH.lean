/- MarksFull, walked: the loop. -/
import Derived.Test.YtggkeageoljegaaMkG
namespace Go.Proofs.Ytggkeageoljegaa
open Go.RowKit Go.Vx Go.Maps
set_option linter.unusedVariables false
set_option linter.unusedSimpArgs false

theorem lk_len : ∀ i : Fin 12, (Lk i.val).length < 100000 := by decide +kernel
theorem nm_conv (w : World) {i : Nat} (hi : i ≤ 16) : (convert 29 9 (.slice (some ⟨w.heap.size, 0, none⟩) 2 2)).run Try.prog (w.alloc (.cells #[.int .u8 98, .int .u8 (97 + (i : Int))] 5)) = .ok (.string ⟨(nm i).toArray⟩) (w.alloc (.cells #[.int .u8 98, .int .u8 (97 + (i : Int))] 5)) := by
  refine run_convert_bytes_back (P := Try.prog) _ 29 9 5 ⟨w.heap.size, 0, none⟩ 2 (nm i) Try.underlying29 Try.underlying5 Try.underlying9 ?_
  intro j hj
  have h2 : (nm i).length = 2 := rfl
  rw [h2] at hj
  have hu : (UInt8.ofNat (97 + i)).toNat = 97 + i := by
    rw [UInt8.toNat_ofNat']
    omega
  rcases (by omega : j = 0 ∨ j = 1) with rfl | rfl
  · simp [Addr.add, nm]
  · simp only [Addr.add, nm, List.getElem_cons_succ, List.getElem_cons_zero, hu]
    simp
theorem nm_size (i : Nat) : (⟨(nm i).toArray⟩ : ByteArray).size = 2 := rfl
theorem lk_step {i : Nat} (h1 : 1 ≤ i) (h11 : i ≤ 11) : makeC (Lk (min (i - 1) 11)) (nm i) (i : Int) = 0 ∧ putR (Lk (min (i - 1) 11)) (nm i) (i : Int) = Lk (min (i + 1 - 1) 11) ∧ (Lk (min (i - 1) 11)).length < 100000 := by
  obtain ⟨j, rfl⟩ : ∃ j, i = j + 1 := ⟨i - 1, by omega⟩
  have e1 : min (j + 1 - 1) 11 = j := by omega
  have e2 : min (j + 1 + 1 - 1) 11 = j + 1 := by omega
  rw [e1, e2]
  exact ⟨lk1 ⟨j, by omega⟩, rfl, lk_len ⟨j, by omega⟩⟩
theorem lk_full {i : Nat} (h12 : 12 ≤ i) (h16 : i ≤ 16) : makeC (Lk (min (i - 1) 11)) (nm i) (i : Int) = 13 ∧ Lk (min (i - 1) 11) = Lk (min (i + 1 - 1) 11) ∧ (Lk (min (i - 1) 11)).length < 100000 := by
  have e1 : min (i - 1) 11 = 11 := by omega
  have e2 : min (i + 1 - 1) 11 = 11 := by omega
  obtain ⟨j, rfl⟩ : ∃ j, i = j + 12 := ⟨i - 12, by omega⟩
  rw [e1, e2]
  exact ⟨lk2 ⟨j, by omega⟩, rfl, lk_len ⟨11, by omega⟩⟩
set_option maxRecDepth 8000 in
set_option maxHeartbeats 8000000 in
theorem full_in {w : World} {more : Nat} (h1 : 1 ≤ more) (h5 : more ≤ 5) :
    Calls Try.prog 3 #[.int .i64 more] w fun e w' => e = .returned (.bool true) ∧ Chg [] w w' := by
  have b1 : decide ((more : Int) < 1) = false := by simp; omega
  have b2 : decide (5 < (more : Int)) = false := by simp; omega
  go_enter Try.func3, Try.ntmps3
  go_wp2_with (go_at_call 4; refine (l19_alive _).mono ?_; rintro e w0 ⟨rfl, hc0⟩)
  have h0 := MA.new hc0
  have hg := mk_make h0.at_ (by simp) ⟨#[97, 99, 116, 117, 97, 108, 115]⟩ (by decide) 1 lk8 (by decide)
  refine hg.mono ?_
  rintro e w1 ⟨rfl, F1, h1', hF1, hc1⟩
  have hM : MA w w1 w0.heap.size (Lk 0) F1 := h0.step hc1 h1' hF1
  clear h0 hg h1' hF1 hc1
  dsimp only
  go_wp2_with fail
  go_loopw [4] (fun iv wr => ∃ (i : Nat) (F : List Nat), 1 ≤ i ∧ i ≤ 12 + more ∧ iv = .int .i64 i ∧ MA w wr w0.heap.size (Lk (min (i - 1) 11)) F) (fun iv _ => 12 + more - (intOf iv).toNat)
  case atStart => exact ⟨1, F1, by omega, by omega, rfl, hM⟩
  case round =>
    clear hM
    obtain ⟨i, F, hi1, hi2, rfl, hM⟩ := hrel
    by_cases hlt : i < 12 + more
    · have hcv := nm_conv wr (show i ≤ 16 by omega)
      have hMa := hM.quiet ((Chg.refl [] wr).alloc (.cells #[.int .u8 98, .int .u8 (97 + (i : Int))] 5))
      have hnmd : (⟨(nm i).toArray⟩ : ByteArray).data.toList = nm i := by simp
      by_cases h11 : i ≤ 11
      · obtain ⟨c1, c2, c3⟩ := lk_step hi1 h11
        have hmk := mk_make hMa.at_ c3 ⟨(nm i).toArray⟩ (by rw [nm_size]; omega) i (by rw [hnmd]; exact c1) (WalkArith.wf_i64 (by omega))
        rw [hnmd, c2] at hmk
        have d1 : decide ((i : Int) < 12) = true := by simp; omega
        have d2 : decide ((12 : Int) ≤ (i : Int)) = false := by simp; omega
        clear c1 c2 c3 hnmd
        go_wp2_with fail
        refine hmk.mono ?_
        rintro e w2 ⟨rfl, F2, h2, hF2, hc2⟩
        have hM2 := hMa.step hc2 h2 hF2
        clear hmk h2 hF2 hc2
        dsimp only
        go_wp2_with fail
        go_roundw
        case measure => simp [intOf]; omega
        case rel => exact ⟨i + 1, F2, by omega, by omega, by go_num, hM2⟩
      · obtain ⟨c1, c2, c3⟩ := lk_full (show 12 ≤ i by omega) (by omega)
        have hmk := mk_make_no hMa.at_ c3 ⟨(nm i).toArray⟩ (by rw [nm_size]; omega) i (by rw [hnmd, c1]; decide)
        rw [hnmd, c1] at hmk
        have d1 : decide ((i : Int) < 12) = false := by simp; omega
        have d2 : decide ((12 : Int) ≤ (i : Int)) = true := by simp; omega
        rw [c2] at hMa
        clear c1 c2 c3 hnmd
        go_wp2_with fail
        refine hmk.mono ?_
        rintro e w2 ⟨rfl, rfl⟩
        clear hmk
        dsimp only
        go_wp2_with fail
        go_roundw
        case measure => simp [intOf]; omega
        case rel => exact ⟨i + 1, F, by omega, by omega, by go_num, hMa⟩
    · obtain rfl : i = 12 + more := by omega
      have e11 : min (12 + more - 1) 11 = 11 := by omega
      rw [e11] at hM
      clear e11
      have hl3 := lk3
      have hbm : ∃ b, Blk wr w0.heap.size 26 #[.map (some b)] ∧ RMap wr b (Lk 11) := by
        rcases hM.at_ with ⟨-, h, -⟩ | ⟨b, hb, hm, -⟩
        · rw [h] at hl3
          simp at hl3
        · exact ⟨b, hb, hm⟩
      obtain ⟨b, hb, hm⟩ := hbm
      have hall := mk_all hb hm (by omega)
      have e1 : dropC (Lk 11) (⟨#[97, 99, 116, 117, 97, 108, 115]⟩ : ByteArray).data.toList = 1 := by
        show dropC (Lk 11) actuals = 1
        unfold dropC
        rw [lk4]
        rfl
      have e2 : dropC (Lk 11) (⟨#[98, 98]⟩ : ByteArray).data.toList = 0 := by
        show dropC (Lk 11) [98, 98] = 0
        unfold dropC
        rw [lk5]
        rfl
      have e3 : dropC (delR (Lk 11) [98, 98]) (⟨#[98, 98]⟩ : ByteArray).data.toList = 9 := by
        show dropC (delR (Lk 11) [98, 98]) [98, 98] = 9
        unfold dropC
        rw [lk6]
        rfl
      have hdl := del_len (Lk 11) [98, 98]
      clear hb hm
      replace hl3 := Lib.hid hl3
      go_wp2_with fail
      refine hall.mono ?_
      rintro e w2 ⟨v, ks, G, rfl, hp, hN, hG, hc2⟩
      obtain ⟨A2, c2, rfl, -⟩ := id (show Fix w2 9 1 v (ks.mergeSort fun x y => decide (x ≤ y)).length _ G from hN)
      have hkl : (ks.mergeSort fun x y => decide (x ≤ y)).length = 12 := by rw [List.length_mergeSort, hp.length_eq, List.length_map, hl3.out]
      rw [hkl]
      have hM2 := hM.quiet hc2
      have hd1 := mk_drop_no hM2.at_ ⟨#[97, 99, 116, 117, 97, 108, 115]⟩ (by decide) (by rw [e1]; decide)
      rw [e1] at hd1
      have hd2 := mk_drop hM2.at_ ⟨#[98, 98]⟩ (by decide) e2
      clear hall hp hN hG hc2 hkl e1 e2
      dsimp only
      go_wp2_with fail
      refine hd1.mono ?_
      rintro e w3 ⟨rfl, rfl⟩
      dsimp only
      go_wp2_with fail
      refine hd2.mono ?_
      rintro e w3 ⟨rfl, h3, hc3⟩
      have hM3 : MA w w3 w0.heap.size (delR (Lk 11) [98, 98]) F := hM2.step hc3 h3 (fun g hg => .inl hg)
      have hd3 := mk_drop_no hM3.at_ ⟨#[98, 98]⟩ (by decide) (by rw [e3]; decide)
      rw [e3] at hd3
      have hmk := mk_make hM3.at_ (by have := hl3.out; omega) ⟨#[98, 98]⟩ (by decide) 9 lk7 (by decide)
      clear hd1 hd2 h3 hc3 e3
      dsimp only
      go_wp2_with fail
      refine hd3.mono ?_
      rintro e w4 ⟨rfl, rfl⟩
      dsimp only
      go_wp2_with fail
      refine hmk.mono ?_
      rintro e w5 ⟨rfl, F5, h5', hF5, hc5⟩
      have hM5 := hM3.step hc5 h5' hF5
      clear hd3 hmk h5' hF5 hc5
      dsimp only
      go_wp2_with fail
      go_ret
      exact ⟨by trivial, hM5.chg⟩
set_option maxHeartbeats 1000000 in
theorem marksFull_walk (more : Int) (w0 : (Lit.int .i64 more).wf = true) (w : World) :
    Calls Try.prog 3 #[.int .i64 more] w fun e w' => e = .returned (.bool true) ∧ Chg [] w w' := by
  by_cases h : 1 ≤ more ∧ more ≤ 5
  · obtain ⟨h1, h2⟩ := h
    obtain ⟨m, rfl⟩ := Int.eq_ofNat_of_zero_le (show 0 ≤ more by omega)
    exact full_in (by omega) (by omega)
  · have hb : decide (more < 1) = true ∨ (decide (more < 1) = false ∧ decide (5 < more) = true) := by
      simp only [decide_eq_true_eq, decide_eq_false_iff_not]
      omega
    clear h
    rcases hb with b1 | ⟨b1, b2⟩
    all_goals
      go_enter Try.func3, Try.ntmps3
      go_wp2_with (go_at_call 4; refine (l19_alive _).mono ?_; rintro e w0 ⟨rfl, hc0⟩)
      go_ret
      exact ⟨by trivial, hc0⟩
end Go.Proofs.Ytggkeageoljegaa
