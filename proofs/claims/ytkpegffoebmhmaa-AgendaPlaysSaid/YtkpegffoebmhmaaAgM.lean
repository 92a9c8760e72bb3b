/- The reference's PutItem. -/
import Derived.Test.YtkpegffoebmhmaaAgK
namespace Go.Proofs.Ytkpegffoebmhmaa
open Go.RowKit Go.Vx
set_option linter.unusedVariables false
set_option linter.unusedSimpArgs false

set_option maxRecDepth 8000 in
set_option maxHeartbeats 16000000 in
theorem r_putItem {w : World} {v : Value} {l : List Item} {F : List Nat} (h : RItems w v l F) (hl : l.length < 1000) (x : Item) :
    Calls Try.prog 10 #[v, .agg #[.int .i64 x.1, .int .i64 x.2.1, .int .i64 x.2.2]] w fun e w' => ∃ v' F', e = .returned v' ∧ RItems w' v' (place l x) F' ∧ (∀ g, g ∈ F' → w.heap.size ≤ g) ∧ Chg [] w w' := by
  obtain ⟨i0, hi, j0, j1, j2⟩ := info_parts infoRItem
  have h' := h
  obtain ⟨A, c, rfl, hcap, hcm, -⟩ := h'
  unfold maxLen at hcm
  go_enter Try.func10, Try.ntmps10
  have hb0 := Blk.new w 41 #[.int .i64 x.1, .int .i64 x.2.1, .int .i64 x.2.2]
  have h1 := h.chg ((Chg.refl [] w).alloc (.cells #[.int .i64 x.1, .int .i64 x.2.1, .int .i64 x.2.2] 41)) (by simp)
  go_upto_block 0 with fail
  go_cut [5] (fun iv wx => ∃ k : Nat, iv = .int .i64 k ∧ k ≤ l.length ∧ (∀ j, j < k → ahead (nth l j) x = true) ∧ (k = l.length ∨ ahead (nth l k) x = false) ∧ Chg [] (w.alloc (.cells #[.int .i64 x.1, .int .i64 x.2.1, .int .i64 x.2.2] 41)) wx)
  case first =>
    go_wp2_with fail
    go_loopw [5] (fun iv wr => ∃ k : Nat, iv = .int .i64 k ∧ k ≤ l.length ∧ (∀ j, j < k → ahead (nth l j) x = true) ∧ Chg [] (w.alloc (.cells #[.int .i64 x.1, .int .i64 x.2.1, .int .i64 x.2.2] 41)) wr) (fun iv _ => l.length - (intOf iv).toNat)
    case atStart => exact ⟨0, rfl, by omega, fun j hj => by omega, Chg.refl _ _⟩
    case round =>
      obtain ⟨k, rfl, hk, hj, hc⟩ := hrel
      by_cases hkl : k < l.length
      · obtain ⟨g, c', e, x0, x1, x2⟩ := (h1.chg hc (by simp)).at_ hkl
        injection e with e _ e'
        subst e e'
        have hbx := hb0.chg hc (by simp)
        have y0 := hbx.cell 0
        have y1 := hbx.cell 1
        have y2 := hbx.cell 2
        simp at y0 y1 y2
        have hah := r_ahead (nth l k) x
        have hj2 : ahead (nth l k) x = true → ∀ j, j < k + 1 → ahead (nth l j) x = true := fun h j hj' => by
          rcases Nat.lt_or_ge j k with h2 | h2
          · exact hj j h2
          · obtain rfl : j = k := by omega
            exact h
        replace hj := Lib.hid hj
        cases hb : ahead (nth l k) x with
        | true =>
          have hj3 := hj2 hb
          rw [hb] at hah
          clear hj2
          replace hb := Lib.hid hb
          replace hj3 := Lib.hid hj3
          generalize nth l k = z at *
          go_wp2_with fail
          go_region_law (go_simp; go_at_call 17; refine (hah _).mono ?_; rintro e w1 ⟨rfl, hc1⟩)
          all_goals
            go_wp2_with fail
            go_roundw
            case measure => simp [intOf]; omega
            case rel => exact ⟨k + 1, by go_num, by omega, hj3.out, hc.drew.trans' hc1⟩
        | false =>
          rw [hb] at hah
          clear hj2
          replace hb := Lib.hid hb
          go_wp2_with fail
          go_region_law (go_simp; go_at_call 17; refine (hah _).mono ?_; rintro e w1 ⟨rfl, hc1⟩)
          all_goals
            go_wp2_with fail
            go_meet
            exact ⟨k, by trivial, by omega, hj.out, .inr hb.out, hc.drew.trans' hc1⟩
      · obtain rfl : k = l.length := by omega
        replace hj := Lib.hid hj
        go_wp2_with fail
        go_quiet (fail)
        go_wp2_with fail
        go_meet
        exact ⟨l.length, by trivial, by omega, hj.out, .inl rfl, hc.drewN _⟩
  case rest =>
    obtain ⟨k, rfl, hk, hj, he, hc⟩ := hcut
    obtain ⟨w1, w2⟩ := while_at (p := fun y => ahead y x) hk hj he
    have hpl : place l x = l.take k ++ x :: l.drop k := by unfold place; rw [w1, w2]
    have hx := h1.chg hc (by simp)
    have hsrc : Src wc 3 A l.length (l.flatMap itEnc) := by
      obtain ⟨A', c', e, -, -, hs, -⟩ := hx
      injection e with e
      subst e
      exact hs
    have hT := Src.take3 hsrc rfl hk
    have hTd : Src wc.drew 3 A k ((l.take k).flatMap itEnc) := hT
    have hbx := hb0.chg hc (by simp)
    have y0 := hbx.cell 0
    have y1 := hbx.cell 1
    have y2 := hbx.cell 2
    simp at y0 y1 y2
    have y0d : wc.drew.cell? ⟨w.heap.size, 0, none⟩ = some (.int .i64 x.1) := y0
    have y1d : wc.drew.cell? ⟨w.heap.size, 1, none⟩ = some (.int .i64 x.2.1) := y1
    have y2d : wc.drew.cell? ⟨w.heap.size, 2, none⟩ = some (.int .i64 x.2.2) := y2
    have hblt := hbx.lt
    have yal : ∀ w', Chg [] wc.drew w' → w'.cell? ⟨w.heap.size, 0, none⟩ = some (.int .i64 x.1) ∧ w'.cell? ⟨w.heap.size, 1, none⟩ = some (.int .i64 x.2.1) ∧ w'.cell? ⟨w.heap.size, 2, none⟩ = some (.int .i64 x.2.2) := fun w' hc' =>
      ⟨by rw [hc'.cell hblt (by simp)]; exact y0, by rw [hc'.cell hblt (by simp)]; exact y1, by rw [hc'.cell hblt (by simp)]; exact y2⟩
    have o1 := oneItems (l.take k)
    have o2 := oneItems (l.drop k)
    have hkc : k ≤ c := by omega
    have hz : Chg [] w wc.drew := (((Chg.refl [] w).alloc _).trans' hc).drew
    clear he hj w1 w2 hT y0 y1 y2 hb0 hbx h1 hx h
    replace hpl := Lib.hid hpl
    by_cases hkl : k < l.length
    · have hkn : ¬ c = k := by omega
      obtain ⟨ad, rfl, hsc⟩ := hsrc.2 (by omega)
      have hadb : ad.block < wc.heap.size := Go.Clock.block_lt (hsc 0 _ (List.getElem?_eq_getElem (by rw [hsrc.1]; omega)))
      have hnF : ∀ (F1 : List Nat) (N : Nat), wc.heap.size ≤ N → (F1 = [] ∨ F1 = [N]) → ∀ ad', some (ad.add (k * 3)) = some ad' → ad'.block ∉ F1 := fun F1 N hN h ad' e => by
        injection e with e
        subst e
        rw [add_block]
        rcases h with h | h <;> rw [h] <;> simp
        omega
      have hD := Src.drop3 hsrc rfl hk
      have hDd : Src wc.drew 3 (some (ad.add (k * 3))) (l.length - k) ((l.drop k).flatMap itEnc) := hD
      clear hD hsrc hsc
      go_wp2_with fail
      go_region_law (first
        | (refine step_append_fix rfl _ _ 37 rfl Try.underlying37 hi j0 j1 j2 rfl (by omega) (n := 0) (xs := []) (F := []) rfl (Fix.nil _ _ _) rfl hTd o1 (by unfold maxLen; omega) (by omega) ?_; intro v1 wa F1 ha1; have hsA := ha1.chg.size; obtain ⟨u0, u1, u2⟩ := yal wa ha1.chg)
        | (refine step_append_fix rfl _ _ 37 rfl Try.underlying37 hi j0 j1 j2 rfl (by omega) (n := 0) (xs := []) (F := []) rfl (Fix.nil _ _ _) rfl (hTd.alloc _) o1 (by unfold maxLen; omega) (by omega) ?_; intro v1 wa F1 ha1; have hsA := ha1.chg.size)
        | (refine step_append_fix rfl _ _ 37 rfl Try.underlying37 hi j0 j1 j2 rfl (by omega) (m := 1) rfl (by first | exact ha1.fix.alloc _ | exact ha1.fix) rfl (by first | exact Src.one3 rfl | exact (Src.one3 (w := wc.drew) (t := 41) (x := .int .i64 x.1) (y := .int .i64 x.2.1) (z := .int .i64 x.2.2) rfl).chg (S := []) ha1.chg (by simp)) (by simp [Value.oneCell']) (by unfold maxLen; omega) (by omega) ?_; intro v2 wb F2 ha2; have hsB := ha2.chg.size)
        | (refine step_append_fix rfl _ _ 37 rfl Try.underlying37 hi j0 j1 j2 rfl (by omega) rfl ha2.fix rfl (by first | exact (((hDd.chg ha1.chg (by simp)).alloc _).chg ha2.chg (hnF F1 _ (by simp) ha1.foot)) | exact (((hDd.alloc _).chg (S := []) ha1.chg (by simp)).chg ha2.chg (hnF F1 _ (by simp) ha1.foot))) o2 (by unfold maxLen; omega) (by omega) ?_; intro v3 wd F3 ha3))
      all_goals
        have z0 := hz.size
        have hA1 : ∀ g, g ∈ F1 → w.heap.size ≤ g := by
          intro g hg
          rcases ha1.foot with e | e <;> rw [e] at hg <;> simp at hg z0
          omega
        have hwa : Chg [] w wa := by first | exact hz.trans' ha1.chg | exact (hz.alloc _).trans' ha1.chg
        have z1 := hwa.size
        have hA2 : ∀ g, g ∈ F2 → w.heap.size ≤ g := by
          intro g hg
          rcases ha2.foot with e | e
          · exact hA1 g (by rw [← e]; exact hg)
          · rw [e] at hg
            simp at hg
            omega
        have hwb : Chg [] w wb := by first | exact (hwa.alloc _).trans ha2.chg (fun g hg => .inr (hA1 g hg)) | exact hwa.trans ha2.chg (fun g hg => .inr (hA1 g hg))
        have z2 := hwb.size
        have hfr : ∀ g, g ∈ F3 → w.heap.size ≤ g := by
          intro g hg
          rcases ha3.foot with e | e
          · exact hA2 g (by rw [← e]; exact hg)
          · rw [e] at hg
            simp at hg
            omega
        have hcz : Chg [] w wd := hwb.trans ha3.chg (fun g hg => .inr (hA2 g hg))
        have hfx0 : Fix wd 41 3 v3 (place l x).length ((place l x).flatMap itEnc) F3 := by
          have h3 := ha3.fix
          rw [hpl.out, List.flatMap_append, List.flatMap_cons]
          have hlen : (l.take k ++ x :: l.drop k).length = 0 + k + 1 + (l.length - k) := by simp; omega
          rw [hlen]
          simpa [itEnc] using h3
        go_wp2_with fail
        go_ret
        exact ⟨v3, F3, rfl, RItems.of_fix hfx0, hfr, hcz⟩
    · obtain rfl : k = l.length := by omega
      clear hsrc o2
      by_cases hkn : c = l.length
      · go_wp2_with fail
        go_region_law (first
          | (refine step_append_fix rfl _ _ 37 rfl Try.underlying37 hi j0 j1 j2 rfl (by omega) (n := 0) (xs := []) (F := []) rfl (Fix.nil _ _ _) rfl hTd o1 (by unfold maxLen; omega) (by omega) ?_; intro v1 wa F1 ha1; have hsA := ha1.chg.size; obtain ⟨u0, u1, u2⟩ := yal wa ha1.chg)
          | (refine step_append_fix rfl _ _ 37 rfl Try.underlying37 hi j0 j1 j2 rfl (by omega) (n := 0) (xs := []) (F := []) rfl (Fix.nil _ _ _) rfl (hTd.alloc _) o1 (by unfold maxLen; omega) (by omega) ?_; intro v1 wa F1 ha1; have hsA := ha1.chg.size)
          | (refine step_append_fix rfl _ _ 37 rfl Try.underlying37 hi j0 j1 j2 rfl (by omega) (m := 1) rfl (by first | exact ha1.fix.alloc _ | exact ha1.fix) rfl (by first | exact Src.one3 rfl | exact (Src.one3 (w := wc.drew) (t := 41) (x := .int .i64 x.1) (y := .int .i64 x.2.1) (z := .int .i64 x.2.2) rfl).chg (S := []) ha1.chg (by simp)) (by simp [Value.oneCell']) (by unfold maxLen; omega) (by omega) ?_; intro v2 wb F2 ha2; have hsB := ha2.chg.size)
          | (refine step_append_fix rfl _ _ 37 rfl Try.underlying37 hi j0 j1 j2 rfl (by omega) (m := 0) (news := []) rfl ha2.fix rfl ⟨rfl, fun h => by omega⟩ (by simp) (by unfold maxLen; omega) (by omega) ?_; intro v3 wd F3 ha3))
        all_goals
          have z0 := hz.size
          have hA1 : ∀ g, g ∈ F1 → w.heap.size ≤ g := by
            intro g hg
            rcases ha1.foot with e | e <;> rw [e] at hg <;> simp at hg z0
            omega
          have hwa : Chg [] w wa := by first | exact hz.trans' ha1.chg | exact (hz.alloc _).trans' ha1.chg
          have z1 := hwa.size
          have hA2 : ∀ g, g ∈ F2 → w.heap.size ≤ g := by
            intro g hg
            rcases ha2.foot with e | e
            · exact hA1 g (by rw [← e]; exact hg)
            · rw [e] at hg
              simp at hg
              omega
          have hwb : Chg [] w wb := by first | exact (hwa.alloc _).trans ha2.chg (fun g hg => .inr (hA1 g hg)) | exact hwa.trans ha2.chg (fun g hg => .inr (hA1 g hg))
          have z2 := hwb.size
          have hfr : ∀ g, g ∈ F3 → w.heap.size ≤ g := by
            intro g hg
            rcases ha3.foot with e | e
            · exact hA2 g (by rw [← e]; exact hg)
            · rw [e] at hg
              simp at hg
              omega
          have hcz : Chg [] w wd := hwb.trans ha3.chg (fun g hg => .inr (hA2 g hg))
          have hfx0 : Fix wd 41 3 v3 (place l x).length ((place l x).flatMap itEnc) F3 := by
            have h3 := ha3.fix
            rw [hpl.out, List.flatMap_append, List.flatMap_cons]
            have hlen : (l.take l.length ++ x :: l.drop l.length).length = 0 + l.length + 1 + 0 := by simp
            rw [hlen]
            simpa [itEnc] using h3
          go_wp2_with fail
          go_ret
          exact ⟨v3, F3, rfl, RItems.of_fix hfx0, hfr, hcz⟩
      · go_wp2_with fail
        go_region_law (first
          | (refine step_append_fix rfl _ _ 37 rfl Try.underlying37 hi j0 j1 j2 rfl (by omega) (n := 0) (xs := []) (F := []) rfl (Fix.nil _ _ _) rfl hTd o1 (by unfold maxLen; omega) (by omega) ?_; intro v1 wa F1 ha1; have hsA := ha1.chg.size; obtain ⟨u0, u1, u2⟩ := yal wa ha1.chg)
          | (refine step_append_fix rfl _ _ 37 rfl Try.underlying37 hi j0 j1 j2 rfl (by omega) (n := 0) (xs := []) (F := []) rfl (Fix.nil _ _ _) rfl (hTd.alloc _) o1 (by unfold maxLen; omega) (by omega) ?_; intro v1 wa F1 ha1; have hsA := ha1.chg.size)
          | (refine step_append_fix rfl _ _ 37 rfl Try.underlying37 hi j0 j1 j2 rfl (by omega) (m := 1) rfl (by first | exact ha1.fix.alloc _ | exact ha1.fix) rfl (by first | exact Src.one3 rfl | exact (Src.one3 (w := wc.drew) (t := 41) (x := .int .i64 x.1) (y := .int .i64 x.2.1) (z := .int .i64 x.2.2) rfl).chg (S := []) ha1.chg (by simp)) (by simp [Value.oneCell']) (by unfold maxLen; omega) (by omega) ?_; intro v2 wb F2 ha2; have hsB := ha2.chg.size)
          | (refine step_append_fix rfl _ _ 37 rfl Try.underlying37 hi j0 j1 j2 rfl (by omega) (m := 0) (news := []) rfl ha2.fix rfl ⟨rfl, fun h => by omega⟩ (by simp) (by unfold maxLen; omega) (by omega) ?_; intro v3 wd F3 ha3))
        all_goals
          have z0 := hz.size
          have hA1 : ∀ g, g ∈ F1 → w.heap.size ≤ g := by
            intro g hg
            rcases ha1.foot with e | e <;> rw [e] at hg <;> simp at hg z0
            omega
          have hwa : Chg [] w wa := by first | exact hz.trans' ha1.chg | exact (hz.alloc _).trans' ha1.chg
          have z1 := hwa.size
          have hA2 : ∀ g, g ∈ F2 → w.heap.size ≤ g := by
            intro g hg
            rcases ha2.foot with e | e
            · exact hA1 g (by rw [← e]; exact hg)
            · rw [e] at hg
              simp at hg
              omega
          have hwb : Chg [] w wb := by first | exact (hwa.alloc _).trans ha2.chg (fun g hg => .inr (hA1 g hg)) | exact hwa.trans ha2.chg (fun g hg => .inr (hA1 g hg))
          have z2 := hwb.size
          have hfr : ∀ g, g ∈ F3 → w.heap.size ≤ g := by
            intro g hg
            rcases ha3.foot with e | e
            · exact hA2 g (by rw [← e]; exact hg)
            · rw [e] at hg
              simp at hg
              omega
          have hcz : Chg [] w wd := hwb.trans ha3.chg (fun g hg => .inr (hA2 g hg))
          have hfx0 : Fix wd 41 3 v3 (place l x).length ((place l x).flatMap itEnc) F3 := by
            have h3 := ha3.fix
            rw [hpl.out, List.flatMap_append, List.flatMap_cons]
            have hlen : (l.take l.length ++ x :: l.drop l.length).length = 0 + l.length + 1 + 0 := by simp
            rw [hlen]
            simpa [itEnc] using h3
          go_wp2_with fail
          go_ret
          exact ⟨v3, F3, rfl, RItems.of_fix hfx0, hfr, hcz⟩
end Go.Proofs.Ytkpegffoebmhmaa
