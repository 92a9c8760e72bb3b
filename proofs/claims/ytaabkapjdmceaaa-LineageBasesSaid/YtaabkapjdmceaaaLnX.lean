/- Lineage: the document's Add. -/
import Derived.Test.YtaabkapjdmceaaaLnV
import Derived.Test.YtaabkapjdmceaaaLnH
namespace Go.Proofs.Ytaabkapjdmceaaa
open Go.RowKit Go.Vx Go.Maps
set_option linter.unusedVariables false
set_option linter.unusedSimpArgs false

theorem rlnCommitInfo : (Try.prog.info? 67).map (fun i => (i.zero, i.size, i.bytes)) = some (some (.agg #[.int .i64 0, .int .i64 0, .string ⟨#[]⟩, .slice none 0 0]), 4, 56) := by kernel_rfl
set_option maxRecDepth 100000 in
set_option maxHeartbeats 16000000 in
theorem rln_add {w : World} {lp : Nat} {Q : List RC} {R : List Nat} (h : RLin w lp Q R) (hlt : ∀ g ∈ lp :: R, g < w.heap.size) (hQ : Q.length < 400) {A : Option Addr} {n c : Nat} {l F0 : List Nat} (hs : Fix w 3 1 (.slice A n c) n (natVals l) F0) (root : Int) (author : ByteArray) (hr : 0 ≤ root) (ha1 : 1 ≤ author.size) (ha2 : author.size ≤ 12)
    (hn : n ≤ 2) (hnd : l.Nodup) (hth : ∀ p ∈ l, isThere (rcoms Q) p = true) (hge : ∀ p ∈ l, genAt (rcoms Q) p ≤ 400) :
    Calls Try.prog 21 #[.pointer (some ⟨lp, 0, none⟩), .int .i64 root, .string author, .slice A n c] w fun e w' => e = .returned (.tuple #[.int .i64 ((Q.length + 1 : Nat) : Int), .int .i64 0]) ∧ ∃ v F1 F2, RLin w' lp (Q ++ [⟨⟨maxGen (rcoms Q) l + 1, l, root, author⟩, v, F1⟩]) (R ++ (F1 ++ F2)) ∧ Chg [lp] w w' ∧ (∀ g ∈ F1 ++ F2, w.heap.size ≤ g ∧ g < w'.heap.size) := by
  obtain ⟨i0, hi, hz0, hz1i, hz2'⟩ := info_parts rlnCommitInfo
  obtain ⟨i1, hi1, k0, k1, k2⟩ := info_parts lnIntInfo
  have hl : l.length = n := by obtain ⟨_, _, _, h1, -⟩ := hs; simpa [natVals] using h1
  have hcell : ∀ k, (hk : k < l.length) → ∃ g, A = some ⟨g, 0, none⟩ ∧ w.cell? ⟨g, k, none⟩ = some (.int .i64 (l[k] : Nat)) := by
    intro k hk
    obtain ⟨g, c', hB, -, -, -, hc, -⟩ := hs.at_ (k := k) (j := 0) (by omega) (by omega)
    refine ⟨g, by injection hB, ?_⟩
    rw [show k * 1 + 0 = k by omega] at hc
    rw [hc, natVals, List.getElem?_map, List.getElem?_eq_getElem hk]
    rfl
  have hd : (∃ (x y : Nat) (g : Nat), n = 2 ∧ A = some ⟨g, 0, none⟩ ∧ w.cell? ⟨g, 0, none⟩ = some (.int .i64 (x : Nat)) ∧ w.cell? ⟨g, 1, none⟩ = some (.int .i64 (y : Nat)) ∧ ¬ (x : Int) = y) ∨ n = 1 ∨ n = 0 := by
    match l, hl, hcell with
    | [x, y], h, hcell =>
      obtain ⟨g, rfl, h3⟩ := hcell 0 (by simp)
      obtain ⟨g', hg, h4⟩ := hcell 1 (by simp)
      cases hg
      exact .inl ⟨x, y, g, by simpa using h.symm, rfl, h3, h4, by
        have : x ≠ y := by simpa using hnd
        omega⟩
    | [], h, _ => exact .inr (.inr (by simpa using h.symm))
    | [x], h, _ => exact .inr (.inl (by simpa using h.symm))
    | x :: y :: z :: l, h, _ => simp at h; omega
  obtain ⟨B, cq, c0, hb, hq1, hq2, Ft, hft, hFt, hne⟩ := h.head
  replace hl := Lib.hid hl
  have hr' : decide (root < 0) = false := by simpa using hr
  have hr2 : decide ((author.size : Int) < 1) = false := by simp; omega
  have hr3 : decide (12 < (author.size : Int)) = false := by simp; omega
  have hcd : ∀ a, w.drew.cell? a = w.cell? a := fun a => rfl
  go_enter Try.func21, Try.ntmps21
  rcases hd with ⟨x, y, g, rfl, rfl, d0, d1, hxy⟩ | rfl | rfl
  all_goals
    try have hxy' : ((x : Int) == (y : Int)) = false := by simpa using hxy
    go_wp2_with fail
    go_region
    go_wp2_with fail
    try clear d0 d1 hxy hxy'
    clear hr' hr2 hr3
    simp only [← hcd] at hcell c0
    have hzd : Chg [] w w.drew := (Chg.refl [] w).drew
    have hR := h.keep hzd
    have hsW := hs.chg hzd (by simp)
    clear hcd h hs hft hb
    replace hzd := Lib.hid hzd
    generalize w.drew = wd at *
    go_loopw [10, 11] (fun gv kv wr => ∃ (k : Nat), k ≤ l.length ∧ kv = .int .i64 k ∧ gv = .int .i64 (maxGen (rcoms Q) (l.take k) : Nat) ∧ Chg [] wd wr) (fun _ kv _ => l.length - (intOf kv).toNat)
    case atStart => exact ⟨0, by omega, rfl, rfl, Chg.refl _ _⟩
    case round =>
      obtain ⟨k, hk, rfl, rfl, hzr⟩ := hrel
      by_cases hltk : k < l.length
      · have hltk2 := hltk
        rw [hl.out] at hltk2
        first
          | exact absurd hltk2 (Nat.not_lt_zero _)
          |
            (obtain ⟨g, ha, hck⟩ := hcell k hltk
             cases ha
             have hck' : wr.cell? ⟨g, k, none⟩ = some (.int .i64 (l[k] : Nat)) := by
               rw [hzr.cell (World.block_lt_of_cell? _ _ hck) (by simp)]
               exact hck
             have hm := hth _ (List.getElem_mem hltk)
             have hg := hge _ (List.getElem_mem hltk)
             have hfold := foldl_take (fun g p => max g (genAt (rcoms Q) p)) 0 l hltk
             change maxGen (rcoms Q) (l.take (k + 1)) = max (maxGen (rcoms Q) (l.take k)) _ at hfold
             have hle : maxGen (rcoms Q) (l.take k) ≤ 400 := foldmax_lt _ _ _ _ (by omega) fun p hp => hge p (List.mem_of_mem_take hp)
             have htm := isThere_iff.1 hm
             rw [List.length_map] at htm
             generalize l[k] = id at *
             obtain ⟨i, rfl⟩ : ∃ i, id = i + 1 := ⟨id - 1, by omega⟩
             have hi : i < Q.length := by omega
             obtain ⟨gq, cq', e0, -, -, e1, -⟩ := (hR.keep hzr).cells hi
             have e2 : genAt (rcoms Q) (i + 1) = Q[i].com.gen := by
               unfold genAt comAt
               rw [Nat.add_sub_cancel, at_eq (by simpa using hi), List.getElem_map]
             rw [← e2] at e1
             clear e2
             generalize genAt (rcoms Q) (i + 1) = gi at *
             generalize maxGen (rcoms Q) (l.take k) = mg at *
             have hxw : ((i + 1 : Nat) : Int) - 1 = (i : Int) := by omega
             replace hfold := Lib.hid hfold
             have b1 : decide ((i : Int) + 1 < 1) = false := by simp; omega
             have b2 : decide ((Q.length : Int) < (i : Int) + 1) = false := by simp; omega
             go_wp2_with fail
             go_region
             go_wp2_with fail
             go_region
             go_wp2_with fail
             go_roundw
             case measure => simp [intOf]; omega
             case rel => exact ⟨k + 1, by omega, by go_num, by rw [hfold.out, show ((max mg gi : Nat) : Int) = max (mg : Int) gi by omega], hzr.drew.drew⟩)
      · have htk : l.take k = l := List.take_of_length_le (by omega)
        rw [htk]
        obtain ⟨k', hk3, hkl⟩ : ∃ k', k = k' ∧ k' = l.length := ⟨k, rfl, by omega⟩
        rw [hl.out] at hkl
        subst hkl
        subst hk3
        clear hcell htk
        have hle : maxGen (rcoms Q) l ≤ 400 := foldmax_lt _ _ _ _ (by omega) hge
        have hth' := Lib.hid hth
        clear hth hge hltk
        obtain ⟨G, hG, hGl⟩ : ∃ G, maxGen (rcoms Q) l = G ∧ G ≤ 400 := ⟨_, rfl, hle⟩
        rw [hG]
        replace hG := Lib.hid hG
        clear hle
        have hR2 := hR.keep hzr
        have hone : ∀ u ∈ Q.flatMap rcEnc, u.oneCell' = true := fun u hu => by
          obtain ⟨q, hq, hu⟩ := List.mem_flatMap.1 hu
          obtain ⟨A', c', hv, -⟩ := _root_.id (hR2.each q hq)
          simp only [rcEnc, List.mem_cons, List.not_mem_nil, or_false] at hu
          rcases hu with rfl | rfl | rfl | rfl
          · rfl
          · rfl
          · rfl
          · rw [hv]; rfl
        obtain ⟨B2, cq2, c2, hb2, hq1', hq2', Ft2, hft2, hFt2, hne2⟩ := hR2.head
        have hsW' := hsW.chg hzr (by simp)
        go_wp2_with first
          | (at_builtin; refine wpList_append_fix rfl _ (.tmp 90) 51 rfl Try.underlying51 hi hz0 hz1i hz2' rfl (by omega) (n := 0) (xs := []) (F := []) rfl (Fix.nil _ _ _) rfl (Fix.src hft2) hone (by unfold maxLen; omega) (by omega) ?_; intro v3 w3 F3 hA3; have hs3 := hsW'.chg hA3.chg (by simp))
          | (at_builtin; refine wpList_append_fix rfl _ (.tmp 96) 27 rfl Try.underlying27 hi1 k0 k1 k2 rfl (by omega) (n := 0) (xs := []) (F := []) rfl (Fix.nil _ _ _) rfl (Fix.src hs3) (oneNats _) (by unfold maxLen; omega) (by omega) ?_; intro v4 w4 F4 hA4; obtain ⟨A4, c4, rfl, -⟩ := _root_.id hA4.fix; have hf3 := hA3.fix.chg hA4.chg (by simp); simp only [Nat.zero_add, List.nil_append] at hf3; obtain ⟨A3, c3, rfl, -⟩ := _root_.id hf3)
          | (at_builtin; refine wpList_append_fix rfl (.tmp 91) (.tmp 99) 51 rfl Try.underlying51 hi hz0 hz1i hz2' rfl (by omega) rfl (hf3.alloc _) rfl (Src.lit (m := 1) (by simp) (by simp)) (by simp [Value.oneCell']) (by unfold maxLen; omega) (by omega) ?_; intro v5 w5 F5 hA5; go_loud (have hbw4 := (hb2.chg hA3.chg (by simp)).chg hA4.chg (by simp); have hne3 := hf3.ne_blk hbw4 (by decide); have hb5 := (hbw4.alloc _).chg hA5.chg hne3; have c5 : w5.cell? ⟨lp, 0, none⟩ = some (.slice B2 Q.length cq2) := hb5.cell 0; have f5 : w5.frozen? ⟨lp, 0, none⟩ = false := hb5.frozen 0; obtain ⟨g5, d5, rfl, rfl⟩ := hA5.head (by omega)))
        have e0 := hzd.out.size
        have e1 := hzr.size
        have e3 := hA3.chg.size
        have e4 := hA4.chg.size
        have hfr3 : ∀ g ∈ F3, w.heap.size ≤ g := fun g hg => by
          rcases hA3.foot with e | e
          · rw [e] at hg; cases hg
          · rw [e] at hg
            have : g = wr.heap.size := by simpa using hg
            omega
        have hfr4 : ∀ g ∈ F4, w.heap.size ≤ g := fun g hg => by
          rcases hA4.foot with e | e
          · rw [e] at hg; cases hg
          · rw [e] at hg
            have : g = w3.heap.size := by simpa using hg
            omega
        have hfr5 : ∀ g ∈ [g5], w.heap.size ≤ g := fun g hg => by
          rcases hA5.foot with e | e
          · rw [e] at hg
            exact hfr3 g hg
          · rw [e] at hg
            simp at hg
            omega
        have hz4 : Chg [] w w4 := ((hzd.out.trans' hzr).trans' hA3.chg).trans' hA4.chg
        have hz5 : Chg (lp :: F3) w4 (w5.setCell ⟨lp, 0, none⟩ (.slice (some ⟨g5, 0, none⟩) (Q.length + 1) d5)) := ((((Chg.refl (lp :: F3) w4).alloc _).trans' (hA5.chg.mono (by simp +contextual)))).setCell (p := ⟨lp, 0, none⟩) (by simp) _
        have hfx := hA5.fix.far_blk hb5 (by decide) 0 (.slice (some ⟨g5, 0, none⟩) (Q.length + 1) d5)
        have hbx := hb5.set_ 0 (.slice (some ⟨g5, 0, none⟩) (Q.length + 1) d5)
        have hf4 := hA4.fix
        simp only [Nat.zero_add, List.nil_append] at hf4
        have hf4' := hf4.chg hz5 (fun g hg hm => by
          rcases List.mem_cons.1 hm with rfl | hm
          · exact hf4.ne_blk hbw4 (by decide) hg
          · exact (hf4.disj hf3 (by decide)) g hg hm)
        have heach : ∀ q ∈ Q, Fix (w5.setCell ⟨lp, 0, none⟩ (.slice (some ⟨g5, 0, none⟩) (Q.length + 1) d5)) 3 1 q.pv q.com.par.length (natVals q.com.par) q.pF := fun q hq => by
          have hq' := ((hR2.each q hq).chg hA3.chg (by simp)).chg hA4.chg (by simp)
          exact hq'.chg hz5 (fun g hg hm => by
            rcases List.mem_cons.1 hm with rfl | hm
            · exact hq'.ne_blk hbw4 (by decide) hg
            · exact (hq'.disj hf3 (by decide)) g hg hm)
        have hzz : Chg [lp] w (w5.setCell ⟨lp, 0, none⟩ (.slice (some ⟨g5, 0, none⟩) (Q.length + 1) d5)) := (hz4.mono (by simp)).trans hz5 (fun g hg => by
          rcases List.mem_cons.1 hg with rfl | hg
          · exact .inl (by simp)
          · exact .inr (hfr3 g hg))
        have hlt4 := hf4'.lt
        have hlt5 := hfx.lt
        clear hA3 hA4 hA5 hz4 hz5 hb5 hf4 hf3 hs3 hft2
        generalize w5.setCell ⟨lp, 0, none⟩ (.slice (some ⟨g5, 0, none⟩) (Q.length + 1) d5) = wz at *
        go_ret2
        refine ⟨by first | rfl | (push_cast; rfl), _, F4, [g5], RLin.push (com := ⟨maxGen (rcoms Q) l + 1, l, root, author⟩) hR2 hbx ?_ (Fix.len_eq hf4' hl.out) heach, hzz, ?_⟩
        · rw [hG.out]
          simpa [rcEnc] using hfx
        · intro g hg
          have hg' : g ∈ F4 ∨ g ∈ [g5] := by first | exact hg | exact List.mem_append.1 hg
          rcases hg' with hg | hg
          · exact ⟨hfr4 g hg, hlt4 g hg⟩
          · exact ⟨hfr5 g hg, hlt5 g hg⟩
end Go.Proofs.Ytaabkapjdmceaaa
