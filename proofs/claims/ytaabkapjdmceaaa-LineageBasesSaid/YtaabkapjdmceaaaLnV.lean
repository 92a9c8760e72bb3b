/- Lineage: the document's From and Is, walked. -/
import Derived.Test.YtaabkapjdmceaaaLnU
import Derived.Test.YtaabkapjdmceaaaLnUp
namespace Go.Proofs.Ytaabkapjdmceaaa
open Go.RowKit Go.Vx Go.Maps
set_option linter.unusedVariables false
set_option linter.unusedSimpArgs false

def boolVals (l : List Bool) : List Value := l.map Value.bool
theorem boolVals_mark (B : List Bool) (x : Nat) : (boolVals B).set x (.bool true) = boolVals (markB B x) := by simp [boolVals, markB, List.map_set]
theorem lnBoolInfo : (Try.prog.info? 4).map (fun i => (i.zero, i.size, i.bytes)) = some (some (.bool false), 1, 1) := by kernel_rfl
set_option maxRecDepth 100000 in
set_option maxHeartbeats 16000000 in
theorem rln_from {w : World} {lp : Nat} {Q : List RC} {R : List Nat} (h : RLin w lp Q R) (hlt : ∀ g ∈ lp :: R, g < w.heap.size) (hC : WfL (rcoms Q)) (hQ : Q.length ≤ 400) {A : Option Addr} {n c : Nat} {l : List Int} (hs : Src w 1 A n (l.map (Value.int .i64))) (hn : n ≤ 1000000) :
    Calls Try.prog 24 #[.pointer (some ⟨lp, 0, none⟩), .slice A n c] w fun e w' => ∃ v F B, e = .returned v ∧ Fix w' 4 1 v (Q.length + 1) (boolVals B) F ∧ (∀ g ∈ F, w.heap.size ≤ g) ∧ Chg [] w w' ∧ FromInv (rcoms Q) (l.map Int.toNat) 0 B := by
  obtain ⟨i0, hi, j0, j1, j2⟩ := info_parts lnBoolInfo
  have hmk := fun w => run_make (P := Try.prog) w 57 4 i0 _ Try.underlying57 hi j0 .i64 .i64 ((Q.length + 1 : Nat) : Int) ((Q.length + 1 : Nat) : Int) (by omega) (by omega) (by rw [j2]; omega) (by omega)
  rw [j1] at hmk
  obtain ⟨B0, cq, c0, -⟩ := h.head
  have e1 : (Q.length : Int) + 1 = ((Q.length + 1 : Nat) : Int) := by omega
  replace e1 := Lib.hid e1
  go_enter Try.func24, Try.ntmps24
  go_wp2_with fail
  rw [e1.out, hmk]
  go_wp2_with fail
  have hkm : Chg [] w (w.alloc (.cells (madeCells #[.bool false] (Q.length + 1)) 4)) := (Chg.refl _ _).alloc _
  have hfm := Fix.made w 4 (.bool false) (Q.length + 1) (by unfold maxLen; omega)
  rw [if_neg (by omega)] at hfm
  have hr0 : List.replicate (Q.length + 1) (Value.bool false) = boolVals (List.replicate (Q.length + 1) false) := by simp [boolVals]
  rw [hr0] at hfm
  have hI0 : FromInv (rcoms Q) ((l.map Int.toNat).take 0) (rcoms Q).length (List.replicate (Q.length + 1) false) := by
    have := FromInv.start (C := rcoms Q)
    rwa [show (rcoms Q).length = Q.length from List.length_map _] at this ⊢
  have hCl : Hid ((rcoms Q).length = Q.length) := Lib.hid (List.length_map _)
  have hR := h.keep hkm
  have hl : l.length = n := by have := hs.1; simpa using this
  have hcell : ∀ w', Chg [] w w' → ∀ k, (hk : k < n) → ∃ ad, A = some ad ∧ w'.cell? (ad.add k) = some (.int .i64 (l[k]'(by omega))) := by
    intro w' hc k hk
    obtain ⟨ad, ha, hcc⟩ := (hs.chg hc (by simp)).2 (by omega)
    exact ⟨ad, ha, hcc k _ (by rw [List.getElem?_map, List.getElem?_eq_getElem (by omega)]; rfl)⟩
  replace hl := Lib.hid hl
  have hbl : ∀ g ∈ lp :: R, g ≠ w.heap.size := fun g hg e => by have := hlt g hg; omega
  have hb1 : w.heap.size ≤ w.heap.size := Nat.le_refl _
  generalize w.alloc (.cells (madeCells #[.bool false] (Q.length + 1)) 4) = wa at *
  obtain ⟨b, hb⟩ : ∃ b, w.heap.size = b := ⟨_, rfl⟩
  rw [hb]
  rw [hb] at hfm hbl
  replace hb := Lib.hid hb
  clear hmk hb1 hr0
  go_loopw [6] (fun kv wr => ∃ (k : Nat) (B : List Bool), k ≤ n ∧ kv = .int .i64 k ∧ RLin wr lp Q R ∧ Fix wr 4 1 (.slice (some ⟨b, 0, none⟩) (Q.length + 1) (Q.length + 1)) (Q.length + 1) (boolVals B) [b] ∧ Chg [] w wr ∧ FromInv (rcoms Q) ((l.map Int.toNat).take k) (rcoms Q).length B) (fun kv _ => n - (intOf kv).toNat)
  case atStart => exact ⟨0, _, by omega, rfl, hR, hfm, hkm, hI0⟩
  case round =>
    clear hR hfm hkm hI0 c0
    obtain ⟨k, B, hk, rfl, hR, hf, hz, hI⟩ := hrel
    by_cases hltk : k < n
    · obtain ⟨ad, rfl, hck⟩ := hcell _ hz k hltk
      obtain ⟨AQ, cQ, cq0, -⟩ := hR.head
      have htk : (l.map Int.toNat).take (k + 1) = (l.map Int.toNat).take k ++ [(l[k]'(by rw [hl.out]; exact hltk)).toNat] := by
        rw [List.take_succ_eq_append_getElem (by rw [List.length_map, hl.out]; exact hltk), List.getElem_map]
      generalize l[k]'(by rw [hl.out]; exact hltk) = s at *
      replace htk := Lib.hid htk
      by_cases h1 : 1 ≤ s
      · by_cases h2 : s ≤ Q.length
        · have b1 : decide (1 ≤ s) = true := by simpa using h1
          have b2 : decide (s ≤ (Q.length : Int)) = true := by simpa using h2
          obtain ⟨i, rfl⟩ : ∃ i : Nat, s = i := ⟨s.toNat, by omega⟩
          have hth : isThere (rcoms Q) i = true := isThere_iff.2 ⟨by omega, by rw [hCl.out]; omega⟩
          have hi1 : i < Q.length + 1 := by omega
          obtain ⟨g', c', hBq, -, -, -, hcj, hfj⟩ := hf.at_ (k := i) (j := 0) hi1 (by omega)
          cases hBq
          rw [show i * 1 + 0 = i by omega] at hcj hfj
          have hcv : ∃ u, wr.cell? ⟨b, i, none⟩ = some u := by
            rw [hcj, boolVals, List.getElem?_map]
            have : i < B.length := by rw [hI.len, hCl.out]; exact hi1
            rw [List.getElem?_eq_getElem this]
            exact ⟨_, rfl⟩
          obtain ⟨u, hcu⟩ := hcv
          clear hcj
          rw [Int.toNat_natCast] at htk
          go_wp2_with fail
          go_region
          go_wp2_with fail
          have hst := (hf.drew).store rfl i (.bool true)
          rw [boolVals_mark] at hst
          have hzs : Chg [b] wr (wr.drew.setCell ⟨b, i, none⟩ (.bool true)) := (Chg.refl [b] wr).drew.setCell (by simp) _
          refine ⟨⟨k + 1, markB B i, by omega, by go_num, hR.chg hzs (fun hm => hbl lp (by simp) (by simpa using hm)) (fun g hg hm => hbl g (by simp [hg]) (by simpa using hm)), hst, hz.trans hzs (fun g hg => .inr (by simp at hg; rw [hg, ← hb.out]; exact Nat.le_refl _)), by rw [htk.out]; exact hI.more hth⟩, by simp [intOf]; omega⟩
        · have b1 : decide (1 ≤ s) = true := by simpa using h1
          have b2 : decide (s ≤ (Q.length : Int)) = false := by simpa using h2
          have hth : isThere (rcoms Q) s.toNat = false := by
            rw [← Bool.not_eq_true, isThere_iff, hCl.out]
            omega
          replace hth := Lib.hid hth
          go_wp2_with fail
          go_region
          go_wp2_with fail
          exact ⟨⟨k + 1, B, by omega, by go_num, hR.keep (Chg.refl [] wr).drew, hf.drew, hz.drew, by rw [htk.out]; exact hI.pass hth.out⟩, by simp [intOf]; omega⟩
      · have b1 : decide (1 ≤ s) = false := by simpa using h1
        have hth : isThere (rcoms Q) s.toNat = false := by
          rw [← Bool.not_eq_true, isThere_iff, hCl.out]
          omega
        replace hth := Lib.hid hth
        go_wp2_with fail
        go_region
        go_wp2_with fail
        exact ⟨⟨k + 1, B, by omega, by go_num, hR.keep (Chg.refl [] wr).drew, hf.drew, hz.drew, by rw [htk.out]; exact hI.pass hth.out⟩, by simp [intOf]; omega⟩
    · obtain rfl : k = n := by omega
      rw [List.take_of_length_le (by rw [List.length_map, hl.out]; exact Nat.le_refl _)] at hI
      obtain ⟨AQ, cQ, cq0, -⟩ := hR.head
      clear hcell hs hltk hk
      go_wp2_with fail
      rw [hCl.out] at hI
      have hR0 := Lib.hid (⟨hR, hf, hz, hI⟩ : RLin wr lp Q R ∧ Fix wr 4 1 (.slice (some ⟨b, 0, none⟩) (Q.length + 1) (Q.length + 1)) (Q.length + 1) (boolVals B) [b] ∧ Chg [] w wr ∧ FromInv (rcoms Q) (l.map Int.toNat) Q.length B)
      clear hR hf hz hI
      go_loopw [7] (fun iv wr => ∃ (id : Nat) (B : List Bool), id ≤ Q.length ∧ iv = .int .i64 id ∧ RLin wr lp Q R ∧ Fix wr 4 1 (.slice (some ⟨b, 0, none⟩) (Q.length + 1) (Q.length + 1)) (Q.length + 1) (boolVals B) [b] ∧ Chg [] w wr ∧ FromInv (rcoms Q) (l.map Int.toNat) id B) (fun iv _ => (intOf iv).toNat)
      case atStart => exact ⟨Q.length, B, Nat.le_refl _, rfl, hR0.out.1, hR0.out.2.1, hR0.out.2.2.1, hR0.out.2.2.2⟩
      case round =>
        clear hR0 cq0
        clear B
        obtain ⟨id, B, hid, rfl, hR, hf, hz, hI⟩ := hrel
        cases id with
        | zero =>
          go_wp2_with fail
          go_ret
          refine ⟨_, [b], B, rfl, hf, fun g hg => ?_, hz, hI⟩
          simp at hg
          rw [hg, hb.out]
          exact Nat.le_refl _
        | succ j =>
          have hjQ : j < Q.length := by omega
          obtain ⟨gq, cq2, d0, dq1, dq2, -, d3⟩ := hR.cells hjQ
          have hpar : Fix wr 3 1 Q[j].pv Q[j].com.par.length (natVals Q[j].com.par) Q[j].pF := hR.each _ (List.getElem_mem hjQ)
          have hft := hR.foot _ (List.getElem_mem hjQ)
          have hpe : parAt (rcoms Q) (j + 1) = Q[j].com.par := by
            unfold parAt comAt
            rw [Nat.add_sub_cancel, at_eq (by simpa using hjQ), List.getElem_map]
          have hth : isThere (rcoms Q) (j + 1) = true := isThere_iff.2 ⟨by omega, by rw [hCl.out]; omega⟩
          have hpt : ∀ p ∈ Q[j].com.par, p < Q.length + 1 := fun p hp => by
            have := isThere_iff.1 (hC _ hth p (by rw [hpe]; exact hp)).1
            rw [hCl.out] at this
            omega
          generalize Q[j].com.par = P at *
          generalize Q[j].pF = pF at *
          generalize hpv : Q[j].pv = pv at *
          obtain ⟨PA, pc, rfl, -⟩ := _root_.id hpar
          clear hpv
          have hPl : P.length ≤ 9223372036854775807 := by
            obtain ⟨_, _, hv, -, h1, h2, -⟩ := _root_.id hpar
            cases hv
            unfold maxLen at h2
            omega
          obtain ⟨t, ht⟩ : ∃ t, B[j + 1]? = some t := by
            have : j + 1 < B.length := by rw [hI.len, hCl.out]; omega
            exact ⟨_, List.getElem?_eq_getElem this⟩
          have hxw : ((j + 1 : Nat) : Int) - 1 = (j : Int) := by omega
          go_wp2_with fail
          have hR0 := Lib.hid (⟨hR, hf, hz, hI, hpar⟩ : RLin wr lp Q R ∧ Fix wr 4 1 (.slice (some ⟨b, 0, none⟩) (Q.length + 1) (Q.length + 1)) (Q.length + 1) (boolVals B) [b] ∧ Chg [] w wr ∧ FromInv (rcoms Q) (l.map Int.toNat) (j + 1) B ∧ Fix wr 3 1 (.slice PA P.length pc) P.length (natVals P) pF)
          clear hR hf hz hI hpar d0 d3
          go_loopw [9] (fun kv wr => ∃ (q : Nat) (B : List Bool), q ≤ P.length ∧ kv = .int .i64 q ∧ RLin wr lp Q R ∧ Fix wr 4 1 (.slice (some ⟨b, 0, none⟩) (Q.length + 1) (Q.length + 1)) (Q.length + 1) (boolVals B) [b] ∧ Chg [] w wr ∧ FromInv (rcoms Q) (l.map Int.toNat) (j + 1) B ∧ Fix wr 3 1 (.slice PA P.length pc) P.length (natVals P) pF ∧ B[j + 1]? = some t ∧ (t = true → ∀ p ∈ P.take q, B[p]? = some true)) (fun kv _ => P.length - (intOf kv).toNat)
          case atStart => exact ⟨0, B, by omega, rfl, hR0.out.1, hR0.out.2.1, hR0.out.2.2.1, hR0.out.2.2.2.1, hR0.out.2.2.2.2, ht, by simp⟩
          case round =>
            clear hR0 ht
            clear B
            obtain ⟨q, B, hq, rfl, hR, hf, hz, hI, hpar, ht, hmk⟩ := hrel
            have hj1 : j + 1 < Q.length + 1 := by omega
            obtain ⟨g', c', hBq, -, -, -, hcj, -⟩ := hf.at_ (k := j + 1) (j := 0) hj1 (by omega)
            cases hBq
            rw [show (j + 1) * 1 + 0 = j + 1 by omega, boolVals, List.getElem?_map, ht] at hcj
            simp only [Option.map_some] at hcj
            have hstep : (t = true → q = P.length) → FromInv (rcoms Q) (l.map Int.toNat) j B := fun hq => hI.step fun hb p hp => by
              rw [hb] at ht
              cases ht
              refine hmk rfl p ?_
              rw [hq rfl, List.take_length, ← hpe]
              exact hp
            by_cases hlq : q < P.length
            · cases t with
              | false =>
                have hs' := Lib.hid (hstep (by simp))
                clear hstep ht hmk
                go_wp2_with fail
                exact ⟨⟨j, B, by omega, rfl, hR, hf, hz, hs'.out⟩, by simp [intOf]⟩
              | true =>
                obtain ⟨g2, c2, hBq, -, -, -, hcp, -⟩ := hpar.at_ (k := q) (j := 0) hlq (by omega)
                have hB' : PA = some ⟨g2, 0, none⟩ := by injection hBq
                subst hB'
                clear hBq
                have hcell : wr.cell? ⟨g2, q, none⟩ = some (.int .i64 (P[q] : Nat)) := by
                  rw [show q * 1 + 0 = q by omega] at hcp
                  rw [hcp]
                  simp [natVals, List.getElem?_eq_getElem hlq]
                clear hcp
                have hpm : P[q] ∈ P := List.getElem_mem hlq
                have hp1 := hpt _ hpm
                obtain ⟨hI2, ht2⟩ := hI.mark hC hth ht (by rw [hpe]; exact hpm)
                have hmk2 : ∀ p ∈ P.take (q + 1), (markB B P[q])[p]? = some true := fun p hp => by
                  rw [List.take_succ_eq_append_getElem hlq] at hp
                  have hpl : P[q] < B.length := by rw [hI.len, hCl.out]; exact hp1
                  rcases List.mem_append.1 hp with hp | hp
                  · exact (markB_get hpl).2 (.inr (hmk rfl p hp))
                  · obtain rfl := List.mem_singleton.1 hp
                    exact (markB_get hpl).2 (.inl rfl)
                generalize P[q] = x at *
                obtain ⟨g', c', hBq, -, -, -, hcx, hfx⟩ := hf.at_ (k := x) (j := 0) hp1 (by omega)
                cases hBq
                rw [show x * 1 + 0 = x by omega] at hcx hfx
                have hcv : ∃ u, wr.cell? ⟨b, x, none⟩ = some u := by
                  rw [hcx, boolVals, List.getElem?_map]
                  have : x < B.length := by rw [hI.len, hCl.out]; exact hp1
                  rw [List.getElem?_eq_getElem this]
                  exact ⟨_, rfl⟩
                obtain ⟨u, hcu⟩ := hcv
                clear hcx
                replace hmk2 := Lib.hid hmk2
                replace ht2 := Lib.hid ht2
                clear hstep ht hmk hI
                go_wp2_with fail
                have hst := hf.store rfl x (.bool true)
                rw [boolVals_mark] at hst
                have hzs : Chg [b] wr (wr.setCell ⟨b, x, none⟩ (.bool true)) := (Chg.refl [b] wr).setCell (by simp) _
                refine ⟨⟨q + 1, markB B x, by omega, by go_num, hR.chg hzs (fun hm => hbl lp (by simp) (by simpa using hm)) (fun g hg hm => hbl g (by simp [hg]) (by simpa using hm)), hst, hz.trans hzs (fun g hg => .inr (by simp at hg; rw [hg, ← hb.out]; exact Nat.le_refl _)), hI2, hpar.chg hzs (fun g hg hm => hbl g (by simp [hft g hg]) (by simpa using hm)), ht2.out, fun _ => hmk2.out⟩, by simp [intOf]; omega⟩
            · obtain rfl : q = P.length := by omega
              have hs' := Lib.hid (hstep fun _ => rfl)
              clear hstep ht hmk
              go_wp2_with fail
              exact ⟨⟨j, B, by omega, rfl, hR, hf, hz, hs'.out⟩, by simp [intOf]⟩
end Go.Proofs.Ytaabkapjdmceaaa
