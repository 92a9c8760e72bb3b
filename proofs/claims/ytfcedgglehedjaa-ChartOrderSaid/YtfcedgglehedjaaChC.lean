/- Charts: put, where the row may be; Add, Get. -/
import Derived.Test.YtfcedgglehedjaaChB
import Derived.Deep.RegionLaw
import Derived.Deep.CutBlock
import Derived.Laws.ResultCell
namespace Go.Proofs.Ytfcedgglehedjaa
open Go.RowKit Go.Vx Go.Maps
set_option linter.unusedVariables false
set_option linter.unusedSimpArgs false

theorem cmap_nil (w : World) : (binOp BinOp.eql 24 (.map none) (.map none)).run Try.prog w = .ok (.bool true) w := by kernel_rfl
theorem cmap_not_nil (b : Nat) (w : World) : (binOp BinOp.eql 24 (.map (some b)) (.map none)).run Try.prog w = .ok (.bool false) w := by kernel_rfl
theorem row_parts {c k : Int} (h : rowB c k = true) : 1 ≤ c ∧ c ≤ 9999 ∧ knownB k = true := by
  unfold rowB at h
  simp only [Bool.and_eq_true, decide_eq_true_eq] at h
  exact ⟨h.1.1, h.1.2, h.2⟩
theorem code_wf {c : Int} (h1 : 1 ≤ c) (h2 : c ≤ 9999) : (Lit.int .i64 c).wf = true := WalkArith.wf_i64 (by omega)
set_option maxHeartbeats 1000000 in
theorem ch_put_dup {w : World} {p : Nat} {L : CL} {F : List Nat} (h : CAt w p L F) {a : Acc} (hr : rowB a.code a.kind = true) {o : Acc} (ho : getC L a.code = some o) :
    Calls Try.prog 20 #[.pointer (some ⟨p, 0, none⟩), accV a] w fun e w' => e = .returned (.int .i64 7) ∧ Chg [] w w' := by
  obtain ⟨c, k, r⟩ := a
  obtain ⟨r1, r2, r3⟩ := row_parts hr
  dsimp only at *
  have hk := ch_known k
  rw [r3] at hk
  obtain ⟨W, hW⟩ : ∃ W, W = w.alloc (.cells #[.int .i64 c, .int .i64 k, .bool r] 28) := ⟨_, rfl⟩
  have hz : Chg [] w W := hW ▸ (Chg.refl [] w).alloc _
  have hbx : Blk W w.heap.size 28 #[.int .i64 c, .int .i64 k, .bool r] := hW ▸ Blk.new _ _ _
  obtain ⟨m, c0, hl⟩ := (h.keep hz.drew).read (code_wf r1 r2)
  obtain ⟨m', c1, hl1⟩ := (h.keep (hz.alloc (.cells #[.int .i64 0, .int .i64 0, .bool false] 28)).drew).read (code_wf r1 r2)
  have hm : m' = m := by
    have : ((W.alloc (.cells #[.int .i64 0, .int .i64 0, .bool false] 28)).drew).cell? ⟨p, 0, none⟩ = some m := cell_al (show W.cell? ⟨p, 0, none⟩ = some m from c0) _
    rw [c1] at this
    injection this
  subst hm
  rw [ho] at hl hl1
  dsimp only [Option.getD_some, Option.isSome_some] at hl hl1
  unfold accV at hl hl1 ⊢
  dsimp only at *
  have b1 : decide (c < 1) = false := by simpa using r1
  have b2 : decide (9999 < c) = false := by simpa using r2
  have d0 : W.drew.cell? ⟨w.heap.size, 0, none⟩ = some (.int .i64 c) := hbx.cell 0
  have d1 := cell_al (show W.cell? ⟨w.heap.size, 0, none⟩ = some (.int .i64 c) from hbx.cell 0) (.cells #[.int .i64 0, .int .i64 0, .bool false] 28)
  have e0 : W.cell? ⟨w.heap.size, 0, none⟩ = some (.int .i64 c) := hbx.cell 0
  have e1 : W.cell? ⟨w.heap.size, 1, none⟩ = some (.int .i64 k) := hbx.cell 1
  clear h ho hr r1 r2 r3
  replace hW := Lib.hid hW
  go_enter Try.func20, Try.ntmps20
  go_wp2_with (go_at_call 16; refine (hk _).mono ?_; rintro e w' ⟨rfl, rfl⟩)
  rw [← hW.out]
  clear hW
  go_region
  all_goals
    go_wp2_with fail
    go_ret
    exact ⟨rfl, (hz.alloc _).drew⟩
set_option maxHeartbeats 1000000 in
theorem ch_put_ok {w : World} {p : Nat} {L : CL} {F : List Nat} (h : CAt w p L F) {a : Acc} (hr : rowB a.code a.kind = true) (ho : getC L a.code = none) (hL : L.length < 100000) :
    Calls Try.prog 20 #[.pointer (some ⟨p, 0, none⟩), accV a] w fun e w' => e = .returned (.int .i64 0) ∧ ∃ F', CAt w' p (putC L a) F' ∧ (∀ g, g ∈ F' → g ∈ F ∨ w.heap.size ≤ g) ∧ Chg (p :: F) w w' := by
  obtain ⟨c, k, r⟩ := a
  obtain ⟨r1, r2, r3⟩ := row_parts hr
  dsimp only at *
  have hk := ch_known k
  rw [r3] at hk
  obtain ⟨W, hW⟩ : ∃ W, W = w.alloc (.cells #[.int .i64 c, .int .i64 k, .bool r] 28) := ⟨_, rfl⟩
  have hz : Chg [] w W := hW ▸ (Chg.refl [] w).alloc _
  have hbx : Blk W w.heap.size 28 #[.int .i64 c, .int .i64 k, .bool r] := hW ▸ Blk.new _ _ _
  obtain ⟨m, c0, hl⟩ := (h.keep hz.drew).read (code_wf r1 r2)
  obtain ⟨m', c1, hl1⟩ := (h.keep (hz.alloc (.cells #[.int .i64 0, .int .i64 0, .bool false] 28)).drew).read (code_wf r1 r2)
  have hm : m' = m := by
    have : ((W.alloc (.cells #[.int .i64 0, .int .i64 0, .bool false] 28)).drew).cell? ⟨p, 0, none⟩ = some m := cell_al (show W.cell? ⟨p, 0, none⟩ = some m from c0) _
    rw [c1] at this
    injection this
  subst hm
  rw [ho] at hl hl1
  dsimp only [Option.getD_none, Option.isSome_none, zAcc] at hl hl1
  unfold accV at hl hl1 ⊢
  dsimp only at *
  have b1 : decide (c < 1) = false := by simpa using r1
  have b2 : decide (9999 < c) = false := by simpa using r2
  have d0 : W.drew.cell? ⟨w.heap.size, 0, none⟩ = some (.int .i64 c) := hbx.cell 0
  have d1 := cell_al (show W.cell? ⟨w.heap.size, 0, none⟩ = some (.int .i64 c) from hbx.cell 0) (.cells #[.int .i64 0, .int .i64 0, .bool false] 28)
  have e0 : W.cell? ⟨w.heap.size, 0, none⟩ = some (.int .i64 c) := hbx.cell 0
  have e1 : W.cell? ⟨w.heap.size, 1, none⟩ = some (.int .i64 k) := hbx.cell 1
  clear ho hr r3
  have hmm := @run_makeMap Try.prog
  have hmn := cmap_nil
  have hmb := cmap_not_nil
  replace hW := Lib.hid hW
  go_enter Try.func20, Try.ntmps20
  go_wp2_with (go_at_call 16; refine (hk _).mono ?_; rintro e w' ⟨rfl, rfl⟩)
  rw [← hW.out]
  clear hW
  go_region
  all_goals
    have hB2 : Blk (W.alloc (.cells #[.int .i64 0, .int .i64 0, .bool false] 28)).drew w.heap.size 28 #[.int .i64 c, .int .i64 k, .bool r] := (hbx.alloc _).drew
    have h3 := h.keep (hz.alloc (.cells #[.int .i64 0, .int .i64 0, .bool false] 28)).drew
    have hz3 := (hz.alloc (.cells #[.int .i64 0, .int .i64 0, .bool false] 28)).drew
    clear hl hl1 d0 d1 e0 e1 c0 hbx hz
    have hlt := h.lt
    have hpw : ∀ g ∈ p :: F, g ≠ w.heap.size := fun g hg e => by have := hlt g hg; omega
    clear h
    generalize (W.alloc (.cells #[.int .i64 0, .int .i64 0, .bool false] 28)).drew = w3 at *
    rcases h3 with ⟨hb0, rfl, rfl⟩ | ⟨b, hb, hm, rfl⟩
    · have f0 : w3.cell? ⟨p, 0, none⟩ = some (.map none) := hb0.cell 0
      rw [f0] at c1
      cases c1
      have g0 := hb0.frozen 0
      have g1 : ∀ o, (w3.alloc o).frozen? ⟨p, 0, none⟩ = false := fun o => (hb0.alloc o).frozen 0
      have f1 := cell_al f0
      go_wp2_with fail
      have hpl : p < w3.heap.size := hb0.lt
      obtain ⟨b, hbe⟩ : ∃ b, w3.heap.size = b := ⟨_, rfl⟩
      have hs3 : (w3.setCell ⟨p, 0, none⟩ (.map (some b))).heap.size = b := by rw [← hbe]; simp [World.setCell]
      have hsw := hz3.size
      rw [hbe]
      obtain ⟨w4, hw4⟩ : ∃ w4, w4 = (w3.alloc (.map #[] 0)).setCell ⟨p, 0, none⟩ (.map (some b)) := ⟨_, rfl⟩
      have hz4 : Chg (p :: []) w w4 := hw4 ▸ (((hz3.mono (by simp)).alloc _).setCell (.inl (by simp)) _)
      have hb : Blk w4 p 26 #[.map (some b)] := hw4 ▸ (hb0.alloc _).set_ 0 _
      have hB4 : Blk w4 w.heap.size 28 #[.int .i64 c, .int .i64 k, .bool r] := hw4 ▸ (hB2.alloc _).far (fun e => hpw p (by simp) e.symm) _
      have hm : CMap w4 b [] := by
        have := (CMap.new w3).chg ((Chg.refl [p] (w3.alloc (.map #[] 0))).setCell (p := ⟨p, 0, none⟩) (.inl (by simp)) (.map (some b))) (by simp; omega)
        rw [hbe] at this
        rw [hw4]
        exact this
      have hpb : p ≠ b := by omega
      have hbF : b ∈ ([] : List Nat) ∨ w.heap.size ≤ b := .inr (by omega)
      rw [← hw4]
      clear hw4 hB2 hz3 hb0 f0 g0 g1 f1 hs3
      have u0 : w4.drew.cell? ⟨p, 0, none⟩ = some (.map (some b)) := hb.cell 0
      have u1 : w4.drew.cell? ⟨w.heap.size, 0, none⟩ = some (.int .i64 c) := hB4.cell 0
      have u2 : w4.drew.cell? ⟨w.heap.size, 1, none⟩ = some (.int .i64 k) := hB4.cell 1
      have u3 : w4.drew.cell? ⟨w.heap.size, 2, none⟩ = some (.bool r) := hB4.cell 2
      obtain ⟨w5, hrun, hm5, hc5⟩ := CMap.store (a := ⟨c, k, r⟩) (hm.chg (Chg.refl [] w4).drew (by simp)) (by omega) (code_wf r1 r2)
      have hb5 := hb.drew.chg hc5 (by simpa using hpb)
      have hz5 : Chg (p :: []) w w5 := hz4.drew.trans hc5 (fun g hg => by
        obtain rfl : g = b := by simpa using hg
        rcases hbF with h | h
        · exact .inl (by simp [h])
        · exact .inr h)
      unfold accV at hrun
      dsimp only at hrun
      clear hB4 hb hm hz4 hc5
      go_region
      all_goals
        go_wp2_with fail
        go_ret
        refine ⟨rfl, [b], .inr ⟨b, hb5, hm5, rfl⟩, fun g hg => ?_, hz5⟩
        obtain rfl : g = b := by simpa using hg
        exact hbF
    · have f0 : w3.cell? ⟨p, 0, none⟩ = some (.map (some b)) := hb.cell 0
      rw [f0] at c1
      cases c1
      go_wp2_with fail
      have hpb : p ≠ b := by
        rintro rfl
        have h1 := hb
        obtain ⟨es, clock, h2, -⟩ := hm
        unfold Blk at h1
        rw [h1] at h2
        injection h2 with h2
        cases h2
      have hbF : b ∈ [b] ∨ w.heap.size ≤ b := .inl (by simp)
      have hz4 : Chg (p :: [b]) w w3 := hz3.mono (by simp)
      have hB4 := hB2
      clear hz3 hB2 f0
      generalize w3 = w4 at *
      have u0 : w4.drew.cell? ⟨p, 0, none⟩ = some (.map (some b)) := hb.cell 0
      have u1 : w4.drew.cell? ⟨w.heap.size, 0, none⟩ = some (.int .i64 c) := hB4.cell 0
      have u2 : w4.drew.cell? ⟨w.heap.size, 1, none⟩ = some (.int .i64 k) := hB4.cell 1
      have u3 : w4.drew.cell? ⟨w.heap.size, 2, none⟩ = some (.bool r) := hB4.cell 2
      obtain ⟨w5, hrun, hm5, hc5⟩ := CMap.store (a := ⟨c, k, r⟩) (hm.chg (Chg.refl [] w4).drew (by simp)) (by omega) (code_wf r1 r2)
      have hb5 := hb.drew.chg hc5 (by simpa using hpb)
      have hz5 : Chg (p :: [b]) w w5 := hz4.drew.trans hc5 (fun g hg => by
        obtain rfl : g = b := by simpa using hg
        rcases hbF with h | h
        · exact .inl (by simp [h])
        · exact .inr h)
      unfold accV at hrun
      dsimp only at hrun
      clear hB4 hb hm hz4 hc5
      go_region
      all_goals
        go_wp2_with fail
        go_ret
        refine ⟨rfl, [b], .inr ⟨b, hb5, hm5, rfl⟩, fun g hg => ?_, hz5⟩
        obtain rfl : g = b := by simpa using hg
        exact hbF
end Go.Proofs.Ytfcedgglehedjaa
