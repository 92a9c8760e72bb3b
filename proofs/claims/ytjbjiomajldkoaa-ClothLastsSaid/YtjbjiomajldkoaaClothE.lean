/- The cloth's weave. -/
import Derived.Test.YtjbjiomajldkoaaClothD
import Derived.Deep.RegionLaw
namespace Go.Proofs.Ytjbjiomajldkoaa
open Go.RowKit Go.Vx
set_option linter.unusedVariables false
set_option linter.unusedSimpArgs false

section
variable {w w' : World} {p : Nat} {pr lo ke : Value} {c : ClothS} {F G H : List Nat}
theorem weave_may (h : ClothAt w p pr lo ke c F G H) (row : Int) (s : ByteArray) (hm : c.may row ≠ 0) :
    Calls Try.prog 10 #[.pointer (some ⟨p, 0, none⟩), .int .i64 row, .string s] w fun e w' => e = .returned (.int .i64 (c.may row)) ∧ w = w' := by
  have hb : (c.may row != 0) = true := by simpa using hm
  go_enter Try.func10, Try.ntmps10
  go_wp2_with (go_at_call 23; refine (may_at h row).mono ?_; rintro e w' ⟨rfl, rfl⟩)
  go_ret
  exact ⟨rfl, rfl⟩
theorem weave_long (h : ClothAt w p pr lo ke c F G H) (row : Int) (s : ByteArray) (hm : c.may row = 0) (hs : 40 < s.size) (hs2 : s.size ≤ 281474976710656) :
    Calls Try.prog 10 #[.pointer (some ⟨p, 0, none⟩), .int .i64 row, .string s] w fun e w' => e = .returned (.int .i64 1) ∧ w = w' := by
  go_enter Try.func10, Try.ntmps10
  go_wp2_with (go_at_call 23; refine (may_at h row).mono ?_; rintro e w' ⟨rfl, rfl⟩)
  go_ret
  exact ⟨rfl, rfl⟩
/-- Whether the power goes now, and the cloth behind the question. -/
def ClothS.going (c : ClothS) : Bool := c.snagged && decide (c.left - 1 < 0)
def ClothS.gone (c : ClothS) : ClothS := { c with left := if c.snagged then c.left - 1 else c.left }
def ClothS.leftOk (c : ClothS) : Prop := c.snagged = true → 0 ≤ c.left ∧ c.left ≤ 9223372036854775807
theorem goes_any (h : ClothAt w p pr lo ke c F G H) (hl : c.leftOk) :
    Calls Try.prog 24 #[.pointer (some ⟨p, 0, none⟩)] w fun e w' => e = .returned (.bool c.going) ∧ ClothAt w' p pr lo ke c.gone F G H ∧ Chg [p] w w' := by
  cases hs : c.snagged with
  | false =>
    refine (goes_no h hs).mono ?_
    rintro e w' ⟨rfl, rfl⟩
    refine ⟨by simp [ClothS.going, hs], ?_, Chg.refl _ _⟩
    have e : c.gone = c := by cases c; simp_all [ClothS.gone]
    rw [e]; exact h
  | true =>
    obtain ⟨h0, h1⟩ := hl hs
    refine (goes_at h hs h0 h1).mono ?_
    rintro e w' ⟨rfl, hc, hw⟩
    refine ⟨by simp [ClothS.going, hs], ?_, hw⟩
    simpa [ClothS.gone, hs] using hc
theorem gone_loose (c : ClothS) : c.gone.loose = c.loose := rfl
theorem gone_pressed (c : ClothS) : c.gone.pressed = c.pressed := rfl
theorem gone_keep (c : ClothS) : c.gone.keep = c.keep := rfl
theorem gone_torn (c : ClothS) : c.gone.torn = c.torn := rfl
theorem may_zero {c : ClothS} {row : Int} (h : c.may row = 0) : c.torn = false ∧ 0 ≤ row ∧ row < c.pressed.length := by
  unfold ClothS.may at h
  split at h
  · simp at h
  · rename_i ht
    split at h
    · simp at h
    · rename_i hr
      exact ⟨by simpa using ht, by omega, by omega⟩
def ClothS.add (c : ClothS) (row : Int) (s : ByteArray) : ClothS := { c with loose := c.loose ++ [(row, s)] }

def ClothS.weaveR (c : ClothS) : Int := if c.going then 14 else 0
def ClothS.weaveS (c : ClothS) (row : Int) (s : ByteArray) : ClothS := if c.going then (c.gone.add row s).tear c.keep else c.gone.add row s
set_option maxHeartbeats 1000000 in
theorem weave_at (h : ClothAt w p pr lo ke c F G H) (row : Int) (s : ByteArray) (hm : c.may row = 0) (hs : s.size ≤ 40) (hl : c.loose.length < 1000000) (hk : c.keep.length ≤ 1000000) (hok : RowsOk c.pressed.length c.loose) (hleft : c.leftOk) :
    Calls Try.prog 10 #[.pointer (some ⟨p, 0, none⟩), .int .i64 row, .string s] w (ClPost w p pr (p :: (F ++ G)) F G H (.int .i64 c.weaveR) (c.weaveS row s)) := by
  obtain ⟨i0, hi, hz0, hz1, hz2⟩ := info_parts infoThread
  obtain ⟨mt, m0, m1⟩ := may_zero hm
  go_enter Try.func10, Try.ntmps10
  go_wp2_with (go_at_call 23; refine (may_at h row).mono ?_; rintro e w' ⟨rfl, rfl⟩)
  refine (goes_any h hleft).mono ?_
  rintro e w0 ⟨rfl, h0, hw0⟩
  have c1 : w0.cell? ⟨p, 1, none⟩ = some lo := h0.blk.cell 1
  cases hg : c.going
  all_goals
    go_wp2_with fail
    go_region_law (first | (go_simp; go_at_call 25; refine (strClone _ _ (by omega)).mono ?_; rintro e w1 ⟨rfl, hw1⟩; have hb1 := h0.blk.drew.chg hw1 (by simp); have c1' : w1.cell? ⟨p, 1, none⟩ = some lo := hb1.cell 1; have c1a := cell_al c1') | (refine step_append_fix rfl (.tmp 26) (.tmp 31) 51 rfl Try.underlying51 hi hz0 hz1 hz2 rfl (by omega) (v := lo) rfl ((h0.hlo.drew.chg hw1 (by simp)).alloc _) rfl (Src.one2 (by simp)) (by simp [Value.oneCell']) (by rw [gone_loose]; unfold maxLen; omega) (by rw [gone_loose]; omega) ?_; intro v' w2 F1 ha; obtain ⟨g2, cc2, rfl, rfl⟩ := ha.head (by omega); have hb2 := (hb1.alloc _).chg ha.chg (h0.hlo.ne_blk h0.blk (by decide)); have c2' : w2.cell? ⟨p, 1, none⟩ = some lo := hb2.cell 1; have f2' : w2.frozen? ⟨p, 1, none⟩ = false := hb2.frozen 1))
  all_goals
    have hz := ((((Chg.refl (p :: G) w0).drew.trans hw1 (by simp)).alloc (.cells #[.int .i64 row, .string s] 57)).trans ha.chg (by intro g hg; exact .inl (by simp [hg]))).setCell (p := ⟨p, 1, none⟩) (by simp) (.slice (some ⟨g2, 0, none⟩) (c.gone.loose.length + 1) cc2)
    have h3 : ClothAt (w2.setCell ⟨p, 1, none⟩ (.slice (some ⟨g2, 0, none⟩) (c.gone.loose.length + 1) cc2)) p pr (.slice (some ⟨g2, 0, none⟩) (c.gone.loose.length + 1) cc2) ke (c.gone.add row s) F [g2] H := by
      refine ⟨hb2.set_ 1 _, h0.hpr.chg hz (h0.hpr.not_cons h0.blk (by decide) (h0.hpr.disj h0.hlo (by decide))), h0.prn, ?_, h0.hke.chg hz (h0.hke.not_cons h0.blk (by decide) (h0.hke.disj h0.hlo (by decide)))⟩
      have := ha.fix.far_blk hb2 (by decide) 1 (.slice (some ⟨g2, 0, none⟩) (c.gone.loose.length + 1) cc2)
      simpa [ClothS.add, threadCells_append, threadCells] using this
    have hG : ∀ g, g ∈ [g2] → g ∈ G ∨ w.heap.size ≤ g := by
      intro g hg
      have hsz := hw1.size
      have hsz0 := hw0.size
      rcases ha.foot with h1 | h1
      · left; rw [← h1]; exact hg
      · right; rw [h1] at hg; simp at hg hsz; omega
    have hzz := (hw0.mono (G := p :: (F ++ G)) (by simp)).trans hz (by intro g hg; left; simp at hg ⊢; rcases hg with hg | hg <;> simp [hg])
    clear hz ha hb2 c2' f2' hb1 c1' c1a hw1
    generalize w2.setCell ⟨p, 1, none⟩ (.slice (some ⟨g2, 0, none⟩) (c.gone.loose.length + 1) cc2) = w3 at h3 hzz ⊢
    have d5 : w3.cell? ⟨p, 5, none⟩ = some ke := h3.blk.cell 5
    clear h0 hw0
  all_goals first
    | (go_wp2_with fail; go_ret; exact ⟨_, ke, [g2], H, by simp [ClothS.weaveR, hg], by simpa [ClothS.weaveS, hg] using h3, hzz, hG, fun g h => .inl h⟩)
    | (obtain ⟨K, kc, rfl, -⟩ := id h3.hke
       go_wp2_with (go_at_call 13; refine (tear_on h3 mt ?_ ?_ (Fix.src h3.hke) hk).mono ?_)
       · intro t ht
         simp only [ClothS.add, gone_loose, List.mem_append, List.mem_singleton] at ht
         rcases ht with ht | rfl
         · exact hok t ht
         · exact ⟨m0, m1⟩
       · simp only [ClothS.add, gone_loose, List.length_append, List.length_singleton]; omega
       · rintro e w4 ⟨rfl, h4, hw4⟩
         go_wp2_with fail
         go_ret
         exact ⟨_, _, _, _, by simp [ClothS.weaveR, hg], by simp only [ClothS.weaveS, hg, if_true]; exact h4, hzz.trans hw4 (by intro g hg; left; simp at hg ⊢; rcases hg with hg | hg <;> simp [hg]), by simp, by simp⟩)
end
end Go.Proofs.Ytjbjiomajldkoaa
