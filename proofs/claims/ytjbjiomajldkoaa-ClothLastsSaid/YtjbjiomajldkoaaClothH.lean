/- The first call of the cloth's statements: it answers true. -/
import Derived.Test.YtjbjiomajldkoaaClothG
namespace Go.Proofs.Ytjbjiomajldkoaa
open Go.RowKit Go.Vx
set_option linter.unusedVariables false
set_option linter.unusedSimpArgs false
abbrev em : ByteArray := ⟨#[]⟩

def AlivePost (w : World) (e : Ending) (w' : World) : Prop := e = .returned (.bool true) ∧ Chg [] w w'
set_option maxHeartbeats 1000000 in
theorem alive_at (w : World) : Calls Try.prog 8 #[] w (AlivePost w) := by
  go_enter Try.func8, Try.ntmps8
  go_wp2_with fail
  refine (new_at 3 _).mono ?_
  rintro e w0 ⟨p, pr, F, rfl, h0, hw0, hF⟩
  replace h0 : ClothAt w0 p pr (.slice none 0 0) (.slice none 0 0) ⟨[em, em, em], [], false, false, 0, []⟩ F [] [] := h0
  go_wp2_with fail
  refine (weave_at h0 0 ⟨#[97]⟩ rfl (by decide) (by decide) (by decide) (by intro t ht; simp at ht) (by intro h; simp at h)).mono ?_
  rintro e w1 ⟨lo1, ke1, G1, H1, rfl, h1, hw1, hG1, hH1⟩
  replace h1 : ClothAt w1 p pr lo1 ke1 ⟨[em, em, em], [(0, ⟨#[97]⟩)], false, false, 0, []⟩ F G1 H1 := h1
  rw [show ClothS.weaveR ⟨[em, em, em], [], false, false, 0, []⟩ = 0 from rfl]
  go_wp2_with fail
  refine (weave_at h1 1 ⟨#[98]⟩ rfl (by decide) (by decide) (by decide) (by intro t ht; simp at ht; subst ht; decide) (by intro h; simp at h)).mono ?_
  rintro e w2 ⟨lo2, ke2, G2, H2, rfl, h2, hw2, hG2, hH2⟩
  replace h2 : ClothAt w2 p pr lo2 ke2 ⟨[em, em, em], [(0, ⟨#[97]⟩), (1, ⟨#[98]⟩)], false, false, 0, []⟩ F G2 H2 := h2
  rw [show ClothS.weaveR ⟨[em, em, em], [(0, ⟨#[97]⟩)], false, false, 0, []⟩ = 0 from rfl]
  go_wp2_with fail
  refine ((tear_on (h2.alloc _) rfl (by intro t ht; simp at ht; rcases ht with rfl | rfl <;> decide) (by decide) (keep := [false, true]) (Src.lit rfl rfl) (by decide)).mono
    (R' := fun e w3 => e = .returned (.int .i64 1) ∧ ClothAt w3 p pr (.slice none 0 0) (.slice none 0 0) ⟨[em, ⟨#[98]⟩, em], [], true, false, 0, []⟩ F [] [] ∧ Chg (p :: F) (w2.alloc (.cells #[.bool false, .bool true] 4)) w3) (fun _ _ h => h)).mono ?_
  rintro e w3 ⟨rfl, h3, hw3⟩
  have hp : w.heap.size ≤ p := hF p (by simp)
  have hz : Chg [] w w3 := (((hw0.trans hw1 (by intro g hg; simp at hg; exact .inr (hF g (by simpa using hg)))).trans hw2 (by
    intro g hg
    simp at hg
    have := hw0.size
    rcases hg with hg | hg | hg
    · exact .inr (hF g (by simp [hg]))
    · exact .inr (hF g (by simp [hg]))
    · rcases hG1 g hg with h | h
      · simp at h
      · exact .inr (by omega))).alloc _).trans hw3 (by intro g hg; simp at hg; exact .inr (hF g (by simpa using hg)))
  clear h0 h1 h2 hw0 hw1 hw2 hw3 hG1 hG2 hH1 hH2 hF
  go_wp2_with fail
  refine (on_at h3).mono ?_
  rintro e w4 ⟨rfl, rfl⟩
  go_wp2_with fail
  refine (mend_at h3).mono ?_
  rintro e w4 ⟨rfl, h4, hw4⟩
  replace h4 : ClothAt w4 p pr (.slice none 0 0) (.slice none 0 0) ⟨[em, ⟨#[98]⟩, em], [], false, false, 0, []⟩ F [] [] := h4
  have hz4 : Chg [] w w4 := hz.trans hw4 (by intro g hg; simp at hg; subst hg; exact .inr hp)
  clear h3 hw4 hz hp
  go_wp2_with fail
  refine (read_at h4 0 rfl (by decide)).mono ?_
  rintro e w5 ⟨rfl, hw5⟩
  have h5 := h4.chg hw5 (by simp)
  have hz5 : Chg [] w w5 := hz4.trans hw5 (by simp)
  rw [show ClothS.text ⟨[em, ⟨#[98]⟩, em], [], false, false, 0, []⟩ 0 = em from rfl]
  clear h4 hz4 hw5
  go_wp2_with fail
  refine (read_at h5 1 rfl (by decide)).mono ?_
  rintro e w6 ⟨rfl, hw6⟩
  have h6 := h5.chg hw6 (by simp)
  have hz6 : Chg [] w w6 := hz5.trans hw6 (by simp)
  rw [show ClothS.text ⟨[em, ⟨#[98]⟩, em], [], false, false, 0, []⟩ 1 = ⟨#[98]⟩ from rfl]
  clear h5 hz5 hw6
  go_wp2_with fail
  refine (rows_at h6).mono ?_
  rintro e w7 ⟨rfl, rfl⟩
  go_wp2_with fail
  go_ret
  exact ⟨rfl, hz6⟩
end Go.Proofs.Ytjbjiomajldkoaa
