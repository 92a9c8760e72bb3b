/- The reference's cloth: its press; twins. -/
import Derived.Test.YtjbjiomajldkoaaClothU
namespace Go.Proofs.Ytjbjiomajldkoaa
open Go.RowKit Go.Vx
set_option linter.unusedVariables false
set_option linter.unusedSimpArgs false
section
variable {w w' : World} {p : Nat} {now last lo ke : Value} {c : ClothS} {n : Int} {kl : List Bool} {Fn Fl G H : List Nat}
theorem rpress_off (h : RefAt w p now last lo ke c n kl Fn Fl G H) (ht : c.torn = true) :
    Calls Try.prog 34 #[.pointer (some ⟨p, 0, none⟩)] w fun e w' => e = .returned (.int .i64 14) ∧ w = w' := by
  have c3 : w.cell? ⟨p, 3, none⟩ = some (.bool c.torn) := h.blk.cell 3
  go_enter Try.func34, Try.ntmps34
  go_wp2
  go_ret
  exact ⟨rfl, rfl⟩
set_option maxHeartbeats 2000000 in
theorem rpress_on (h : RefAt w p now last lo ke c n kl Fn Fl G H) (mt : c.torn = false) (hl : c.loose.length < 1000000) (hk : c.keep.length ≤ 1000000) (hok : RowsOk c.pressed.length c.loose) (hleft : c.leftOk) :
    Calls Try.prog 34 #[.pointer (some ⟨p, 0, none⟩)] w (RefPost w (p :: (Fn ++ Fl ++ G ++ H)) p (.int .i64 c.weaveR) c.pressS) := by
  have c3 : w.cell? ⟨p, 3, none⟩ = some (.bool c.torn) := h.blk.cell 3
  obtain ⟨K, kc, rfl, -⟩ := id h.hke
  obtain ⟨A, m, rfl, -⟩ := id h.hn
  obtain ⟨B, k, rfl, -⟩ := id h.hl
  go_enter Try.func34, Try.ntmps34
  go_wp2_with fail
  refine (rfalls2 h hleft).mono ?_
  rintro e w1 ⟨rfl, ⟨n1, h1, hkg⟩, hw1⟩
  have e6 : w1.cell? ⟨p, 6, none⟩ = some (.slice K kl.length kc) := h1.blk.cell 6
  have e2 : w1.cell? ⟨p, 2, none⟩ = some lo := h1.blk.cell 2
  have e0 : w1.cell? ⟨p, 0, none⟩ = some (.slice A c.pressed.length m) := h1.blk.cell 0
  have e1 : w1.cell? ⟨p, 1, none⟩ = some (.slice B c.pressed.length k) := h1.blk.cell 1
  have f2 := h1.blk.frozen 2
  have hn1 : Fix w1 9 1 (.slice A c.pressed.length m) c.pressed.length ((pressTo c.pressed c.loose).map .string) Fn := by have := h1.hn; rwa [rgone_loose, rgone_pressed] at this
  have hl1 : Fix w1 9 1 (.slice B c.pressed.length k) c.pressed.length (c.pressed.map .string) Fl := by have := h1.hl; rwa [rgone_pressed] at this
  cases hg : c.going with
  | true =>
    obtain rfl := hkg hg
    have hT := rtear_on (cap := kc) (A := K) (m := c.keep.length) (keep := c.keep) h1 (by rw [rgone_torn]; exact mt) (by
      intro t ht
      rw [rgone_loose] at ht
      rw [rgone_pressed]
      exact hok t ht) (by rw [rgone_loose]; omega) (Fix.src h1.hke) hk (by
      intro h0 ad ha
      obtain ⟨gk, kk, hv, -, -, hH, -⟩ := h1.hke.at_ (k := 0) (j := 0) h0 (by omega)
      subst ha
      injection hv with hv
      injection hv with hv
      subst hv
      exact h1.hke.disj h1.hl (by decide) _ (by rw [hH]; simp))
    go_wp2_with fail
    refine hT.mono ?_
    rintro e w5 ⟨S5, rfl, h5, hw5, hs5⟩
    go_wp2_with fail
    go_ret
    obtain ⟨now', last', lo', ke', n', kl', Fn', Fl', G', H', h5, rfl⟩ := h5
    have e1 : c.pressS.snagged = false := by simp [ClothS.pressS, hg, ClothS.tear]
    refine ⟨_, by simp [ClothS.weaveR, hg], ⟨now', last', lo', ke', n', kl', Fn', Fl', G', H', h5.same ?_ ?_ ?_ ?_ (by rw [e1]; simp), rfl⟩, (hw1.mono (by simp)).trans' hw5, ?_⟩
    · simp [ClothS.pressS, hg, ClothS.tear, ClothS.rgone, ClothS.gone]
    · simp [ClothS.pressS, hg, ClothS.tear]
    · simp [ClothS.pressS, hg, ClothS.tear]
    · simp [ClothS.pressS, hg, ClothS.tear]
    · intro g' hg'
      rcases hs5 g' hg' with h6 | h6
      · exact .inl h6
      · right; have := hw1.size; omega
  | false =>
    go_wp2_with fail
    have hz : Chg [p] w1 (w1.setCell ⟨p, 2, none⟩ (.slice none 0 0)) := (Chg.refl _ _).setCell (by simp) _
    have hb2 := h1.blk.set_ 2 (.slice none 0 0)
    have hn2 := hn1.chg hz (hn1.not_mem h1.blk (by decide))
    have hl2 := hl1.chg hz (hl1.not_mem h1.blk (by decide))
    have hke2 := h1.hke.chg hz (h1.hke.not_mem h1.blk (by decide))
    generalize w1.setCell ⟨p, 2, none⟩ (.slice none 0 0) = w2 at hz hb2 hn2 hl2 hke2 ⊢
    have e0' : w2.cell? ⟨p, 0, none⟩ = some (.slice A c.pressed.length m) := hb2.cell 0
    have e1' : w2.cell? ⟨p, 1, none⟩ = some (.slice B c.pressed.length k) := hb2.cell 1
    clear e0 e1 e2 e6
    go_wp2_with fail
    go_still_tail 8, (by kernel_rfl)
    change wpList _ _ _ _ _ w2.drew
    refine wpList_copy_fix rfl _ _ 41 41 rfl Try.underlying41 (by kernel_rfl) rfl rfl hl2.drew hn2.drew ?_ ?_
    · intro u hu
      obtain ⟨b, _, rfl⟩ := List.mem_map.1 hu
      rfl
    intro w3 hl3 hw3
    go_wp2_with fail
    go_ret
    have hdis : ∀ g, g ∈ Fn → g ∉ Fl := h.dis
    have hpp : c.pressS.pressed.length = c.pressed.length := by simp [ClothS.pressS, hg, ClothS.done, pressTo_length, ClothS.gone]
    have e5 : RefAt w3 p (.slice A c.pressed.length m) (.slice B c.pressed.length k) (.slice none 0 0) (.slice K kl.length kc) c.pressS n1 kl Fn Fl [] H := by
      refine ⟨?_, ?_, ?_, ?_, ?_, h.dis, ?_⟩
      · have := hb2.drew.chg hw3 (hl2.ne_blk hb2 (by decide))
        simpa [ClothS.pressS, hg, ClothS.done, ClothS.gone, ClothS.rgone] using this
      · rw [hpp]
        have := hn2.drew.chg hw3 hdis
        simpa [ClothS.pressS, hg, ClothS.done, ClothS.gone, pressTo] using this
      · rw [hpp]
        simp only [ClothS.pressS, hg, ClothS.done, ClothS.gone]
        exact hl3
      · simp only [ClothS.pressS, hg, ClothS.done]
        exact Fix.nil _ _ _
      · exact hke2.drew.chg hw3 (hke2.disj hl2 (by decide))
      · intro hs
        have := h1.arm (by simpa [ClothS.pressS, hg, ClothS.done, ClothS.rgone] using hs)
        simpa [ClothS.pressS, hg, ClothS.done, ClothS.rgone] using this
    refine ⟨_, by simp [ClothS.weaveR, hg], ⟨_, _, _, _, _, _, _, _, _, _, e5, rfl⟩, ?_, ?_⟩
    · exact ((hw1.mono (by simp)).trans' (hz.drew.mono (by simp))).trans' (hw3.mono (by simp +contextual))
    · intro g hg
      simp only [List.mem_cons, List.mem_append, List.not_mem_nil, or_false] at hg ⊢
      rcases hg with hg | (hg | hg) | hg <;> simp [hg]
end
end Go.Proofs.Ytjbjiomajldkoaa
