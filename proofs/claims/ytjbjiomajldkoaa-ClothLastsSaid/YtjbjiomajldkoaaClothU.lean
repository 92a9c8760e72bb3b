/- The reference's cloth: its weave, its press. -/
import Derived.Test.YtjbjiomajldkoaaClothT
namespace Go.Proofs.Ytjbjiomajldkoaa
open Go.RowKit Go.Vx
set_option linter.unusedVariables false
set_option linter.unusedSimpArgs false

theorem oneThreads (l : List (Int × ByteArray)) : ∀ u ∈ threadCells l, u.oneCell' = true := by
  intro u hu
  obtain ⟨t, _, ht⟩ := List.mem_flatMap.1 hu
  simp at ht
  rcases ht with rfl | rfl <;> rfl
def ClothS.rgone (c : ClothS) : ClothS := if c.going then c else c.gone
theorem rgone_loose (c : ClothS) : c.rgone.loose = c.loose := by unfold ClothS.rgone; split <;> rfl
theorem rgone_pressed (c : ClothS) : c.rgone.pressed = c.pressed := by unfold ClothS.rgone; split <;> rfl
theorem rgone_keep (c : ClothS) : c.rgone.keep = c.keep := by unfold ClothS.rgone; split <;> rfl
theorem rgone_torn (c : ClothS) : c.rgone.torn = c.torn := by unfold ClothS.rgone; split <;> rfl
theorem rgone_snagged (c : ClothS) : c.rgone.snagged = c.snagged := by unfold ClothS.rgone; split <;> rfl
section
variable {w w' : World} {p : Nat} {now last lo ke : Value} {c : ClothS} {n : Int} {kl : List Bool} {Fn Fl G H : List Nat}
theorem RefAt.same {c' : ClothS} (h : RefAt w p now last lo ke c n kl Fn Fl G H) (h1 : c'.pressed = c.pressed) (h2 : c'.loose = c.loose) (h3 : c'.torn = c.torn) (h4 : c'.snagged = c.snagged) (h5 : c'.snagged = true → kl = c'.keep ∧ n = c'.left) : RefAt w p now last lo ke c' n kl Fn Fl G H := by
  refine ⟨?_, ?_, ?_, ?_, h.hke, h.dis, h5⟩
  · rw [h3, h4]; exact h.blk
  · rw [h1, h2]; exact h.hn
  · rw [h1]; exact h.hl
  · rw [h2]; exact h.hlo
theorem rfalls2 (h : RefAt w p now last lo ke c n kl Fn Fl G H) (hleft : c.leftOk) :
    Calls Try.prog 39 #[.pointer (some ⟨p, 0, none⟩)] w fun e w' => e = .returned (.bool c.going) ∧ (∃ n' : Int, RefAt w' p now last lo ke c.rgone n' kl Fn Fl G H ∧ (c.going = true → kl = c.keep)) ∧ Chg [p] w w' := by
  have c4 : w.cell? ⟨p, 4, none⟩ = some (.bool c.snagged) := h.blk.cell 4
  have c5 : w.cell? ⟨p, 5, none⟩ = some (.int .i64 n) := h.blk.cell 5
  have f5 := h.blk.frozen 5
  cases hs : c.snagged with
  | false =>
    go_enter Try.func39, Try.ntmps39
    go_wp2
    go_ret
    refine ⟨by simp [ClothS.going, hs], ⟨n, h.same (rgone_pressed c) (rgone_loose c) (rgone_torn c) (rgone_snagged c) (by rw [rgone_snagged, hs]; simp), by simp [ClothS.going, hs]⟩, Chg.refl _ _⟩
  | true =>
    obtain ⟨hkk, rfl⟩ := h.arm hs
    obtain ⟨l0, l1⟩ := hleft hs
    go_enter Try.func39, Try.ntmps39
    by_cases h0 : c.left = 0
    · have hb : (c.left == 0) = true := by simpa using h0
      go_wp2
      go_ret
      have e : c.rgone = c := by simp [ClothS.rgone, ClothS.going, hs, h0]
      exact ⟨by simp [ClothS.going, hs, h0], ⟨c.left, by rw [e]; exact h, fun _ => hkk⟩, Chg.refl _ _⟩
    · have hb : (c.left == 0) = false := by simpa using h0
      go_wp2
      go_ret
      have hg : c.going = false := by simp [ClothS.going, hs]; omega
      have hz : Chg [p] w (w.setCell ⟨p, 5, none⟩ (.int .i64 (c.left - 1))) := (Chg.refl _ _).setCell (by simp) _
      refine ⟨by rw [hg]; rfl, ⟨c.left - 1, ⟨?_, ?_, ?_, ?_, ?_, h.dis, ?_⟩, by rw [hg]; simp⟩, hz⟩
      · have := h.blk.set_ 5 (.int .i64 (c.left - 1))
        rw [rgone_torn, rgone_snagged]; exact this
      · rw [rgone_pressed, rgone_loose]; exact h.hn.chg hz (h.hn.not_mem h.blk (by decide))
      · rw [rgone_pressed]; exact h.hl.chg hz (h.hl.not_mem h.blk (by decide))
      · rw [rgone_loose]; exact h.hlo.chg hz (h.hlo.not_mem h.blk (by decide))
      · exact h.hke.chg hz (h.hke.not_mem h.blk (by decide))
      · intro _; rw [rgone_keep]; exact ⟨hkk, by simp [ClothS.rgone, hg, ClothS.gone, hs]⟩
theorem rweave_off (h : RefAt w p now last lo ke c n kl Fn Fl G H) (row : Int) (s : ByteArray) (ht : c.torn = true) :
    Calls Try.prog 33 #[.pointer (some ⟨p, 0, none⟩), .int .i64 row, .string s] w fun e w' => e = .returned (.int .i64 14) ∧ w = w' := by
  have c3 : w.cell? ⟨p, 3, none⟩ = some (.bool c.torn) := h.blk.cell 3
  go_enter Try.func33, Try.ntmps33
  go_wp2
  go_ret
  exact ⟨rfl, rfl⟩
theorem rweave_bad (h : RefAt w p now last lo ke c n kl Fn Fl G H) (row : Int) (s : ByteArray) (ht : c.torn = false) (hb : row < 0 ∨ (c.pressed.length : Int) ≤ row ∨ 40 < s.size) (hs2 : s.size ≤ 281474976710656) :
    Calls Try.prog 33 #[.pointer (some ⟨p, 0, none⟩), .int .i64 row, .string s] w fun e w' => e = .returned (.int .i64 1) ∧ w = w' := by
  have c3 : w.cell? ⟨p, 3, none⟩ = some (.bool c.torn) := h.blk.cell 3
  have c0 : w.cell? ⟨p, 0, none⟩ = some now := h.blk.cell 0
  obtain ⟨A, m, rfl, -, h1, h2, -⟩ := id h.hn
  unfold maxLen at h2
  go_enter Try.func33, Try.ntmps33
  by_cases hr : row < 0
  · go_wp2
    go_ret
    exact ⟨rfl, rfl⟩
  · by_cases hr2 : (c.pressed.length : Int) ≤ row
    · go_wp2
      go_ret
      exact ⟨rfl, rfl⟩
    · have hs : 40 < s.size := by omega
      go_wp2
      go_ret
      exact ⟨rfl, rfl⟩
set_option maxHeartbeats 2000000 in
/-- The cloth behind a text that is woven, power or none. -/
theorem rweave_at (h : RefAt w p now last lo ke c n kl Fn Fl G H) (row : Nat) (s : ByteArray) (hm : c.may row = 0) (hs : s.size ≤ 40) (hl : c.loose.length < 1000000) (hk : c.keep.length ≤ 1000000) (hok : RowsOk c.pressed.length c.loose) (hleft : c.leftOk) :
    Calls Try.prog 33 #[.pointer (some ⟨p, 0, none⟩), .int .i64 row, .string s] w (RefPost w (p :: (Fn ++ Fl ++ G ++ H)) p (.int .i64 c.weaveR) (c.weaveS row s)) := by
  obtain ⟨i0, hi, j0, j1, j2⟩ := info_parts infoWrite
  obtain ⟨mt, m0, m1⟩ := may_zero hm
  have c3 : w.cell? ⟨p, 3, none⟩ = some (.bool c.torn) := h.blk.cell 3
  have c0 : w.cell? ⟨p, 0, none⟩ = some now := h.blk.cell 0
  obtain ⟨g, m, rfl, hm1, hm2, hF, d0, f0⟩ := h.hn.at_ (k := row) (j := 0) (by omega) (by omega)
  subst hF
  rw [List.getElem?_eq_getElem (by simp [pressTo_length]; omega)] at d0
  simp only [Nat.mul_one, Nat.add_zero, List.getElem_map] at d0 f0
  unfold maxLen at hm2
  have hpg : p ≠ g := by have := h.hn.ne_blk h.blk (by decide); simpa using this
  go_enter Try.func33, Try.ntmps33
  go_wp2_with fail
  refine (rfalls2 h hleft).mono ?_
  rintro e w1 ⟨rfl, ⟨n1, h1, hkg⟩, hw1⟩
  have d0' : w1.cell? ⟨g, row, none⟩ = some (.string ((pressTo c.pressed c.loose)[row]'(by rw [pressTo_length]; omega))) := (hw1.cell (World.block_lt_of_cell? _ _ d0) (by simp; exact fun e => hpg e.symm)).trans d0
  have f0' : w1.frozen? ⟨g, row, none⟩ = false := (hw1.frozen (World.block_lt_of_cell? _ _ d0) (by simp; exact fun e => hpg e.symm)).trans f0
  have c0' : w1.cell? ⟨p, 0, none⟩ = some (.slice (some ⟨g, 0, none⟩) c.pressed.length m) := h1.blk.cell 0
  obtain ⟨L, lc, rfl, -, hlc1, hlc2, -⟩ := id h.hlo
  unfold maxLen at hlc2
  obtain ⟨K, kc, rfl, -⟩ := id h.hke
  have c2' : w1.cell? ⟨p, 2, none⟩ = some (.slice L c.loose.length lc) := h1.blk.cell 2
  have hlo1 : Fix w1 72 2 (.slice L c.loose.length lc) c.loose.length (threadCells c.loose) G := by have := h1.hlo; rwa [rgone_loose] at this
  have hn1 : Fix w1 9 1 (.slice (some ⟨g, 0, none⟩) c.pressed.length m) c.pressed.length ((pressTo c.pressed c.loose).map .string) [g] := by have := h1.hn; rwa [rgone_loose, rgone_pressed] at this
  have hl1 : Fix w1 9 1 last c.pressed.length (c.pressed.map .string) Fl := by have := h1.hl; rwa [rgone_pressed] at this
  have hs0 : Chg [g] w1 (w1.setCell ⟨g, row, none⟩ (.string s)) := (Chg.refl _ _).setCell (by simp) _
  have hlo2 := hlo1.chg hs0 (h1.hlo.disj h1.hn (by decide))
  have hn2 : Fix (w1.setCell ⟨g, row, none⟩ (.string s)) 9 1 (.slice (some ⟨g, 0, none⟩) c.pressed.length m) c.pressed.length ((pressTo c.pressed (c.loose ++ [((row : Int), s)])).map .string) [g] := by
    have := hn1.store rfl row (.string s)
    rw [pressTo_snoc, List.map_set]; exact this
  have hl2 := hl1.chg hs0 (fun g' h1 h2 => h.dis g' h2 h1)
  have hb2 := h1.blk.chg hs0 (by simpa using hpg)
  have hke2 := h1.hke.chg hs0 (h1.hke.disj h1.hn (by decide))
  have hz0 := hw1.mono (G := p :: ([g] ++ Fl ++ G ++ H)) (by simp)
  have hz1 := hz0.trans' (hs0.mono (by simp))
  cases hg : c.going
  all_goals
    go_wp2_with (first
      | (at_builtin; refine wpList_append_fix rfl _ _ 63 rfl Try.underlying63 hi j0 j1 j2 rfl (by omega) (n := 0) (xs := []) (F := []) rfl (Fix.nil _ _ _) rfl (Fix.src hlo2) (oneThreads _) (by unfold maxLen; omega) (by omega) ?_; intro v1 w2 F1 ha1; obtain ⟨A1, k1, rfl, -⟩ := id ha1.fix; have hf1 := ha1.fix; simp only [Nat.zero_add, List.nil_append] at hf1 ha1)
      | (at_builtin; refine wpList_append_fix rfl _ _ 63 rfl Try.underlying63 hi j0 j1 j2 rfl (by omega) (n := c.loose.length) rfl (hf1.alloc _) rfl (Src.one2 rfl) (by simp [Value.oneCell']) (by unfold maxLen; omega) (by omega) ?_; intro v2 w3 F2 ha2; obtain ⟨A2, k2, rfl, hF2⟩ := ha2.head (by omega); have hb3 := (hb2.chg ha1.chg (by simp)).alloc (.cells #[.int .i64 row, .string s] 72); have hb4 := hb3.chg ha2.chg ((hf1.alloc _).ne_blk hb3 (by decide)); have e2 : w3.cell? ⟨p, 2, none⟩ = some (.slice L c.loose.length lc) := hb4.cell 2; clear c2'; have e2f := hb4.frozen 2; have e6 : w3.cell? ⟨p, 6, none⟩ = some (.slice K kl.length kc) := hb4.cell 6))
    have hq : Chg [p] w3 (w3.setCell ⟨p, 2, none⟩ (.slice (some ⟨A2, 0, none⟩) (c.loose.length + 1) k2)) := (Chg.refl _ _).setCell (by simp) _
    have hF1 : ∀ g', g' ∈ F1 → g' ∈ p :: ([g] ++ Fl ++ G ++ H) ∨ w.heap.size ≤ g' := by
      intro g' hg'
      have s1 := hw1.size
      have s2 := hs0.size
      rcases ha1.foot with e | e <;> rw [e] at hg'
      · simp at hg'
      · simp only [List.mem_singleton] at hg'; right; omega
    have hA2 : ∀ g', g' ∈ [A2] → g' ∈ p :: ([g] ++ Fl ++ G ++ H) ∨ w.heap.size ≤ g' := by
      intro g' hg'
      have s1 := hw1.size
      have s2 := hs0.size
      have s3 := ha1.chg.size
      rw [← hF2] at hg'
      rcases ha2.foot with e | e <;> rw [e] at hg'
      · exact hF1 g' hg'
      · simp only [List.mem_singleton, World.size_alloc] at hg'; right; omega
    have hz3 := (((hz1.trans ha1.chg (by simp)).alloc (.cells #[.int .i64 row, .string s] 72)).trans ha2.chg hF1).trans hq (by simp)
    have h4 : RefAt (w3.setCell ⟨p, 2, none⟩ (.slice (some ⟨A2, 0, none⟩) (c.loose.length + 1) k2)) p (.slice (some ⟨g, 0, none⟩) c.pressed.length m) last (.slice (some ⟨A2, 0, none⟩) (c.loose.length + 1) k2) (.slice K kl.length kc) (c.rgone.add row s) n1 kl [g] Fl [A2] H := by
      refine ⟨hb4.set_ 2 _, ?_, ?_, ?_, ?_, h.dis, h1.arm⟩
      · have a := (hn2.chg ha1.chg (by simp)).alloc (.cells #[.int .i64 row, .string s] 72)
        have := (a.chg ha2.chg (a.disj (hf1.alloc _) (by decide))).chg hq (a.not_mem hb3 (by decide))
        simpa [ClothS.add, rgone_loose, rgone_pressed] using this
      · have a := (hl2.chg ha1.chg (by simp)).alloc (.cells #[.int .i64 row, .string s] 72)
        have := (a.chg ha2.chg (a.disj (hf1.alloc _) (by decide))).chg hq (a.not_mem hb3 (by decide))
        simpa [ClothS.add, rgone_loose, rgone_pressed] using this
      · have := ha2.fix.chg hq (ha2.fix.not_mem hb4 (by decide))
        rw [hF2] at this
        simpa [ClothS.add, rgone_loose, threadCells_append, threadCells] using this
      · have a := (hke2.chg ha1.chg (by simp)).alloc (.cells #[.int .i64 row, .string s] 72)
        exact (a.chg ha2.chg (a.disj (hf1.alloc _) (by decide))).chg hq (a.not_mem hb3 (by decide))
    generalize w3.setCell ⟨p, 2, none⟩ (.slice (some ⟨A2, 0, none⟩) (c.loose.length + 1) k2) = w4 at h4 hz3 ⊢
    have hsub : ∀ g', g' ∈ p :: ([g] ++ Fl ++ [A2] ++ H) → g' ∈ p :: ([g] ++ Fl ++ G ++ H) ∨ w.heap.size ≤ g' := by
      intro g' hg'
      simp only [List.mem_cons, List.mem_append, List.not_mem_nil, or_false] at hg' ⊢
      rcases hg' with hg' | ((hg' | hg') | hg') | hg'
      · simp [hg']
      · simp [hg']
      · simp [hg']
      · simpa only [List.mem_cons, List.mem_append, List.not_mem_nil, or_false] using hA2 g' (by simp [hg'])
      · simp [hg']
    clear hq hF1 hA2 hb4 hb3 e2 e2f ha1 ha2 hf1 hF2 hb2 hn2 hl2 hke2 hlo2 hs0 hz0 hz1 h1 hlo1 hn1 hl1
  · go_ret
    have e5 : c.rgone.add row s = c.weaveS row s := by simp [ClothS.weaveS, ClothS.rgone, hg]
    rw [e5] at h4
    exact ⟨_, by simp [ClothS.weaveR, hg], ⟨_, _, _, _, _, _, _, _, _, _, h4, rfl⟩, hz3, hsub⟩
  · obtain rfl := hkg hg
    have hT := rtear_on (cap := kc) (A := K) (m := c.keep.length) (keep := c.keep) h4 (by show c.rgone.torn = false; rw [rgone_torn]; exact mt) (by
      intro t ht
      simp only [ClothS.add, rgone_loose, rgone_pressed, List.mem_append, List.mem_singleton] at ht ⊢
      rcases ht with ht | rfl
      · exact hok t ht
      · exact ⟨m0, m1⟩) (by simp only [ClothS.add, rgone_loose, List.length_append, List.length_singleton]; omega) (Fix.src h4.hke) hk (by
      intro h0 ad ha
      obtain ⟨gk, kk, hv, -, -, hH, -⟩ := h4.hke.at_ (k := 0) (j := 0) h0 (by omega)
      subst ha
      injection hv with hv
      injection hv with hv
      subst hv
      exact h4.hke.disj h4.hl (by decide) _ (by rw [hH]; simp))
    clear h
    refine hT.mono ?_
    · rintro e w5 ⟨S5, rfl, h5, hw5, hs5⟩
      go_wp2_with fail
      go_ret
      obtain ⟨now', last', lo', ke', n', kl', Fn', Fl', G', H', h5, rfl⟩ := h5
      have e1 : (c.weaveS row s).snagged = false := by simp [ClothS.weaveS, hg, ClothS.tear]
      refine ⟨_, by simp [ClothS.weaveR, hg], ⟨now', last', lo', ke', n', kl', Fn', Fl', G', H', h5.same ?_ ?_ ?_ ?_ (by rw [e1]; simp), rfl⟩, hz3.trans hw5 hsub, ?_⟩
      · simp [ClothS.weaveS, hg, ClothS.tear, ClothS.rgone, ClothS.add, ClothS.gone]
      · simp [ClothS.weaveS, hg, ClothS.tear]
      · simp [ClothS.weaveS, hg, ClothS.tear]
      · simp [ClothS.weaveS, hg, ClothS.tear]
      · intro g' hg'
        rcases hs5 g' hg' with h6 | h6
        · exact hsub g' h6
        · right; have := hz3.size; omega
end
end Go.Proofs.Ytjbjiomajldkoaa
