/- The agenda's heap: its swap, push, pop. -/
import Derived.Test.YtkpegffoebmhmaaSlotL
import Derived.Deep.RegionLaw
namespace Go.Proofs.Ytkpegffoebmhmaa
open Go.RowKit Go.Vx
set_option linter.unusedVariables false
set_option linter.unusedSimpArgs false

set_option maxRecDepth 8000 in
set_option maxHeartbeats 4000000 in
theorem sl_swap {w : World} {v : Value} {l : List Slot} {F : List Nat} (h : Fix w 51 4 v l.length (l.flatMap slEnc) F) {i k : Nat} (hi : i < l.length) (hk : k < l.length) (hl : l.length ≤ 1000000) :
    Calls Try.prog 41 #[v, .int .i64 i, .int .i64 k] w fun e w' => e = .returned (.tuple #[]) ∧ Fix w' 51 4 v (swapAt l i k).length ((swapAt l i k).flatMap slEnc) F ∧ Chg F w w' := by
  obtain ⟨g, c, rfl, rfl, hci⟩ := h.elem encLen (by omega) hi
  obtain ⟨g', c', hv, hF, hck⟩ := h.elem encLen (by omega) hk
  obtain rfl : g = g' := by simpa using hF
  obtain ⟨i0, fi0⟩ := hci 0 (by omega)
  obtain ⟨i1, fi1⟩ := hci 1 (by omega)
  obtain ⟨i2, fi2⟩ := hci 2 (by omega)
  obtain ⟨i3, fi3⟩ := hci 3 (by omega)
  obtain ⟨k0, fk0⟩ := hck 0 (by omega)
  obtain ⟨k1, fk1⟩ := hck 1 (by omega)
  obtain ⟨k2, fk2⟩ := hck 2 (by omega)
  obtain ⟨k3, fk3⟩ := hck 3 (by omega)
  simp only [slEnc, List.getElem?_cons_zero, List.getElem?_cons_succ, Nat.add_zero] at i0 i1 i2 i3 k0 k1 k2 k3 fi0 fk0
  have e1 := set_flat4 encLen l i hi (nth l k) rfl
  have e2 := set_flat4 encLen (l.set i (nth l k)) k (by simpa using hk) (nth l i) rfl
  have hs : Hid (Fix ((((((((w.setCell ⟨g, i * 4, none⟩ (.int .i64 (nth l k).1)).setCell ⟨g, i * 4 + 1, none⟩ (.int .i64 (nth l k).2.1)).setCell ⟨g, i * 4 + 2, none⟩ (.int .i64 (nth l k).2.2.1)).setCell ⟨g, i * 4 + 3, none⟩ (.int .i64 (nth l k).2.2.2)).setCell ⟨g, k * 4, none⟩ (.int .i64 (nth l i).1)).setCell ⟨g, k * 4 + 1, none⟩ (.int .i64 (nth l i).2.1)).setCell ⟨g, k * 4 + 2, none⟩ (.int .i64 (nth l i).2.2.1)).setCell ⟨g, k * 4 + 3, none⟩ (.int .i64 (nth l i).2.2.2)) 51 4 (.slice (some ⟨g, 0, none⟩) l.length c) (swapAt l i k).length ((swapAt l i k).flatMap slEnc) [g]) := by
    have := ((((((((h.store rfl (i * 4) (.int .i64 (nth l k).1)).store rfl (i * 4 + 1) (.int .i64 (nth l k).2.1)).store rfl (i * 4 + 2) (.int .i64 (nth l k).2.2.1)).store rfl (i * 4 + 3) (.int .i64 (nth l k).2.2.2)).store rfl (k * 4) (.int .i64 (nth l i).1)).store rfl (k * 4 + 1) (.int .i64 (nth l i).2.1)).store rfl (k * 4 + 2) (.int .i64 (nth l i).2.2.1)).store rfl (k * 4 + 3) (.int .i64 (nth l i).2.2.2))
    show Fix _ _ _ _ _ _ _
    rw [length_swap, swapAt, ← e2, ← e1]
    exact this
  clear e1 e2 hci hck h hv hF
  generalize hsw : (swapAt l i k).length = n2 at hs ⊢
  generalize (swapAt l i k).flatMap slEnc = xs at hs ⊢
  have hxy : i = k → nth l i = nth l k := by rintro rfl; rfl
  generalize nth l i = x at *
  generalize nth l k = y at *
  clear hsw
  generalize l.length = n at *
  go_enter Try.func41, Try.ntmps41
  go_wp2_with fail
  by_cases hik : i = k
  · obtain rfl := hxy hik
    subst hik
    go_region_law (fail)
    all_goals
      go_wp2_with fail
      go_end0
      exact ⟨rfl, hs.out.drew, (((((((((Chg.refl _ _).setCell (by simp) _).setCell (by simp) _).setCell (by simp) _).setCell (by simp) _).setCell (by simp) _).setCell (by simp) _).setCell (by simp) _).setCell (by simp) _).drew⟩
  have n01 : ¬ k * 4 = i * 4 + 1 := by omega
  have n02 : ¬ k * 4 = i * 4 + 2 := by omega
  have n03 : ¬ k * 4 = i * 4 + 3 := by omega
  have n10 : ¬ k * 4 + 1 = i * 4 := by omega
  have n12 : ¬ k * 4 + 1 = i * 4 + 2 := by omega
  have n13 : ¬ k * 4 + 1 = i * 4 + 3 := by omega
  have n20 : ¬ k * 4 + 2 = i * 4 := by omega
  have n21 : ¬ k * 4 + 2 = i * 4 + 1 := by omega
  have n23 : ¬ k * 4 + 2 = i * 4 + 3 := by omega
  have n30 : ¬ k * 4 + 3 = i * 4 := by omega
  have n31 : ¬ k * 4 + 3 = i * 4 + 1 := by omega
  have n32 : ¬ k * 4 + 3 = i * 4 + 2 := by omega
  have n00 : ¬ k * 4 = i * 4 := by omega
  have n4 : ¬ k = i := by omega
  go_region_law (fail)
  all_goals
    go_wp2_with fail
    go_end0
    exact ⟨rfl, hs.out.drew, (((((((((Chg.refl _ _).setCell (by simp) _).setCell (by simp) _).setCell (by simp) _).setCell (by simp) _).setCell (by simp) _).setCell (by simp) _).setCell (by simp) _).setCell (by simp) _).drew⟩
set_option maxRecDepth 8000 in
set_option maxHeartbeats 4000000 in
theorem sl_push {w : World} {p o : Nat} {t : TypeId} {cs : Array Value} {l : List Slot} {F : List Nat} (h : HS w p o t cs l F) (x : Slot) (hl : l.length < 1000000) :
    Calls Try.prog 44 #[.pointer (some ⟨p, o, none⟩), .iface 51 (.agg #[.int .i64 x.1, .int .i64 x.2.1, .int .i64 x.2.2.1, .int .i64 x.2.2.2])] w fun e w' => e = .returned (.tuple #[]) ∧ ∃ F', HS w' p o t cs (l ++ [x]) F' ∧ Chg (p :: F) w w' ∧ ∀ g, g ∈ F' → g ∈ F ∨ w.heap.size ≤ g := by
  obtain ⟨i0, hi, j0, j1, j2⟩ := info_parts infoSlot
  obtain ⟨A, c, c0, f0, hb, hf, h1, h2⟩ := h.cell
  obtain ⟨v, -, ho, -, hne⟩ := h
  unfold maxLen at h2
  have ca := cell_al c0
  have hta : ∀ (a b c d : Value) (w : World), (Instr.typeAssert (.iface 51 (.agg #[a, b, c, d])) 20 51 false).run Try.prog w = .ok (.agg #[a, b, c, d]) w := fun a b c d w => by kernel_rfl
  go_enter Try.func44, Try.ntmps44
  go_wp2_with fail
  go_region_law (refine step_append_fix rfl _ _ 26 rfl Try.underlying26 hi j0 j1 j2 rfl (by omega) (n := l.length) (xs := l.flatMap slEnc) (F := F) rfl (hf.alloc _) rfl (Src.one4 rfl) (by simp [Value.oneCell']) (by unfold maxLen; omega) (by omega) ?_; intro v' w1 F1 ha; obtain ⟨g1, k1, rfl, rfl⟩ := ha.head (by omega); have hb1 := (hb.alloc (.cells #[.int .i64 x.1, .int .i64 x.2.1, .int .i64 x.2.2.1, .int .i64 x.2.2.2] 51)).drew.chg ha.chg (hf.ne_blk hb hne); have d0 : w1.cell? ⟨p, o, none⟩ = some (.slice A l.length c) := (by rw [hb1.cell]; simp [ho]); have e0 := hb1.frozen o)
  all_goals
    go_wp2_with fail
    go_end0
    have hq : Chg [p] w1 (w1.setCell ⟨p, o, none⟩ (.slice (some ⟨g1, 0, none⟩) (l.length + 1) k1)) := (Chg.refl _ _).setCell (by simp) _
    refine ⟨rfl, [g1], ⟨.slice (some ⟨g1, 0, none⟩) (l.length + 1) k1, ?_, ho, ?_, hne⟩, ?_, ?_⟩
    · have := hb1.set_ o (.slice (some ⟨g1, 0, none⟩) (l.length + 1) k1)
      simpa using this
    · have := ha.fix.chg hq (ha.fix.not_mem hb1 hne)
      simpa [slEnc] using this
    · exact ((((Chg.refl (p :: F) w).alloc (.cells #[.int .i64 x.1, .int .i64 x.2.1, .int .i64 x.2.2.1, .int .i64 x.2.2.2] 51)).drew.trans ha.chg (by intro g hg; left; simp [hg])).trans hq (by simp))
    · intro g hg
      rcases ha.foot with e | e
      · left; rw [← e]; exact hg
      · right; rw [e] at hg; simp at hg; omega
set_option maxRecDepth 8000 in
set_option maxHeartbeats 4000000 in
theorem sl_pop {w : World} {p o : Nat} {t : TypeId} {cs : Array Value} {l : List Slot} {F : List Nat} (h : HS w p o t cs l F) (h0 : 0 < l.length) (hl : l.length ≤ 1000000) :
    Calls Try.prog 43 #[.pointer (some ⟨p, o, none⟩)] w fun e w' => e = .returned (.iface 51 (.agg #[.int .i64 (nth l (l.length - 1)).1, .int .i64 (nth l (l.length - 1)).2.1, .int .i64 (nth l (l.length - 1)).2.2.1, .int .i64 (nth l (l.length - 1)).2.2.2])) ∧ HS w' p o t cs (l.take (l.length - 1)) F ∧ Chg [p] w w' := by
  obtain ⟨A, c, c0, f0, hb, hf, h1, h2⟩ := h.cell
  obtain ⟨v, -, ho, -, hne⟩ := h
  unfold maxLen at h2
  obtain ⟨m, hm⟩ : ∃ m, l.length = m + 1 := ⟨l.length - 1, by omega⟩
  rw [hm] at c0 hb h1 ⊢
  simp only [Nat.add_sub_cancel] at *
  obtain ⟨g, c', hv, hF, hcl⟩ := hf.elem encLen (by omega) (k := m) (by omega)
  injection hv with hA _ hc
  subst hA hc hF
  have x0 := (hcl 0 (by omega)).1
  have x1 := (hcl 1 (by omega)).1
  have x2 := (hcl 2 (by omega)).1
  have x3 := (hcl 3 (by omega)).1
  simp only [slEnc, List.getElem?_cons_zero, List.getElem?_cons_succ, Nat.add_zero] at x0 x1 x2 x3
  have y0 := cell_al x0
  have y1 := cell_al x1
  have y2 := cell_al x2
  have y3 := cell_al x3
  have c1 := cell_al c0
  have f1 : ∀ o', (w.alloc o').frozen? ⟨p, o, none⟩ = false := fun o' => (hb.alloc o').frozen o
  have hpn : ¬ w.heap.size = p := by have := hb.lt; omega
  have hpn2 : ¬ p = w.heap.size := by have := hb.lt; omega
  clear hcl
  generalize nth l m = x at *
  go_enter Try.func43, Try.ntmps43
  go_wp2_with fail
  go_ret
  have hq : Chg [p] w ((w.alloc (.cells #[.int .i64 x.1, .int .i64 x.2.1, .int .i64 x.2.2.1, .int .i64 x.2.2.2] 51)).setCell ⟨p, o, none⟩ (.slice (some ⟨g, 0, none⟩) m c)) := ((Chg.refl _ _).alloc _).setCell (by simp) _
  have hlm : (l.take m).length = m := by simp; omega
  refine ⟨rfl, ⟨.slice (some ⟨g, 0, none⟩) m c, ?_, ho, ?_, hne⟩, hq⟩
  · have := (hb.alloc (.cells #[.int .i64 x.1, .int .i64 x.2.1, .int .i64 x.2.2.1, .int .i64 x.2.2.2] 51)).set_ o (.slice (some ⟨g, 0, none⟩) m c)
    simpa using this
  · rw [hlm, take_flat encLen]
    exact (hf.shorter (m := m) (by omega)).chg hq (hf.not_mem hb hne)
end Go.Proofs.Ytkpegffoebmhmaa
