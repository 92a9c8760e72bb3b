/- The money's heap: its swap, push, pop. -/
import Derived.Test.YtlkmdmaemjfelaaCutM
import Derived.Deep.RegionLaw
namespace Go.Proofs.Ytlkmdmaemjfelaa
open Go.RowKit Go.Vx
set_option linter.unusedVariables false
set_option linter.unusedSimpArgs false

set_option maxHeartbeats 4000000 in
theorem ct_swap {w : World} {v : Value} {l : List Cut} {F : List Nat} (h : Fix w 66 2 v l.length (l.flatMap cutEnc) F) {i k : Nat} (hi : i < l.length) (hk : k < l.length) (hl : l.length ≤ 1000000) :
    Calls Try.prog 116 #[v, .int .i64 i, .int .i64 k] w fun e w' => e = .returned (.tuple #[]) ∧ Fix w' 66 2 v (swapAt l i k).length ((swapAt l i k).flatMap cutEnc) F ∧ Chg F w w' := by
  obtain ⟨g, c, rfl, rfl, hci⟩ := h.elem encLen (by omega) hi
  obtain ⟨g', c', hv, hF, hck⟩ := h.elem encLen (by omega) hk
  obtain rfl : g = g' := by simpa using hF
  obtain ⟨i0, fi0⟩ := hci 0 (by omega)
  obtain ⟨i1, fi1⟩ := hci 1 (by omega)
  obtain ⟨k0, fk0⟩ := hck 0 (by omega)
  obtain ⟨k1, fk1⟩ := hck 1 (by omega)
  simp only [cutEnc, List.getElem?_cons_zero, List.getElem?_cons_succ, Nat.add_zero] at i0 i1 k0 k1 fi0 fk0
  have e1 := set_flat2 encLen l i hi (nth l k) rfl
  have e2 := set_flat2 encLen (l.set i (nth l k)) k (by simpa using hk) (nth l i) rfl
  have hs : Hid (Fix (((((w.setCell ⟨g, i * 2, none⟩ (.int .u64 (nth l k).1)).setCell ⟨g, i * 2 + 1, none⟩ (.int .i64 (nth l k).2)).setCell ⟨g, k * 2, none⟩ (.int .u64 (nth l i).1)).setCell ⟨g, k * 2 + 1, none⟩ (.int .i64 (nth l i).2))) 66 2 (.slice (some ⟨g, 0, none⟩) l.length c) (swapAt l i k).length ((swapAt l i k).flatMap cutEnc) [g]) := by
    have := (((h.store rfl (i * 2) (.int .u64 (nth l k).1)).store rfl (i * 2 + 1) (.int .i64 (nth l k).2)).store rfl (k * 2) (.int .u64 (nth l i).1)).store rfl (k * 2 + 1) (.int .i64 (nth l i).2)
    show Fix _ _ _ _ _ _ _
    rw [length_swap, swapAt, ← e2, ← e1]
    exact this
  clear e1 e2 hci hck h hv hF
  generalize hsw : (swapAt l i k).length = n2 at hs ⊢
  generalize (swapAt l i k).flatMap cutEnc = xs at hs ⊢
  have hxy : i = k → nth l i = nth l k := by rintro rfl; rfl
  generalize nth l i = x at *
  generalize nth l k = y at *
  clear hsw
  generalize l.length = n at *
  go_enter Try.func116, Try.ntmps116
  go_wp2_with fail
  by_cases hik : i = k
  · obtain rfl := hxy hik
    subst hik
    go_region_law (fail)
    all_goals
      go_wp2_with fail
      go_end0
      exact ⟨rfl, hs.out.drew, ((((((Chg.refl _ _).setCell (by simp) _).setCell (by simp) _).setCell (by simp) _).setCell (by simp) _)).drew⟩
  have n1 : ¬ k * 2 = i * 2 := by omega
  have n2' : ¬ k * 2 = i * 2 + 1 := by omega
  have n3 : ¬ k * 2 + 1 = i * 2 := by omega
  have n4 : ¬ k = i := by omega
  go_region_law (fail)
  all_goals
    go_wp2_with fail
    go_end0
    exact ⟨rfl, hs.out.drew, ((((((Chg.refl _ _).setCell (by simp) _).setCell (by simp) _).setCell (by simp) _).setCell (by simp) _)).drew⟩
set_option maxHeartbeats 4000000 in
theorem ct_push {w : World} {p o : Nat} {t : TypeId} {cs : Array Value} {l : List Cut} {F : List Nat} (h : HC w p o t cs l F) (x : Cut) (hl : l.length < 1000000) :
    Calls Try.prog 118 #[.pointer (some ⟨p, o, none⟩), .iface 66 (.agg #[.int .u64 x.1, .int .i64 x.2])] w fun e w' => e = .returned (.tuple #[]) ∧ ∃ F', HC w' p o t cs (l ++ [x]) F' ∧ Chg (p :: F) w w' ∧ ∀ g, g ∈ F' → g ∈ F ∨ w.heap.size ≤ g := by
  obtain ⟨i0, hi, j0, j1, j2⟩ := info_parts infoCut
  obtain ⟨A, c, c0, f0, hb, hf, h1, h2⟩ := h.cell
  obtain ⟨v, -, ho, -, hne⟩ := h
  unfold maxLen at h2
  have ca := cell_al c0
  have hta : ∀ (a b : Value) (w : World), (Instr.typeAssert (.iface 66 (.agg #[a, b])) 20 66 false).run Try.prog w = .ok (.agg #[a, b]) w := fun a b w => by kernel_rfl
  go_enter Try.func118, Try.ntmps118
  go_wp2_with fail
  go_region_law (refine step_append_fix rfl _ _ 59 rfl Try.underlying59 hi j0 j1 j2 rfl (by omega) (n := l.length) (xs := l.flatMap cutEnc) (F := F) rfl (hf.alloc _) rfl (Src.one2 rfl) (by simp [Value.oneCell']) (by unfold maxLen; omega) (by omega) ?_; intro v' w1 F1 ha; obtain ⟨g1, k1, rfl, rfl⟩ := ha.head (by omega); have hb1 := (hb.alloc (.cells #[.int .u64 x.1, .int .i64 x.2] 66)).drew.chg ha.chg (hf.ne_blk hb hne); have d0 : w1.cell? ⟨p, o, none⟩ = some (.slice A l.length c) := (by rw [hb1.cell]; simp [ho]); have e0 := hb1.frozen o)
  all_goals
    go_wp2_with fail
    go_end0
    have hq : Chg [p] w1 (w1.setCell ⟨p, o, none⟩ (.slice (some ⟨g1, 0, none⟩) (l.length + 1) k1)) := (Chg.refl _ _).setCell (by simp) _
    refine ⟨rfl, [g1], ⟨.slice (some ⟨g1, 0, none⟩) (l.length + 1) k1, ?_, ho, ?_, hne⟩, ?_, ?_⟩
    · have := hb1.set_ o (.slice (some ⟨g1, 0, none⟩) (l.length + 1) k1)
      simpa using this
    · have := ha.fix.chg hq (ha.fix.not_mem hb1 hne)
      simpa [cutEnc] using this
    · exact ((((Chg.refl (p :: F) w).alloc (.cells #[.int .u64 x.1, .int .i64 x.2] 66)).drew.trans ha.chg (by intro g hg; left; simp [hg])).trans hq (by simp))
    · intro g hg
      rcases ha.foot with e | e
      · left; rw [← e]; exact hg
      · right; rw [e] at hg; simp at hg; omega
set_option maxHeartbeats 4000000 in
theorem ct_pop {w : World} {p o : Nat} {t : TypeId} {cs : Array Value} {l : List Cut} {F : List Nat} (h : HC w p o t cs l F) (h0 : 0 < l.length) (hl : l.length ≤ 1000000) :
    Calls Try.prog 117 #[.pointer (some ⟨p, o, none⟩)] w fun e w' => e = .returned (.iface 66 (.agg #[.int .u64 (nth l (l.length - 1)).1, .int .i64 (nth l (l.length - 1)).2])) ∧ HC w' p o t cs (l.take (l.length - 1)) F ∧ Chg [p] w w' := by
  obtain ⟨A, c, c0, f0, hb, hf, h1, h2⟩ := h.cell
  obtain ⟨v, -, ho, -, hne⟩ := h
  unfold maxLen at h2
  obtain ⟨m, hm⟩ : ∃ m, l.length = m + 1 := ⟨l.length - 1, by omega⟩
  rw [hm] at c0 hb h1 ⊢
  simp only [Nat.add_sub_cancel] at *
  obtain ⟨g, c', hv, hF, hcl⟩ := hf.elem encLen (by omega) (k := m) (by omega)
  injection hv with hA _ hc
  subst hA hc hF
  have x0 := (hcl 0 (by omega)).1
  have x1 := (hcl 1 (by omega)).1
  simp only [cutEnc, List.getElem?_cons_zero, List.getElem?_cons_succ, Nat.add_zero] at x0 x1
  have y0 := cell_al x0
  have y1 := cell_al x1
  have c1 := cell_al c0
  have f1 : ∀ o', (w.alloc o').frozen? ⟨p, o, none⟩ = false := fun o' => (hb.alloc o').frozen o
  have hpn : ¬ w.heap.size = p := by have := hb.lt; omega
  have hpn2 : ¬ p = w.heap.size := by have := hb.lt; omega
  clear hcl
  generalize nth l m = x at *
  go_enter Try.func117, Try.ntmps117
  go_wp2_with fail
  go_ret
  have hq : Chg [p] w ((w.alloc (.cells #[.int .u64 x.1, .int .i64 x.2] 66)).setCell ⟨p, o, none⟩ (.slice (some ⟨g, 0, none⟩) m c)) := ((Chg.refl _ _).alloc _).setCell (by simp) _
  have hlm : (l.take m).length = m := by simp; omega
  refine ⟨rfl, ⟨.slice (some ⟨g, 0, none⟩) m c, ?_, ho, ?_, hne⟩, hq⟩
  · have := (hb.alloc (.cells #[.int .u64 x.1, .int .i64 x.2] 66)).set_ o (.slice (some ⟨g, 0, none⟩) m c)
    simpa using this
  · rw [hlm, take_flat encLen]
    exact (hf.shorter (m := m) (by omega)).chg hq (hf.not_mem hb hne)
end Go.Proofs.Ytlkmdmaemjfelaa
