/- Marks: put. -/
import Derived.Test.YtggkeageoljegaaMkC
import Derived.Test.YtggkeageoljegaaShelf
import Derived.Deep.RegionLaw
import Derived.Deep.CutBlock
namespace Go.Proofs.Ytggkeageoljegaa
open Go.RowKit Go.Vx Go.Maps
set_option linter.unusedVariables false
set_option linter.unusedSimpArgs false

theorem strClone (s : ByteArray) (w : World) (hs : s.size ≤ 281474976710656) :
    Calls Try.prog 15 #[.string s] w fun e w' => e = .returned (.string s) ∧ Chg [] w w' := by
  go_enter Try.func15, Try.ntmps15
  go_wp2_with (go_at_call 19; refine (Try.stringslite_Clone _ _ hs).mono ?_; rintro e w' ⟨rfl, hb⟩)
  go_ret
  exact ⟨rfl, .of_below hb⟩
theorem map_nil (w : World) : (binOp BinOp.eql 24 (.map none) (.map none)).run Try.prog w = .ok (.bool true) w := by kernel_rfl
theorem map_not_nil (b : Nat) (w : World) : (binOp BinOp.eql 24 (.map (some b)) (.map none)).run Try.prog w = .ok (.bool false) w := by kernel_rfl
set_option maxHeartbeats 4000000 in
theorem mk_put {w : World} {p : Nat} {L : RL} {F : List Nat} (h : RAt w p L F) (hL : L.length < 100000) (s : ByteArray) (hs : s.size ≤ 1000000) (v : Int) (hw : (Lit.int .i64 v).wf = true) :
    Calls Try.prog 11 #[.pointer (some ⟨p, 0, none⟩), .string s, .int .i64 v] w fun e w' => e = .returned (.tuple #[]) ∧ ∃ F', RAt w' p (putR L s.data.toList v) F' ∧ (∀ g, g ∈ F' → g ∈ F ∨ w.heap.size ≤ g) ∧ Chg (p :: F) w w' := by
  have hsm : s.size ≤ maxLen := by unfold maxLen; omega
  have hmm := @run_makeMap Try.prog
  have hn1 := map_nil
  have hn2 := map_not_nil
  have hcl := fun w => strClone s w (by omega)
  have hlt := h.lt
  go_enter Try.func11, Try.ntmps11
  rcases h with ⟨hb0, rfl, rfl⟩ | ⟨b, hb, hm, rfl⟩
  · have c0 : w.cell? ⟨p, 0, none⟩ = some (.map none) := hb0.cell 0
    have c0a := cell_al c0
    have hpl := hb0.lt
    have f0a : ∀ o, (w.alloc o).frozen? ⟨p, 0, none⟩ = false := fun o => (hb0.alloc o).frozen 0
    obtain ⟨W, hW⟩ : ∃ W, W = (w.setCell ⟨p, 0, none⟩ (.map (some w.heap.size))) := ⟨_, rfl⟩
    have hWs : W.heap.size = w.heap.size := by rw [hW]; simp [World.setCell]
    have hm : RMap (W.alloc (.map #[] 0)) w.heap.size [] := by rw [← hWs]; exact World.ownsMap_made W Try.prog 9 _
    have hb : Blk (W.alloc (.map #[] 0)) p 26 #[.map (some w.heap.size)] := by rw [hW]; exact (hb0.set_ 0 _).alloc _
    have hpb : p ≠ w.heap.size := by omega
    have hz : Chg [p] w (W.alloc (.map #[] 0)) := by rw [hW]; exact ((Chg.refl _ _).setCell (.inl (by simp)) _).alloc _
    have hbF : w.heap.size ∈ ([] : List Nat) ∨ w.heap.size ≤ w.heap.size := .inr (Nat.le_refl _)
    subst hW
    clear hWs
    go_wp2_with fail
    go_region_law (go_simp; go_at_call 15; refine (hcl _).mono ?_; rintro e w1 ⟨rfl, hc1⟩; have hm1 := (hm.chg (Chg.refl [] ((w.setCell ⟨p, 0, none⟩ (.map (some w.heap.size))).alloc (.map #[] 0))).drew (by simp)).chg hc1 (by simp); obtain ⟨w2, hr2, hm2, hc2⟩ := hm1.store hsm (by omega) hw; have c1 : w1.cell? ⟨p, 0, none⟩ = some (.map (some w.heap.size)) := (hb.drew.chg hc1 (by simp)).cell 0)
    all_goals
      go_wp2_with fail
      go_end0
      have hzz := hz.size
      have hz2 : Chg (p :: []) w w2 := (hz.drew.trans' ((hc1.mono (by simp)))).trans hc2 (fun g hg => by
        obtain rfl : g = w.heap.size := by simpa using hg
        rcases hbF with h | h
        · exact .inl (by simp [h])
        · exact .inr h)
      refine ⟨by trivial, [w.heap.size], .inr ⟨w.heap.size, (hb.drew.chg hc1 (by simp)).chg hc2 (by simpa using hpb), hm2, rfl⟩, ?_, hz2⟩
      intro g hg
      obtain rfl : g = w.heap.size := by simpa using hg
      exact hbF
  · have c0 : w.cell? ⟨p, 0, none⟩ = some (.map (some b)) := hb.cell 0
    have hpb : p ≠ b := by
      rintro rfl
      have h1 := hb
      obtain ⟨es, clock, h2, -⟩ := hm
      unfold Blk at h1
      rw [h1] at h2
      injection h2 with h2
      cases h2
    have hz : Chg (p :: [b]) w w := Chg.refl _ _
    have hbF : b ∈ [b] ∨ w.heap.size ≤ b := .inl (by simp)
    go_wp2_with fail
    go_region_law (go_simp; go_at_call 15; refine (hcl _).mono ?_; rintro e w1 ⟨rfl, hc1⟩; have hm1 := (hm.chg (Chg.refl [] w).drew (by simp)).chg hc1 (by simp); obtain ⟨w2, hr2, hm2, hc2⟩ := hm1.store hsm (by omega) hw; have c1 : w1.cell? ⟨p, 0, none⟩ = some (.map (some b)) := (hb.drew.chg hc1 (by simp)).cell 0)
    all_goals
      go_wp2_with fail
      go_end0
      have hzz := hz.size
      have hz2 : Chg (p :: [b]) w w2 := (hz.drew.trans' ((hc1.mono (by simp)))).trans hc2 (fun g hg => by
        obtain rfl : g = b := by simpa using hg
        rcases hbF with h | h
        · exact .inl (by simp [h])
        · exact .inr h)
      refine ⟨by trivial, [b], .inr ⟨b, (hb.drew.chg hc1 (by simp)).chg hc2 (by simpa using hpb), hm2, rfl⟩, ?_, hz2⟩
      intro g hg
      obtain rfl : g = b := by simpa using hg
      exact hbF
end Go.Proofs.Ytggkeageoljegaa
