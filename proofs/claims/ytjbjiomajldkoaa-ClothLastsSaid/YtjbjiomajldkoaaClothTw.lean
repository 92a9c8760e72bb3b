/- The cloth's twin. -/
import Derived.Test.YtjbjiomajldkoaaClothV
namespace Go.Proofs.Ytjbjiomajldkoaa
open Go.RowKit Go.Vx
set_option linter.unusedVariables false
set_option linter.unusedSimpArgs false
section
variable {w w' : World} {p : Nat} {pr lo ke : Value} {c : ClothS} {F G H : List Nat}
theorem twin_nil (w : World) : Calls Try.prog 20 #[.pointer none] w fun e w' => e = .returned (.pointer none) ∧ w = w' := by
  go_enter Try.func20, Try.ntmps20
  go_wp2
  go_ret
  exact ⟨rfl, rfl⟩
set_option maxHeartbeats 4000000 in
theorem twin_at (h : ClothAt w p pr lo ke c F G H) (h1 : c.pressed.length ≤ 1000000) (h2 : c.loose.length ≤ 1000000) (h3 : c.keep.length ≤ 1000000) :
    Calls Try.prog 20 #[.pointer (some ⟨p, 0, none⟩)] w fun e w' => ∃ q, e = .returned (.pointer (some ⟨q, 0, none⟩)) ∧ ∃ pr' lo' ke' F' G' H', ClothAt w' q pr' lo' ke' c F' G' H' ∧ Chg [] w w' ∧ ∀ g, g ∈ q :: (F' ++ G' ++ H') → w.heap.size ≤ g := by
  obtain ⟨A, nA, mA, rfl⟩ := h.prn
  obtain rfl : nA = c.pressed.length := by
    obtain ⟨_, _, hv, -⟩ := h.hpr
    injection hv
  obtain ⟨B, mB, rfl, -⟩ := id h.hlo
  obtain ⟨K, mK, rfl, -⟩ := id h.hke
  have c0 : w.cell? ⟨p, 0, none⟩ = some (.slice (some A) c.pressed.length mA) := h.blk.cell 0
  have c1 : w.cell? ⟨p, 1, none⟩ = some (.slice B c.loose.length mB) := h.blk.cell 1
  have c2 : w.cell? ⟨p, 2, none⟩ = some (.bool c.torn) := h.blk.cell 2
  have c3 : w.cell? ⟨p, 3, none⟩ = some (.bool c.snagged) := h.blk.cell 3
  have c4 : w.cell? ⟨p, 4, none⟩ = some (.int .i64 c.left) := h.blk.cell 4
  have c5 : w.cell? ⟨p, 5, none⟩ = some (.slice K c.keep.length mK) := h.blk.cell 5
  go_enter Try.func20, Try.ntmps20
  go_wp2_with fail
  have h0 := h.alloc (.cells #[.slice (some A) c.pressed.length mA, .slice B c.loose.length mB, .bool c.torn, .bool c.snagged, .int .i64 c.left, .slice K c.keep.length mK] 53)
  have hb0 := Blk.new w 53 #[.slice (some A) c.pressed.length mA, .slice B c.loose.length mB, .bool c.torn, .bool c.snagged, .int .i64 c.left, .slice K c.keep.length mK]
  have hw0 : Chg [] w (w.alloc (.cells #[.slice (some A) c.pressed.length mA, .slice B c.loose.length mB, .bool c.torn, .bool c.snagged, .int .i64 c.left, .slice K c.keep.length mK] 53)) := (Chg.refl _ _).alloc _
  clear c0 c1 c2 c3 c4 c5
  generalize (w.alloc (.cells #[.slice (some A) c.pressed.length mA, .slice B c.loose.length mB, .bool c.torn, .bool c.snagged, .int .i64 c.left, .slice K c.keep.length mK] 53)) = W at h0 hb0 hw0 ⊢
  generalize hq : w.heap.size = q at hb0 ⊢
  have c0 : W.cell? ⟨p, 0, none⟩ = some (.slice (some A) c.pressed.length mA) := h0.blk.cell 0
  have c1 : W.cell? ⟨p, 1, none⟩ = some (.slice B c.loose.length mB) := h0.blk.cell 1
  have c5 : W.cell? ⟨p, 5, none⟩ = some (.slice K c.keep.length mK) := h0.blk.cell 5
  go_region_law (first
    | (go_simp; go_at_call 31; refine (cloneStrs (xs := c.pressed.map .string) (Fix.src h0.hpr.drew) (by intro u hu; obtain ⟨b, _, rfl⟩ := List.mem_map.1 hu; rfl) h1).mono ?_; rintro e w1 ⟨v1, F1, rfl, hv1, hw1, hF1, hA1⟩; obtain ⟨a1, m1, rfl⟩ := hA1 (by simp); have k1 := (h0.chg (S := []) (Chg.refl _ _).drew (by simp)).chg hw1 (by simp); have d1 : w1.cell? ⟨p, 1, none⟩ = some (.slice B c.loose.length mB) := k1.blk.cell 1; have d5 : w1.cell? ⟨p, 5, none⟩ = some (.slice K c.keep.length mK) := k1.blk.cell 5)
    | (go_simp; go_at_call 32; refine (cloneThreads (xs := threadCells c.loose) (Fix.src k1.hlo) (oneThreads _) h2).mono ?_; rintro e w2 ⟨v2, F2, rfl, hv2, hw2, hF2, -⟩; obtain ⟨A2, m2, rfl, -⟩ := id hv2; have k2 := k1.chg hw2 (by simp); have e5 : w2.cell? ⟨p, 5, none⟩ = some (.slice K c.keep.length mK) := k2.blk.cell 5)
    | (go_simp; go_at_call 29; refine (cloneBools (xs := c.keep.map .bool) (Fix.src k2.hke) (oneBools _) h3).mono ?_; rintro e w3 ⟨v3, F3, rfl, hv3, hw3, hF3, -⟩; obtain ⟨A3, m3, rfl, -⟩ := id hv3; have hb3 := ((hb0.drew.chg hw1 (by simp)).chg hw2 (by simp)).chg hw3 (by simp); have q0 : w3.cell? ⟨q, 0, none⟩ = some (.slice (some A) c.pressed.length mA) := hb3.cell 0; have q1 : w3.cell? ⟨q, 1, none⟩ = some (.slice B c.loose.length mB) := hb3.cell 1; have q5 : w3.cell? ⟨q, 5, none⟩ = some (.slice K c.keep.length mK) := hb3.cell 5; have g0 := hb3.frozen 0; have g1 := hb3.frozen 1; have g5 := hb3.frozen 5))
  all_goals
    go_wp2_with fail
    go_ret
    have hz : Chg [q] w3 (((w3.setCell ⟨q, 0, none⟩ (.slice (some a1) c.pressed.length m1)).setCell ⟨q, 1, none⟩ (.slice A2 c.loose.length m2)).setCell ⟨q, 5, none⟩ (.slice A3 c.keep.length m3)) := (((Chg.refl _ _).setCell (by simp) _).setCell (by simp) _).setCell (by simp) _
    have r1 := (hv1.chg hw2 (by simp)).chg hw3 (by simp)
    have r2 := hv2.chg hw3 (by simp)
    have s0 := hw0.size
    have s1 : W.heap.size ≤ w1.heap.size := hw1.size
    have s2 := hw2.size
    have s3 := hw3.size
    refine ⟨q, rfl, .slice (some a1) c.pressed.length m1, .slice A2 c.loose.length m2, .slice A3 c.keep.length m3, F1, F2, F3, ⟨((hb3.set_ 0 _).set_ 1 _).set_ 5 _, r1.chg hz (r1.not_mem hb3 (by decide)), ⟨_, _, _, rfl⟩, r2.chg hz (r2.not_mem hb3 (by decide)), hv3.chg hz (hv3.not_mem hb3 (by decide))⟩, ?_, ?_⟩
    · exact (((hw0.drew.trans' hw1).trans' hw2).trans' hw3).trans hz (by intro g hg; simp at hg; right; omega)
    · intro g hg
      simp only [List.mem_cons, List.mem_append] at hg
      rcases hg with hg | (hg | hg) | hg
      · omega
      · have : W.heap.size ≤ g := hF1 g hg
        omega
      · have := hF2 g hg; omega
      · have := hF3 g hg; omega
end
end Go.Proofs.Ytjbjiomajldkoaa
