/- The cloth's press, snag, beginning and twin. -/
import Derived.Test.YtjbjiomajldkoaaClothE
import Derived.Laws.MakeOwn
namespace Go.Proofs.Ytjbjiomajldkoaa
open Go.RowKit Go.Vx
set_option linter.unusedVariables false
set_option linter.unusedSimpArgs false

def ClothS.done (c : ClothS) : ClothS := { c with pressed := pressTo c.pressed c.loose, loose := [] }
def ClothS.pressS (c : ClothS) : ClothS := if c.going then c.gone.tear c.keep else c.gone.done
section
variable {w w' : World} {p : Nat} {pr lo ke : Value} {c : ClothS} {F G H : List Nat}
theorem press_nil (w : World) : Calls Try.prog 11 #[.pointer none] w fun e w' => e = .returned (.int .i64 1) ∧ w = w' := by
  go_enter Try.func11, Try.ntmps11
  go_wp2_with (go_at_call 26; refine (none_nil _).mono ?_; rintro e w' ⟨rfl, rfl⟩)
  go_ret
  exact ⟨rfl, rfl⟩
theorem press_off (h : ClothAt w p pr lo ke c F G H) (ht : c.torn = true) :
    Calls Try.prog 11 #[.pointer (some ⟨p, 0, none⟩)] w fun e w' => e = .returned (.int .i64 14) ∧ w = w' := by
  have c2 : w.cell? ⟨p, 2, none⟩ = some (.bool c.torn) := h.blk.cell 2
  go_enter Try.func11, Try.ntmps11
  go_wp2_with (go_at_call 26; refine (none_at h).mono ?_; rintro e w' ⟨rfl, rfl⟩)
  go_ret
  exact ⟨rfl, rfl⟩
set_option maxHeartbeats 1000000 in
theorem press_on (h : ClothAt w p pr lo ke c F G H) (ht : c.torn = false) (hl : c.loose.length < 1000000) (hk : c.keep.length ≤ 1000000) (hok : RowsOk c.pressed.length c.loose) (hleft : c.leftOk) :
    Calls Try.prog 11 #[.pointer (some ⟨p, 0, none⟩)] w (ClPost w p pr (p :: (F ++ G)) F G H (.int .i64 c.weaveR) c.pressS) := by
  have c2 : w.cell? ⟨p, 2, none⟩ = some (.bool c.torn) := h.blk.cell 2
  go_enter Try.func11, Try.ntmps11
  go_wp2_with (go_at_call 26; refine (none_at h).mono ?_; rintro e w' ⟨rfl, rfl⟩)
  refine (goes_any h hleft).mono ?_
  rintro e w0 ⟨rfl, h0, hw0⟩
  obtain ⟨K, kc, rfl, -⟩ := id h0.hke
  obtain ⟨L, lc, rfl, -⟩ := id h0.hlo
  have d1 := h0.blk.cell 1
  have d5 := h0.blk.cell 5
  have f1 := h0.blk.frozen 1
  simp at d1 d5
  cases hg : c.going with
  | true =>
    go_wp2_with (go_at_call 13; refine (tear_on h0 ht hok (by rw [gone_loose]; omega) (Fix.src h0.hke) (by rw [gone_keep]; omega)).mono ?_; rintro e w4 ⟨rfl, h4, hw4⟩)
    go_ret
    exact ⟨_, _, _, _, by simp [ClothS.weaveR, hg], by simp only [ClothS.pressS, hg, if_true]; exact h4, (hw0.mono (by simp)).trans hw4 (by intro g hg; left; simp at hg ⊢; rcases hg with hg | hg <;> simp [hg]), by simp, by simp⟩
  | false =>
    go_wp2_with fail
    refine (press_at h0 h0.hlo hok).mono ?_
    rintro e w4 ⟨rfl, h4, hw4⟩
    have d1' := h4.blk.cell 1
    have f1' := h4.blk.frozen 1
    simp at d1'
    go_wp2_with fail
    go_ret
    have hz : Chg [p] w4 (w4.setCell ⟨p, 1, none⟩ (.slice none 0 0)) := (Chg.refl _ _).setCell (by simp) _
    refine ⟨.slice none 0 0, .slice K c.gone.keep.length kc, [], H, by simp [ClothS.weaveR, hg], ?_, ((hw0.mono (by simp)).trans hw4 (by intro g hg; left; simp [hg])).trans hz (by intro g hg; left; simp at hg; simp [hg]), by simp, fun g h => .inl h⟩
    simp only [ClothS.pressS, hg]
    exact ⟨h4.blk.set_ 1 _, h4.hpr.chg hz (h4.hpr.not_mem h4.blk (by decide)), h4.prn, Fix.nil _ _ _, h4.hke.chg hz (h4.hke.not_mem h4.blk (by decide))⟩
theorem snag_nil (w : World) (n : Int) (A : Option Addr) (m k : Nat) : Calls Try.prog 16 #[.pointer none, .int .i64 n, .slice A m k] w fun e w' => e = .returned (.tuple #[]) ∧ w = w' := by
  go_enter Try.func16, Try.ntmps16
  go_wp2
  go_end0
  exact ⟨rfl, rfl⟩
theorem oneBools (l : List Bool) : ∀ u ∈ l.map Value.bool, u.oneCell' = true := by
  intro u hu
  obtain ⟨b, _, rfl⟩ := List.mem_map.1 hu
  rfl
def ClothS.snag (c : ClothS) (n : Int) (keep : List Bool) : ClothS := { c with snagged := decide (0 ≤ n), left := n, keep := keep }
set_option maxHeartbeats 1000000 in
theorem snag_at (h : ClothAt w p pr lo ke c F G H) (n : Int) {A : Option Addr} {m k : Nat} {keep : List Bool} (hs : Src w 1 A m (keep.map .bool)) (hm : m ≤ 1000000) :
    Calls Try.prog 16 #[.pointer (some ⟨p, 0, none⟩), .int .i64 n, .slice A m k] w (ClPost w p pr [p] F G H (.tuple #[]) (c.snag n keep)) := by
  have hkl : keep.length = m := by have := hs.1; simpa using this
  go_enter Try.func16, Try.ntmps16
  go_wp2_with fail
  refine (cloneBools hs (oneBools _) hm).mono ?_
  rintro e w1 ⟨v, H1, rfl, hv, hw1, hH, -⟩
  have h1 := h.chg hw1 (by simp)
  obtain ⟨B, cb, rfl, -⟩ := id hv
  have d3 := h1.blk.cell 3
  have d4 := h1.blk.cell 4
  have d5 := h1.blk.cell 5
  have f3 := h1.blk.frozen 3
  have f4 := h1.blk.frozen 4
  have f5 := h1.blk.frozen 5
  simp at d3 d4 d5
  go_wp2_with fail
  go_end0
  have hz : Chg [p] w1 (((w1.setCell ⟨p, 3, none⟩ (.bool (decide (0 ≤ n)))).setCell ⟨p, 4, none⟩ (.int .i64 n)).setCell ⟨p, 5, none⟩ (.slice B m cb)) := (((Chg.refl _ _).setCell (by simp) _).setCell (by simp) _).setCell (by simp) _
  refine ⟨lo, .slice B m cb, G, H1, rfl, ?_, (hw1.mono (by simp)).trans hz (by simp), fun g h => .inl h, fun g h => .inr (hH g h)⟩
  refine ⟨((h1.blk.set_ 3 _).set_ 4 _).set_ 5 _, h1.hpr.chg hz (h1.hpr.not_mem h1.blk (by decide)), h1.prn, h1.hlo.chg hz (h1.hlo.not_mem h1.blk (by decide)), ?_⟩
  simp only [ClothS.snag, hkl]
  exact hv.chg hz (hv.not_mem h1.blk (by decide))
end
theorem new_at (rows : Int) (w : World) :
    Calls Try.prog 9 #[.int .i64 rows] w fun e w' => ∃ p pr F, e = .returned (.pointer (some ⟨p, 0, none⟩)) ∧ ClothAt w' p pr (.slice none 0 0) (.slice none 0 0) ⟨List.replicate (min (max rows 0) 2000).toNat ⟨#[]⟩, [], false, false, 0, []⟩ F [] [] ∧ Chg [] w w' ∧ (∀ g, g ∈ p :: F → w.heap.size ≤ g) := by
  obtain ⟨i0, hi, hz0, hz1, hz2⟩ := info_parts infoStr
  obtain ⟨N, hN⟩ : ∃ N : Nat, min (max rows 0) 2000 = (N : Int) := ⟨(min (max rows 0) 2000).toNat, by omega⟩
  have hN2 : N ≤ 2000 := by omega
  have hmk := run_make (P := Try.prog) w 41 9 i0 _ Try.underlying41 hi hz0 .i64 .i64 (N : Int) (N : Int) (by omega) (by omega) (by rw [hz2]; omega) (by omega)
  rw [hz1] at hmk
  rw [hN]
  have HN := Lib.hid hN
  clear hN
  go_enter Try.func9, Try.ntmps9
  go_wp2
  rw [HN.out, hmk]
  go_wp2
  go_ret
  have hf := (Fix.made w 9 (.string ⟨#[]⟩) N (by unfold maxLen; omega)).alloc (.cells #[.slice (some ⟨w.heap.size, 0, none⟩) N N, .slice none 0 0, .bool false, .bool false, .int .i64 0, .slice none 0 0] 53)
  have hb := Blk.new (w.alloc (.cells (madeCells #[.string ⟨#[]⟩] N) 9)) 53 #[.slice (some ⟨w.heap.size, 0, none⟩) N N, .slice none 0 0, .bool false, .bool false, .int .i64 0, .slice none 0 0]
  simp only [World.size_alloc] at hb
  refine ⟨w.heap.size + 1, .slice (some ⟨w.heap.size, 0, none⟩) N N, (if N = 0 then [] else [w.heap.size]), rfl, ⟨hb, ?_, ⟨_, _, _, rfl⟩, Fix.nil _ _ _, Fix.nil _ _ _⟩, ((Chg.refl _ _).alloc _).alloc _, ?_⟩
  · simpa using hf
  · intro g hg
    simp only [List.mem_cons] at hg
    rcases hg with rfl | hg
    · omega
    · split at hg
      · simp at hg
      · simp at hg; omega
end Go.Proofs.Ytjbjiomajldkoaa
