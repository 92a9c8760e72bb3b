/- The cloth's press: threads are laid upon rows. -/
import Derived.Test.YtjbjiomajldkoaaClothA
import Derived.StillTailTactics
namespace Go.Proofs.Ytjbjiomajldkoaa
open Go.RowKit Go.Vx
set_option linter.unusedVariables false
set_option linter.unusedSimpArgs false

def pressTo (pr : List ByteArray) (l : List (Int × ByteArray)) : List ByteArray := l.foldl (fun q t => q.set t.1.toNat t.2) pr
theorem pressTo_length (l : List (Int × ByteArray)) : ∀ pr, (pressTo pr l).length = pr.length := by
  induction l with
  | nil => intro pr; rfl
  | cons t l ih => intro pr; rw [show pressTo pr (t :: l) = pressTo (pr.set t.1.toNat t.2) l from rfl, ih]; simp
theorem pressTo_snoc (pr : List ByteArray) (l : List (Int × ByteArray)) (t : Int × ByteArray) : pressTo pr (l ++ [t]) = (pressTo pr l).set t.1.toNat t.2 := by
  simp [pressTo]
theorem threadCells_at (l : List (Int × ByteArray)) : ∀ (k : Nat) (h : k < l.length), (threadCells l)[k * 2 + 0]? = some (.int .i64 l[k].1) ∧ (threadCells l)[k * 2 + 1]? = some (.string l[k].2) := by
  induction l with
  | nil => intro k h; simp at h
  | cons t l ih =>
    intro k h
    cases k with
    | zero => simp [threadCells]
    | succ k =>
      have h2 : k < l.length := by simpa using h
      obtain ⟨a, b⟩ := ih k h2
      have e : threadCells (t :: l) = [.int .i64 t.1, .string t.2] ++ threadCells l := rfl
      rw [e]
      refine ⟨?_, ?_⟩
      · rw [List.getElem?_append_right (by simp; omega)]
        simpa [show (k + 1) * 2 - 2 = k * 2 by omega] using a
      · rw [List.getElem?_append_right (by simp; omega)]
        simpa [show (k + 1) * 2 + 1 - 2 = k * 2 + 1 by omega] using b

/-- All rows of threads are there. -/
def RowsOk (m : Nat) (l : List (Int × ByteArray)) : Prop := ∀ t, t ∈ l → 0 ≤ t.1 ∧ t.1 < (m : Int)

section
variable {w w' : World} {p : Nat} {pr lo ke : Value} {c : ClothS} {F G H : List Nat}
set_option maxHeartbeats 400000 in
theorem press_at (h : ClothAt w p pr lo ke c F G H) {lv : Value} {l : List (Int × ByteArray)} {L : List Nat} (hL : Fix w 57 2 lv l.length (threadCells l) L) (hr : RowsOk c.pressed.length l) :
    Calls Try.prog 27 #[.pointer (some ⟨p, 0, none⟩), lv] w fun e w' => e = .returned (.tuple #[]) ∧ ClothAt w' p pr lo ke { c with pressed := pressTo c.pressed l } F G H ∧ Chg F w w' := by
  have hL0 := hL
  obtain ⟨A, cap, rfl, -, hn, hm, -⟩ := hL0
  unfold maxLen at hm
  go_enter Try.func27, Try.ntmps27
  go_wp2
  go_loopw [8] (fun i wr => ∃ k : Nat, k ≤ l.length ∧ i = .int .i64 k ∧ ClothAt wr p pr lo ke { c with pressed := pressTo c.pressed (l.take k) } F G H ∧ Fix wr 57 2 (.slice A l.length cap) l.length (threadCells l) L ∧ Chg F w wr) (fun i _ => l.length - (intOf i).toNat)
  case atStart => exact ⟨0, Nat.zero_le _, rfl, h, hL, Chg.refl _ _⟩
  case round =>
    obtain ⟨k, hk, rfl, hc, hl, hw⟩ := hrel
    by_cases hlt : k < l.length
    · obtain ⟨g, rfl, rfl, hel⟩ := hl.el hlt
      have d0 := (hel 0 (by omega)).1
      have d1 := (hel 1 (by omega)).1
      have c0 : wr.cell? ⟨p, 0, none⟩ = some pr := hc.blk.cell 0
      obtain ⟨r0, r1⟩ := hr l[k] (List.getElem_mem hlt)
      rw [(threadCells_at l k hlt).1] at d0
      rw [(threadCells_at l k hlt).2] at d1
      rw [Nat.add_zero] at d0
      have HS : Hid (pressTo c.pressed (l.take (k + 1)) = (pressTo c.pressed (l.take k)).set l[k].1.toNat l[k].2) := by
        rw [List.take_succ_eq_append_getElem hlt]; exact pressTo_snoc _ _ _
      clear hel hr
      generalize l[k].1 = row at *
      generalize l[k].2 = s at *
      have hpl : (pressTo c.pressed (l.take k)).length = c.pressed.length := pressTo_length _ _
      go_wp2
      have hc1 := hc.alloc (.cells #[.int .i64 row, .string s] 57)
      have hb1 : Blk (wr.alloc (.cells #[.int .i64 row, .string s] 57)) wr.heap.size 57 #[.int .i64 row, .string s] := Blk.new _ _ _
      have hl1 := hl.alloc (.cells #[.int .i64 row, .string s] 57)
      have hw1 := hw.alloc (.cells #[.int .i64 row, .string s] 57)
      generalize wr.alloc (.cells #[.int .i64 row, .string s] 57) = W1 at hc1 hb1 hl1 hw1 ⊢
      generalize wr.heap.size = B at hb1 ⊢
      clear hc hl hw c0 d0 d1
      have hpr1 := hc1.hpr
      simp only [hpl] at hpr1
      obtain ⟨ri, rfl⟩ := Int.eq_ofNat_of_zero_le r0
      have hri : ri < c.pressed.length := by omega
      obtain ⟨A, pm, rfl, -, hm1, hm2, -⟩ := id hpr1
      unfold maxLen at hm2
      obtain ⟨gp, rfl, rfl, hep⟩ := hpr1.el hri
      obtain ⟨dp, fp⟩ := hep 0 (by omega)
      rw [List.getElem?_eq_getElem (by simp; omega)] at dp
      simp only [Nat.mul_one, Nat.add_zero] at dp fp
      have c0 := hc1.blk.cell 0
      have t0 := hb1.cell 0
      have t1 := hb1.cell 1
      simp at c0 t0 t1
      clear hep
      go_still_tail 9, (by kernel_rfl)
      change wpList _ _ _ _ _ W1.drew
      go_wp2
      go_roundw
      case measure => simp [intOf]; omega
      case rel =>
        refine ⟨k + 1, by omega, by go_num, ?_, ?_, ?_⟩
        · rw [HS.out]
          have hq := (hpr1.store rfl ri (.string s)).drew
          refine ⟨hc1.blk.drew.far (by have := hc1.hpr.ne_blk hc1.blk (by decide); simpa using this) _, ?_, hc1.prn, ?_, ?_⟩
          · simpa [List.map_set, hpl] using hq
          · exact hc1.hlo.drew.chg (S := [gp]) ((Chg.refl _ _).setCell (by simp) _) (hc1.hlo.disj hc1.hpr (by decide))
          · exact hc1.hke.drew.chg (S := [gp]) ((Chg.refl _ _).setCell (by simp) _) (hc1.hke.disj hc1.hpr (by decide))
        · exact hl1.drew.chg (S := [gp]) ((Chg.refl _ _).setCell (by simp) _) (hl1.disj hc1.hpr (by decide))
        · exact hw1.drew.setCell (by simp) _
    · have hk2 : k = l.length := by omega
      go_wp2
      go_end0
      subst hk2
      rw [List.take_length] at hc
      exact ⟨rfl, hc, hw⟩
end
end Go.Proofs.Ytjbjiomajldkoaa
