/- Term: a month's text; the table of the library's that it reads. -/
import Derived.Test.YtpiaijnjglhggaaGreatDoorTmB
import Derived.Test.YtpiaijnjglhggaaGreatDoorShelf
import Derived.Lib.LaidTab
import Derived.Lib.SmallJoins
namespace Go.Proofs.YtpiaijnjglhggaaGreatDoor
open Go.RowKit Go.Vx
set_option linter.unusedVariables false
set_option linter.unusedSimpArgs false

/-- The library's powers of ten are laid. -/
def Tab (w : World) : Prop := Lib.TabIs Tryz.prog w "internal/strconv.uint64pow10" .u64 Lib.pow10Tab
theorem tab_global : ∃ g, Tryz.prog.globalNamed "internal/strconv.uint64pow10" = some g := Option.isSome_iff_exists.1 (by kernel_rfl)
theorem Tab.chg {w w' : World} (h : Tab w) (k : Chg [] w w') : Tab w' := by
  obtain ⟨g, hg⟩ := tab_global
  exact Go.Joins.tab_stays hg h k.below (Nat.le_refl _)
theorem chg_below {w w' : World} (h : Below w.heap.size w w') : Chg [] w w' := .of_below h
theorem chg_grow {w w' : World} {k : Nat} {os : Array Obj} (h : w' = Sort.grow (w.drewN k) os) : Chg [] w w' := by
  subst h
  refine ⟨rfl, rfl, rfl, by simp [Sort.grow, World.drewN], fun i hi _ => ?_⟩
  simp only [Sort.grow, World.drewN]
  rw [Array.getElem?_append_left (by simpa using hi)]
theorem tm_itoa {w : World} (h : Tab w) (n : Int) (h0 : 0 ≤ n) (h1 : n ≤ 9999) :
    Calls Tryz.prog 56 #[.int .i64 n] w fun e w' => e = .returned (.string ⟨(Lib.itoa n).toArray⟩) ∧ Chg [] w w' :=
  (Tryz.strconv_Itoa n (by omega) (by omega) w h).mono fun e w' h => ⟨h.1, by obtain ⟨k, os, h2⟩ := h.2; exact chg_grow h2⟩
theorem tm_repeat0 (w : World) : Calls Tryz.prog 57 #[.string ⟨#[48]⟩, .int .i64 0] w fun e w' => e = .returned (.string ⟨#[]⟩) ∧ w = w' :=
  (Tryz.strings_Repeat_zero ⟨#[48]⟩ w).mono fun e w' h => ⟨h.1, h.2.symm⟩
theorem tm_repeat1 (w : World) : Calls Tryz.prog 57 #[.string ⟨#[48]⟩, .int .i64 1] w fun e w' => e = .returned (.string ⟨#[48]⟩) ∧ w = w' :=
  (Tryz.strings_Repeat_one ⟨#[48]⟩ w).mono fun e w' h => ⟨h.1, h.2.symm⟩
/-- The text of a number. -/
def numC (n : Int) : ByteArray := ⟨(Lib.itoa n).toArray⟩
/-- The text of a month. -/
def textC (p : Int) : ByteArray := if okM p then ((numC (yearC p) ++ ⟨#[45]⟩) ++ (if monthC p < 10 then ⟨#[48]⟩ else ⟨#[]⟩)) ++ numC (monthC p) else ⟨#[]⟩
theorem size_num1 (n : Int) (h0 : 0 ≤ n) (h1 : n < 10) : (numC n).size = 1 := by
  obtain ⟨m, rfl⟩ := Int.eq_ofNat_of_zero_le h0
  have : m < 10 := by omega
  show (Lib.itoa (m : Int)).toArray.size = 1
  unfold Lib.itoa
  rw [if_neg (by omega), Int.toNat_natCast, Lib.decDigits, dif_pos this]
  rfl
theorem size_num2 (n : Int) (h0 : 10 ≤ n) (h1 : n < 100) : (numC n).size = 2 := by
  obtain ⟨m, rfl⟩ := Int.eq_ofNat_of_zero_le (show 0 ≤ n by omega)
  show (Lib.itoa (m : Int)).toArray.size = 2
  unfold Lib.itoa
  rw [if_neg (by omega), Int.toNat_natCast, Lib.decDigits, dif_neg (by omega), Lib.decDigits, dif_pos (by omega)]
  rfl
theorem size_num4 (n : Int) (h0 : 1000 ≤ n) (h1 : n < 10000) : (numC n).size = 4 := by
  obtain ⟨m, rfl⟩ := Int.eq_ofNat_of_zero_le (show 0 ≤ n by omega)
  show (Lib.itoa (m : Int)).toArray.size = 4
  unfold Lib.itoa
  rw [if_neg (by omega), Int.toNat_natCast, Lib.decDigits, dif_neg (by omega), Lib.decDigits, dif_neg (by omega), Lib.decDigits, dif_neg (by omega), Lib.decDigits, dif_pos (by omega)]
  rfl
set_option maxRecDepth 8000 in
set_option maxHeartbeats 1000000 in
theorem tm_text {w : World} (ht : Tab w) (p : Int) : Calls Tryz.prog 10 #[.int .i64 p] w fun e w' => e = .returned (.string (textC p)) ∧ Chg [] w w' := by
  cases hp : okM p with
  | false =>
    have hfin : Hid (textC p = ⟨#[]⟩) := Lib.hid (by simp [textC, hp])
    have hv : ∀ w : World, Calls Tryz.prog 13 #[.slice (some ⟨w.heap.size, 0, none⟩) 1 1] (w.alloc (.cells #[.int .i64 p] 3)) fun e w' => e = .returned (.bool false) ∧ Chg [] w w' := fun w => hp ▸ tm_valid_one rfl
    clear hp
    go_enter Tryz.func10, Tryz.ntmps10
    go_wp2_with (go_at_call 13; refine (hv _).mono ?_; rintro e w1 ⟨rfl, hc⟩)
    go_ret
    exact ⟨by rw [hfin.out]; rfl, hc⟩
  | true =>
    obtain ⟨p0, p1⟩ := okM_of hp
    have hv : ∀ w : World, Calls Tryz.prog 13 #[.slice (some ⟨w.heap.size, 0, none⟩) 1 1] (w.alloc (.cells #[.int .i64 p] 3)) fun e w' => e = .returned (.bool true) ∧ Chg [] w w' := fun w => hp ▸ tm_valid_one rfl
    have hfin : textC p = ((numC (yearC p) ++ ⟨#[45]⟩) ++ (if monthC p < 10 then ⟨#[48]⟩ else ⟨#[]⟩)) ++ numC (monthC p) := by simp [textC, hp]
    have hm0 : 1 ≤ monthC p ∧ monthC p ≤ 12 := by unfold monthC; rw [if_pos hp]; omega
    have hy0 : 0 ≤ yearC p ∧ yearC p ≤ 9999 := by unfold yearC; rw [if_pos hp]; omega
    have hmo := tm_month p
    have hye := tm_year p
    have hi1 : ∀ w, Tab w → _ := fun w ht => tm_itoa (w := w) ht (monthC p) (by omega) (by omega)
    have hi2 : ∀ w, Tab w → _ := fun w ht => tm_itoa (w := w) ht (yearC p) (by omega) (by omega)
    have hsz : (monthC p < 10 ∧ (numC (monthC p)).size = 1) ∨ (¬ monthC p < 10 ∧ (numC (monthC p)).size = 2) := by
      by_cases h : monthC p < 10
      · exact .inl ⟨h, size_num1 _ (by omega) h⟩
      · exact .inr ⟨h, size_num2 _ (by omega) (by omega)⟩
    change ∀ w, Tab w → Calls Tryz.prog 56 #[.int .i64 (monthC p)] w fun e w' => e = .returned (.string (numC (monthC p))) ∧ Chg [] w w' at hi1
    change ∀ w, Tab w → Calls Tryz.prog 56 #[.int .i64 (yearC p)] w fun e w' => e = .returned (.string (numC (yearC p))) ∧ Chg [] w w' at hi2
    have hys : (numC (yearC p)).size = 4 := size_num4 _ (by unfold yearC; rw [if_pos hp]; omega) (by unfold yearC; rw [if_pos hp]; omega)
    clear hp
    rcases hsz with ⟨hlt, hsz⟩ | ⟨hlt, hsz⟩
    · rw [if_pos hlt] at hfin
      generalize textC p = R at *
      generalize numC (yearC p) = Y at *
      generalize numC (monthC p) = M at *
      generalize monthC p = m at *
      generalize yearC p = y at *
      replace hfin := Lib.hid hfin
      go_enter Tryz.func10, Tryz.ntmps10
      go_wp2_with fail
      refine (hv _).mono ?_
      rintro e w1 ⟨rfl, hc⟩
      dsimp only
      go_wp2_with fail
      refine (hmo _).mono ?_
      rintro e w2 ⟨rfl, hc2⟩
      dsimp only
      have ht2 := ht.chg (hc.trans' hc2)
      go_wp2_with fail
      refine (hi1 _ ht2).mono ?_
      rintro e w3 ⟨rfl, hc3⟩
      dsimp only
      go_wp2_with fail
      refine (hye _).mono ?_
      rintro e w4 ⟨rfl, hc4⟩
      dsimp only
      have ht4 := ht2.chg (hc3.trans' hc4)
      go_wp2_with fail
      refine (hi2 _ ht4).mono ?_
      rintro e w5 ⟨rfl, hc5⟩
      dsimp only
      go_wp2_with fail
      refine (tm_repeat1 _).mono ?_
      rintro e w6 ⟨rfl, rfl⟩
      dsimp only
      go_wp2_with fail
      go_ret
      exact ⟨by rw [hfin.out]; rfl, (((hc.trans' hc2).trans' hc3).trans' hc4).trans' hc5⟩
    · rw [if_neg hlt] at hfin
      generalize textC p = R at *
      generalize numC (yearC p) = Y at *
      generalize numC (monthC p) = M at *
      generalize monthC p = m at *
      generalize yearC p = y at *
      replace hfin := Lib.hid hfin
      go_enter Tryz.func10, Tryz.ntmps10
      go_wp2_with fail
      refine (hv _).mono ?_
      rintro e w1 ⟨rfl, hc⟩
      dsimp only
      go_wp2_with fail
      refine (hmo _).mono ?_
      rintro e w2 ⟨rfl, hc2⟩
      dsimp only
      have ht2 := ht.chg (hc.trans' hc2)
      go_wp2_with fail
      refine (hi1 _ ht2).mono ?_
      rintro e w3 ⟨rfl, hc3⟩
      dsimp only
      go_wp2_with fail
      refine (hye _).mono ?_
      rintro e w4 ⟨rfl, hc4⟩
      dsimp only
      have ht4 := ht2.chg (hc3.trans' hc4)
      go_wp2_with fail
      refine (hi2 _ ht4).mono ?_
      rintro e w5 ⟨rfl, hc5⟩
      dsimp only
      go_wp2_with fail
      refine (tm_repeat0 _).mono ?_
      rintro e w6 ⟨rfl, rfl⟩
      dsimp only
      go_wp2_with fail
      go_ret
      exact ⟨by rw [hfin.out]; rfl, (((hc.trans' hc2).trans' hc3).trans' hc4).trans' hc5⟩
end Go.Proofs.YtpiaijnjglhggaaGreatDoor
