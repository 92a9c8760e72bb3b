/- Lists that are kept: a book that has lists of the kind Ints alone. (printed by bk.py) -/
import Derived.Test.YtpiaijnjglhggaaGreatDoorBkZInts
namespace Go.Proofs.YtpiaijnjglhggaaGreatDoor
open Go.RowKit Go.Vx
set_option linter.unusedVariables false
set_option linter.unusedSimpArgs false

/-- The book at p holds the lists L of the kind Ints, and no others; what it holds lies in R. -/
def BookInts (w : World) (p : Nat) (L : List Kept) (R : List Nat) : Prop :=
  ∃ cs, Blk w p 35 cs ∧ cs.size = 20 ∧ (∀ j, j < 20 → j ≠ 2 → j ≠ 3 → cs[j]? = some (.slice none 0 0)) ∧ KStInts w cs L R ∧ ∀ g ∈ R, g < w.heap.size
theorem BookInts.new (w : World) : BookInts (w.alloc (.cells #[.slice none 0 0, .slice none 0 0, .slice none 0 0, .slice none 0 0, .slice none 0 0, .slice none 0 0, .slice none 0 0, .slice none 0 0, .slice none 0 0, .slice none 0 0, .slice none 0 0, .slice none 0 0, .slice none 0 0, .slice none 0 0, .slice none 0 0, .slice none 0 0, .slice none 0 0, .slice none 0 0, .slice none 0 0, .slice none 0 0] 35)) w.heap.size [] [] :=
  ⟨_, Blk.new _ _ _, rfl, fun j hj _ _ => by
    rcases (show j = 0 ∨ j = 1 ∨ j = 2 ∨ j = 3 ∨ j = 4 ∨ j = 5 ∨ j = 6 ∨ j = 7 ∨ j = 8 ∨ j = 9 ∨ j = 10 ∨ j = 11 ∨ j = 12 ∨ j = 13 ∨ j = 14 ∨ j = 15 ∨ j = 16 ∨ j = 17 ∨ j = 18 ∨ j = 19 by omega) with rfl | rfl | rfl | rfl | rfl | rfl | rfl | rfl | rfl | rfl | rfl | rfl | rfl | rfl | rfl | rfl | rfl | rfl | rfl | rfl <;> rfl, KStInts.nil rfl rfl, by simp⟩
theorem BookInts.chg {w w' : World} {p : Nat} {L : List Kept} {R S : List Nat} (h : BookInts w p L R) (k : Chg S w w') (hp : p ∉ S) (hd : ∀ g ∈ R, g ∉ S) : BookInts w' p L R := by
  obtain ⟨cs, h1, h2, h3, h4, h5⟩ := h
  exact ⟨cs, h1.chg k hp, h2, h3, h4.chg k hd, fun g hg => Nat.lt_of_lt_of_le (h5 g hg) k.size⟩
theorem BookInts.keep {w w' : World} {p : Nat} {L : List Kept} {R : List Nat} (h : BookInts w p L R) (k : Chg [] w w') : BookInts w' p L R := h.chg k (by simp) (by simp)
theorem BookInts.lt {w : World} {p : Nat} {L : List Kept} {R : List Nat} (h : BookInts w p L R) : p < w.heap.size := by
  obtain ⟨cs, h1, -⟩ := h
  exact h1.lt
theorem BookInts.foot {w : World} {p : Nat} {L : List Kept} {R : List Nat} (h : BookInts w p L R) : ∀ g ∈ R, g < w.heap.size := by
  obtain ⟨cs, -, -, -, -, h1⟩ := h
  exact h1
theorem bky_addInts {w : World} {p : Nat} {L : List Kept} {R : List Nat} (h : BookInts w p L R) (hL : L.length < 250) {K : Kept} (hK : K.At w 3 1) (h1 : ∀ u ∈ K.xs, u.oneCell' = true) (hKF : ∀ g ∈ K.F, g ∉ R) (hn : K.n ≤ 1000000) :
    Calls Tryz.prog 6 #[.pointer (some ⟨p, 0, none⟩), K.v] w fun e w' => e = .returned (.tuple #[]) ∧ ∃ R', BookInts w' p (L ++ [K]) R' ∧ (∀ g ∈ R', g ∈ R ∨ g ∈ K.F ∨ w.heap.size ≤ g) ∧ Chg (p :: R) w w' := by
  obtain ⟨cs, hb, hcs, hno, hS, hlt⟩ := h
  refine (bkp_addInts hb hcs hS hL hK h1 hKF hn).mono ?_
  rintro e w' ⟨rfl, tv, wv, R', hb', hS', hR', hlt', hc⟩
  refine ⟨rfl, R', ⟨_, hb', by simpa using hcs, fun j hj h2 h3 => ?_, hS', hlt'⟩, hR', hc⟩
  rw [Array.getElem?_setIfInBounds_ne (by omega), Array.getElem?_setIfInBounds_ne (by omega)]
  exact hno j hj h2 h3
theorem bky_apartInts {w : World} {p : Nat} {L : List Kept} {R : List Nat} (h : BookInts w p L R) (hE : ∀ K ∈ L, ElInts K.xs ∧ K.n ≤ 90000) (hL : L.length ≤ 1000) :
    Calls Tryz.prog 8 #[.pointer (some ⟨p, 0, none⟩)] w fun e w' => e = .returned (.bool true) ∧ Chg R w w' := by
  obtain ⟨cs, hb, hcs, hno, hS, -⟩ := h
  have hR : ∀ g ∈ keptF L, g ∈ R := by
    obtain ⟨tv, wv, M, Ft, Fw, -, -, -, -, -, -, hR⟩ := hS.ex
    exact fun g hg => hR g (.inr (.inr (.inl hg)))
  exact (bkz_apartInts hb hcs (hno 0 (by decide) (by decide) (by decide)) (hno 4 (by decide) (by decide) (by decide)) (hno 6 (by decide) (by decide) (by decide)) (hno 8 (by decide) (by decide) (by decide)) (hno 10 (by decide) (by decide) (by decide)) (hno 12 (by decide) (by decide) (by decide)) (hno 14 (by decide) (by decide) (by decide)) (hno 16 (by decide) (by decide) (by decide)) (hno 18 (by decide) (by decide) (by decide)) hS hE hL).mono fun e w' ⟨h1, h2⟩ => ⟨h1, h2.mono (by simpa using hR)⟩
end Go.Proofs.YtpiaijnjglhggaaGreatDoor
