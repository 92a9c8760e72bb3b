/- ClothSnags: the walk. -/
import Derived.Test.YtjbjiomajldkoaaClothH
namespace Go.Proofs.Ytjbjiomajldkoaa
open Go.RowKit Go.Vx
set_option linter.unusedVariables false
set_option linter.unusedSimpArgs false

/-- What a write is to answer. -/
def snWant (n : Int) (back : Bool) (i : Int) : Int := if !back && decide (n ≤ i) then 14 else 0
/-- What is known of the cloth ahead of the write number i. -/
structure SnInv (n : Int) (back : Bool) (i : Int) (c : ClothS) : Prop where
  len : c.pressed.length = 3
  rows : RowsOk 3 c.loose
  loose : (c.loose.length : Int) ≤ i
  keep : c.keep = []
  torn : c.torn = true ↔ back = false ∧ n < i
  snag : c.torn = false → if back then c.snagged = false else c.snagged = true ∧ c.left = n - i
theorem pressTo_len (c : ClothS) (l : List (Int × ByteArray)) : (pressTo c.pressed l).length = c.pressed.length := pressTo_length _ _

def SnPost (n : Int) (back : Bool) (i : Int) (w : World) (p : Nat) (B : Nat) (e : Ending) (w' : World) : Prop :=
  ∃ pr lo ke c F G H, e = .returned (.int .i64 (snWant n back i)) ∧ ClothAt w' p pr lo ke c F G H ∧ SnInv n back (i + 1) c ∧ (!c.torn) = decide (snWant n back i = 0) ∧ (∃ S, Chg S w w' ∧ ∀ g, g ∈ S → B ≤ g) ∧ (∀ g, g ∈ p :: (F ++ G ++ H) → B ≤ g)

theorem sn_going {n : Int} {back : Bool} {i : Int} {c : ClothS} (hI : SnInv n back i c) (ht : c.torn = false) : c.going = (!back && decide (n ≤ i)) := by
  have h := hI.snag ht
  unfold ClothS.going
  cases back
  · simp at h ⊢
    rw [h.1, h.2]
    simp
    omega
  · simp at h ⊢
    rw [h]; simp
theorem keptTo_nil (l : List (Int × ByteArray)) : ∀ k, keptTo l [] k = []
  | 0 => rfl
  | k + 1 => by simp [keptTo, keptTo_nil l k]
section
variable {w w' : World} {p : Nat} {pr lo ke : Value} {c : ClothS} {F G H : List Nat} {n i : Int} {back : Bool} {B : Nat}
theorem sn_leftOk (hI : SnInv n back i c) (ht : c.torn = false) (hi0 : 0 ≤ i) (hn : n ≤ 30) : c.leftOk := by
  intro hs
  have h := hI.snag ht
  cases back
  · simp at h
    rw [hs] at h
    have : ¬ n < i := fun hh => by have := hI.torn.2 ⟨rfl, hh⟩; rw [ht] at this; cases this
    omega
  · simp at h; rw [h] at hs; cases hs
theorem sn_off (h : ClothAt w p pr lo ke c F G H) (hI : SnInv n back i c) (hB : ∀ g, g ∈ p :: (F ++ G ++ H) → B ≤ g) (hi0 : 0 ≤ i) (ht : c.torn = true) : SnPost n back i w p B (.returned (.int .i64 14)) w := by
  obtain ⟨hb, hn⟩ := hI.torn.1 ht
  have e : snWant n back i = 14 := by unfold snWant; rw [hb]; simp; omega
  refine ⟨pr, lo, ke, c, F, G, H, by rw [e], h, ⟨hI.len, hI.rows, by have := hI.loose; omega, hI.keep, ?_, fun hh => by rw [ht] at hh; cases hh⟩, by rw [e, ht]; rfl, ⟨[], Chg.refl _ _, by simp⟩, hB⟩
  exact ⟨fun _ => ⟨hb, by omega⟩, fun _ => ht⟩
/-- The state behind an act that was done, or at which the power went. -/
theorem sn_next (hI : SnInv n back i c) (ht : c.torn = false) (hi0 : 0 ≤ i) {r : Int} {c1 : ClothS} (hr : r = c.weaveR) (hl : c1.pressed.length = 3) (hrow : RowsOk 3 c1.loose) (hlo : (c1.loose.length : Int) ≤ i + 1) (hk : c1.keep = [])
    (hg : c.going = true → c1.torn = true) (hs : c.going = false → c1.torn = false ∧ c1.snagged = c.snagged ∧ c1.left = c.gone.left) :
    r = snWant n back i ∧ SnInv n back (i + 1) c1 ∧ (!c1.torn) = decide (snWant n back i = 0) := by
  have hgo := sn_going hI ht
  have hsn := hI.snag ht
  have hni : back = false → i ≤ n := fun hb => by
    rcases Int.lt_or_le n i with h | h
    · have := hI.torn.2 ⟨hb, h⟩; rw [ht] at this; cases this
    · exact h
  cases hgo2 : c.going with
  | true =>
    rw [hgo2] at hgo
    have hb : back = false ∧ n ≤ i := by simpa using hgo.symm
    have e : snWant n back i = 14 := by unfold snWant; rw [← hgo]; rfl
    refine ⟨by rw [hr, e]; simp [ClothS.weaveR, hgo2], ⟨hl, hrow, hlo, hk, ⟨fun _ => ⟨hb.1, by omega⟩, fun _ => hg hgo2⟩, fun h => by rw [hg hgo2] at h; cases h⟩, by rw [e, hg hgo2]; rfl⟩
  | false =>
    obtain ⟨h1, h2, h3⟩ := hs hgo2
    rw [hgo2] at hgo
    have e : snWant n back i = 0 := by unfold snWant; rw [← hgo]; rfl
    refine ⟨by rw [hr, e]; simp [ClothS.weaveR, hgo2], ⟨hl, hrow, hlo, hk, ⟨fun h => (by rw [h1] at h; cases h), fun ⟨hb, hh⟩ => ?_⟩, fun _ => ?_⟩, by rw [e, h1]; rfl⟩
    · rw [hb] at hgo; simp at hgo; omega
    · cases hb : back
      · rw [hb] at hsn hgo
        simp at hsn hgo ⊢
        rw [h2, h3]
        refine ⟨hsn.1, ?_⟩
        simp [ClothS.gone, hsn.1]
        omega
      · rw [hb] at hsn
        simp at hsn ⊢
        rw [h2]; exact hsn
theorem foot_sub {F G H G' H' : List Nat} {w : World} (hB : ∀ g, g ∈ p :: (F ++ G ++ H) → B ≤ g) (hw : B ≤ w.heap.size) (hG : ∀ g, g ∈ G' → g ∈ G ∨ w.heap.size ≤ g) (hH : ∀ g, g ∈ H' → g ∈ H ∨ w.heap.size ≤ g) : ∀ g, g ∈ p :: (F ++ G' ++ H') → B ≤ g := by
  intro g hg
  simp only [List.mem_cons, List.mem_append] at hg
  rcases hg with hg | (hg | hg) | hg
  · exact hB g (by simp [hg])
  · exact hB g (by simp [hg])
  · rcases hG g hg with h | h
    · exact hB g (by simp [h])
    · omega
  · rcases hH g hg with h | h
    · exact hB g (by simp [h])
    · omega
theorem sn_press (h : ClothAt w p pr lo ke c F G H) (hI : SnInv n back i c) (hB : ∀ g, g ∈ p :: (F ++ G ++ H) → B ≤ g) (hw : B ≤ w.heap.size) (hi0 : 0 ≤ i) (hi1 : i ≤ 40) (hn : n ≤ 30) :
    Calls Try.prog 11 #[.pointer (some ⟨p, 0, none⟩)] w (SnPost n back i w p B) := by
  cases ht : c.torn with
  | true =>
    refine (press_off h ht).mono ?_
    rintro e w' ⟨rfl, rfl⟩
    exact sn_off h hI hB hi0 ht
  | false =>
    refine (press_on h ht (by have := hI.loose; omega) (by rw [hI.keep]; decide) (by rw [hI.len]; exact hI.rows) (sn_leftOk hI ht hi0 hn)).mono ?_
    rintro e w' ⟨lo', ke', G', H', rfl, h', hw', hG', hH'⟩
    obtain ⟨e1, hI', e2⟩ := sn_next hI ht hi0 (r := c.weaveR) (c1 := c.pressS) rfl
      (by unfold ClothS.pressS; split <;> simp [ClothS.tear, ClothS.done, pressTo_length, gone_pressed, hI.len])
      (by unfold ClothS.pressS; split <;> simp [ClothS.tear, ClothS.done, RowsOk])
      (by unfold ClothS.pressS; split <;> simp [ClothS.tear, ClothS.done] <;> omega)
      (by unfold ClothS.pressS; split <;> simp [ClothS.tear, ClothS.done, gone_keep, hI.keep])
      (fun hg => by simp [ClothS.pressS, hg, ClothS.tear])
      (fun hg => by simp [ClothS.pressS, hg, ClothS.done, gone_torn, ht, ClothS.gone])
    exact ⟨pr, lo', ke', _, F, G', H', by rw [e1], h', hI', e2, ⟨_, hw', fun g hg => hB g (by simp at hg ⊢; rcases hg with hg | hg | hg <;> simp [hg])⟩, foot_sub hB hw hG' hH'⟩
theorem sn_weave (h : ClothAt w p pr lo ke c F G H) (hI : SnInv n back i c) (hB : ∀ g, g ∈ p :: (F ++ G ++ H) → B ≤ g) (hw : B ≤ w.heap.size) (hi0 : 0 ≤ i) (hi1 : i ≤ 40) (hn : n ≤ 30) (row : Int) (hr0 : 0 ≤ row) (hr1 : row < 3) :
    Calls Try.prog 10 #[.pointer (some ⟨p, 0, none⟩), .int .i64 row, .string ⟨#[120]⟩] w (SnPost n back i w p B) := by
  cases ht : c.torn with
  | true =>
    have hm : c.may row = 14 := by simp [ClothS.may, ht]
    refine (weave_may h row _ (by rw [hm]; decide)).mono ?_
    rintro e w' ⟨rfl, rfl⟩
    rw [hm]
    exact sn_off h hI hB hi0 ht
  | false =>
    have hm : c.may row = 0 := by simp [ClothS.may, ht, hI.len]; omega
    refine (weave_at h row ⟨#[120]⟩ hm (by decide) (by have := hI.loose; omega) (by rw [hI.keep]; decide) (by rw [hI.len]; exact hI.rows) (sn_leftOk hI ht hi0 hn)).mono ?_
    rintro e w' ⟨lo', ke', G', H', rfl, h', hw', hG', hH'⟩
    have hro : RowsOk 3 (c.loose ++ [(row, ⟨#[120]⟩)]) := by
      intro t ht
      rcases List.mem_append.1 ht with ht | ht
      · exact hI.rows t ht
      · simp at ht; subst ht; exact ⟨hr0, hr1⟩
    have hl := hI.loose
    obtain ⟨e1, hI', e2⟩ := sn_next hI ht hi0 (r := c.weaveR) (c1 := c.weaveS row ⟨#[120]⟩) rfl
      (by unfold ClothS.weaveS; split <;> simp [ClothS.tear, ClothS.add, pressTo_length, gone_pressed, hI.len])
      (by unfold ClothS.weaveS; split <;> simp [ClothS.tear, ClothS.add, gone_loose] <;> first | exact hro | simp [RowsOk])
      (by unfold ClothS.weaveS; split <;> simp [ClothS.tear, ClothS.add, gone_loose] <;> omega)
      (by unfold ClothS.weaveS; split <;> simp [ClothS.tear, ClothS.add, gone_keep, hI.keep])
      (fun hg => by simp [ClothS.weaveS, hg, ClothS.tear])
      (fun hg => by simp [ClothS.weaveS, hg, ClothS.add, gone_torn, ht, ClothS.gone])
    exact ⟨pr, lo', ke', _, F, G', H', by rw [e1], h', hI', e2, ⟨_, hw', fun g hg => hB g (by simp at hg ⊢; rcases hg with hg | hg | hg <;> simp [hg])⟩, foot_sub hB hw hG' hH'⟩
end
end Go.Proofs.Ytjbjiomajldkoaa
