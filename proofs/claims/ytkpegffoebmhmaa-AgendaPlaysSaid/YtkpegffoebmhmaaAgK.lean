/- The reference's order of items: Ahead, PutItem; the law's same. -/
import Derived.Test.YtkpegffoebmhmaaAgH
import Derived.Laws.Slices
import Derived.Deep.CutBlock
import Derived.Deep.QuietTactic
namespace Go.Proofs.Ytkpegffoebmhmaa
open Go.RowKit Go.Vx
set_option linter.unusedVariables false
set_option linter.unusedSimpArgs false

/-- An item ahead of another one, or with it. -/
def ahead (a b : Item) : Bool := !itLt b a
set_option maxRecDepth 8000 in
set_option maxHeartbeats 1000000 in
theorem r_ahead (a b : Item) (w : World) :
    Calls Try.prog 17 #[.agg #[.int .i64 a.1, .int .i64 a.2.1, .int .i64 a.2.2], .agg #[.int .i64 b.1, .int .i64 b.2.1, .int .i64 b.2.2]] w fun e w' => e = .returned (.bool (ahead a b)) ∧ Chg [] w w' := by
  have hfin : ∀ b', ahead a b = b' → Hid (Ending.returned (Value.bool b') = Ending.returned (Value.bool (ahead a b))) := by rintro b rfl; exact Lib.hid rfl
  have hdef : ∀ r : Bool, (r = true ↔ ¬ (b.1 < a.1 ∨ (b.1 = a.1 ∧ (a.2.1 < b.2.1 ∨ (b.2.1 = a.2.1 ∧ (b.2.2 < a.2.2 ∨ (b.2.2 = a.2.2 ∧ (0 : Int) < 0))))))) → ahead a b = r := by
    intro r hr
    have h1 : ahead a b = true ↔ ¬ (b.1 < a.1 ∨ (b.1 = a.1 ∧ (a.2.1 < b.2.1 ∨ (b.2.1 = a.2.1 ∧ (b.2.2 < a.2.2 ∨ (b.2.2 = a.2.2 ∧ (0 : Int) < 0)))))) := by
      unfold ahead itLt
      rw [Bool.not_eq_true', slLt_no]
    rw [Bool.eq_iff_iff, h1, hr]
  by_cases h1 : a.1 = b.1
  · have b1 : (a.1 != b.1) = false := by simp [h1]
    by_cases h2 : a.2.1 = b.2.1
    · have b2 : (a.2.1 != b.2.1) = false := by simp [h2]
      have e := hfin (decide (a.2.2 ≤ b.2.2)) (hdef _ (by simp only [decide_eq_true_eq]; omega))
      clear hfin hdef h1 h2
      go_enter Try.func17, Try.ntmps17
      go_wp2_with fail
      go_ret
      exact ⟨e.out, ((Chg.refl _ _).alloc _).alloc _⟩
    · have b2 : (a.2.1 != b.2.1) = true := by simp [h2]
      have e := hfin (decide (b.2.1 < a.2.1)) (hdef _ (by simp only [decide_eq_true_eq]; omega))
      clear hfin hdef h1 h2
      go_enter Try.func17, Try.ntmps17
      go_wp2_with fail
      go_ret
      exact ⟨e.out, ((Chg.refl _ _).alloc _).alloc _⟩
  · have b1 : (a.1 != b.1) = true := by simp [h1]
    have e := hfin (decide (a.1 < b.1)) (hdef _ (by simp only [decide_eq_true_eq]; omega))
    clear hfin hdef h1
    go_enter Try.func17, Try.ntmps17
    go_wp2_with fail
    go_ret
    exact ⟨e.out, ((Chg.refl _ _).alloc _).alloc _⟩
/-- Where an item goes in. -/
def place (l : List Item) (x : Item) : List Item := (l.takeWhile fun y => ahead y x) ++ x :: (l.dropWhile fun y => ahead y x)
def putItem (l : List Item) (x : Item) : List Item := if 1000 ≤ l.length then l else place l x
theorem infoRItem : (Try.prog.info? 41).map (fun i => (i.zero, i.size, i.bytes)) = some (some (.agg #[.int .i64 0, .int .i64 0, .int .i64 0]), 3, 24) := by kernel_rfl
theorem oneItems (l : List Item) : ∀ u ∈ l.flatMap itEnc, u.oneCell' = true := fun u hu => by
  obtain ⟨x, -, h⟩ := List.mem_flatMap.1 hu
  simp [itEnc] at h
  rcases h with rfl | rfl | rfl <;> rfl
theorem while_at {p : Item → Bool} : ∀ {l : List Item} {k : Nat}, k ≤ l.length → (∀ j, j < k → p (nth l j) = true) → (k = l.length ∨ p (nth l k) = false) → l.takeWhile p = l.take k ∧ l.dropWhile p = l.drop k
  | [], k, hk, _, _ => by simp
  | x :: l, 0, _, _, h => by
    rcases h with h | h
    · simp at h
    · have h' : p x = false := h
      simp [h']
  | x :: l, k + 1, hk, hj, h => by
    have h0 : p x = true := hj 0 (by omega)
    obtain ⟨e1, e2⟩ := while_at (l := l) (k := k) (by simpa using hk) (fun j hj' => hj (j + 1) (by omega)) (by
      rcases h with h | h
      · exact .inl (by simpa using h)
      · exact .inr h)
    simp [h0, e1, e2]
/-- Items of the reference in memory. -/
def RItems (w : World) (v : Value) (l : List Item) (F : List Nat) : Prop :=
  ∃ A c, v = .slice A l.length c ∧ l.length ≤ c ∧ c ≤ maxLen ∧ Src w 3 A l.length (l.flatMap itEnc) ∧ ∀ ad, 0 < l.length → A = some ad → ad.block ∈ F
theorem RItems.chg {w w' : World} {v : Value} {l : List Item} {F S : List Nat} (h : RItems w v l F) (k : Chg S w w') (hd : ∀ g, g ∈ F → g ∉ S) : RItems w' v l F := by
  obtain ⟨A, c, e, h1, h2, h3, h4⟩ := h
  refine ⟨A, c, e, h1, h2, ?_, h4⟩
  rcases Nat.eq_zero_or_pos l.length with h0 | h0
  · exact ⟨h3.1, fun h => by omega⟩
  · exact h3.chg k fun ad e => hd _ (h4 ad h0 e)
theorem RItems.at_ {w : World} {v : Value} {l : List Item} {F : List Nat} (h : RItems w v l F) {k : Nat} (hk : k < l.length) : ∃ ad c, v = .slice (some ad) l.length c ∧ w.cell? (ad.add (k * 3)) = some (.int .i64 (nth l k).1) ∧ w.cell? ⟨(ad.add (k * 3)).block, (ad.add (k * 3)).off + 1, none⟩ = some (.int .i64 (nth l k).2.1) ∧ w.cell? ⟨(ad.add (k * 3)).block, (ad.add (k * 3)).off + 2, none⟩ = some (.int .i64 (nth l k).2.2) := by
  obtain ⟨A, c, rfl, h1, h2, h3, h4⟩ := h
  obtain ⟨ad, rfl, d0, hc⟩ := h3.elem (fun _ => rfl) (by omega) hk rfl
  have d1 := hc 1 (by omega) (by omega)
  have d2 := hc 2 (by omega) (by omega)
  rw [at_eq hk]
  exact ⟨ad, c, rfl, by simpa [itEnc] using d0, by simpa [itEnc] using d1, by simpa [itEnc] using d2⟩
theorem RItems.of_fix {w : World} {v : Value} {l : List Item} {F : List Nat} (h : Fix w 41 3 v l.length (l.flatMap itEnc) F) : RItems w v l F := by
  obtain ⟨A, c, rfl, -⟩ := id h
  obtain ⟨q1, q2⟩ := Fix.cap h
  refine ⟨A, c, rfl, q1, q2, h.src, fun ad h0 e => ?_⟩
  obtain ⟨g, c', e', hF, -⟩ := h.elem (fun _ => rfl) (by omega) h0
  injection e' with e'
  subst e'
  injection e with e
  subst e
  rw [hF]
  simp
set_option maxRecDepth 8000 in
set_option maxHeartbeats 1000000 in
theorem r_putFull {w : World} {v : Value} {l : List Item} {F : List Nat} (h : RItems w v l F) (hl : 1000 ≤ l.length) (hm : l.length ≤ 1000000) (x : Item) :
    Calls Try.prog 10 #[v, .agg #[.int .i64 x.1, .int .i64 x.2.1, .int .i64 x.2.2]] w fun e w' => e = .returned v ∧ Chg [] w w' := by
  obtain ⟨A, c, rfl, -⟩ := h
  go_enter Try.func10, Try.ntmps10
  go_wp2_with fail
  go_ret
  exact ⟨rfl, (Chg.refl _ _).alloc _⟩
end Go.Proofs.Ytkpegffoebmhmaa
