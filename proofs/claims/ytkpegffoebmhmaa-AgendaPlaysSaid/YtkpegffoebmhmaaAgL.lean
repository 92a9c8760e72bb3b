/- AgendaPlays: what is put in goes to the same place; the law's same. -/
import Derived.Test.YtkpegffoebmhmaaAgH
import Derived.Deep.QuietTactic
import Derived.Test.YtkpegffoebmhmaaAgK
namespace Go.Proofs.Ytkpegffoebmhmaa
open Go.RowKit Go.Vx
set_option linter.unusedVariables false
set_option linter.unusedSimpArgs false

theorem slLt_ahead {y : Slot} {x : Item} {m : Int} (h : y.2.2.2 < m) : slLt y (slot x m) = ahead (item y) x := by
  rw [Bool.eq_iff_iff]
  unfold ahead itLt
  rw [Bool.not_eq_true', slLt_iff, slLt_no]
  simp only [slot, item]
  omega
theorem place_cons (y : Item) (l : List Item) (x : Item) : place (y :: l) x = if ahead y x then y :: place l x else x :: y :: l := by
  unfold place
  cases h : ahead y x <;> simp [h]
theorem ins_place {x : Item} {m : Int} : ∀ {S : List Slot}, (∀ y ∈ S, y.2.2.2 < m) → (ins slLt (slot x m) S).map item = place (S.map item) x
  | [], _ => rfl
  | y :: S, h => by
    rw [ins, List.map_cons, place_cons, slLt_ahead (h y (by simp))]
    split
    · rw [List.map_cons, ins_place fun z hz => h z (by simp [hz])]
    · rfl
set_option maxRecDepth 8000 in
set_option maxHeartbeats 1000000 in
theorem l8_same {w : World} {v1 v2 : Value} {S : List Slot} {F1 F2 : List Nat} (h1 : Items w v1 S F1) (h2 : RItems w v2 (S.map item) F2) (hS : S.length ≤ 1000000) :
    Calls Try.prog 11 #[v1, v2] w fun e w' => e = .returned (.bool true) ∧ Chg [] w w' := by
  obtain ⟨A, c, rfl, -⟩ := h1.nilv
  have h2' := h2
  obtain ⟨B, d, rfl, -⟩ := h2'
  have hml : (S.map item).length = S.length := by simp
  rw [hml] at h2 ⊢
  have hcell : ∀ wr, Chg [] w wr → ∀ k, k < S.length → (∃ g, A = some ⟨g, 0, none⟩ ∧ wr.cell? ⟨g, k * 3, none⟩ = some (.int .i64 (nth S k).1) ∧ wr.cell? ⟨g, k * 3 + 1, none⟩ = some (.int .i64 (nth S k).2.1) ∧ wr.cell? ⟨g, k * 3 + 2, none⟩ = some (.int .i64 (nth S k).2.2.1)) ∧ (∃ ad, B = some ad ∧ wr.cell? (ad.add (k * 3)) = some (.int .i64 (nth S k).1) ∧ wr.cell? ⟨(ad.add (k * 3)).block, (ad.add (k * 3)).off + 1, none⟩ = some (.int .i64 (nth S k).2.1) ∧ wr.cell? ⟨(ad.add (k * 3)).block, (ad.add (k * 3)).off + 2, none⟩ = some (.int .i64 (nth S k).2.2.1)) := by
    intro wr hc k hk
    obtain ⟨g, c', e, -, -, -, x1, x2, x3⟩ := (h1.chg hc (by simp)).cells hk
    obtain ⟨g', d', e', y1, y2, y3⟩ := (h2.chg hc (by simp)).at_ (k := k) (by rw [hml]; exact hk)
    have hn : nth (S.map item) k = item (nth S k) := by rw [at_eq (by rw [hml]; exact hk), at_eq hk, List.getElem_map]
    rw [hn] at y1 y2 y3
    injection e with e
    injection e' with e'
    exact ⟨⟨g, e, x1, x2, x3⟩, ⟨g', e', y1, y2, y3⟩⟩
  clear h1 h2 hml
  go_enter Try.func11, Try.ntmps11
  go_wp2_with fail
  go_loopw [5] (fun iv wr => ∃ k : Nat, k ≤ S.length ∧ iv = .int .i64 k ∧ Chg [] w wr) (fun iv _ => S.length - (intOf iv).toNat)
  case atStart => exact ⟨0, by omega, rfl, Chg.refl _ _⟩
  case round =>
    obtain ⟨k, hk, rfl, hc⟩ := hrel
    by_cases hlt : k < S.length
    · obtain ⟨⟨g, rfl, x1, x2, x3⟩, ⟨g', rfl, y1, y2, y3⟩⟩ := hcell wr hc k hlt
      clear hcell
      generalize nth S k = z at *
      go_wp2_with fail
      go_quiet (fail)
      go_wp2_with fail
      go_roundw
      case measure => simp [intOf]; omega
      case rel => exact ⟨k + 1, by omega, by go_num, hc.drewN _⟩
    · obtain rfl : k = S.length := by omega
      go_wp2_with fail
      go_ret
      exact ⟨by trivial, hc⟩
end Go.Proofs.Ytkpegffoebmhmaa
