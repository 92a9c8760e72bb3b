/- The agenda's laws: the guard's call. -/
import Derived.Test.YtkpegffoebmhmaaAgE
namespace Go.Proofs.Ytkpegffoebmhmaa
open Go.RowKit Go.Vx
set_option linter.unusedVariables false
set_option linter.unusedSimpArgs false

theorem p3 : puts ([], 0) [(5, 0, 1), (3, 0, 2), (3, 9, 3)] = ([(3, 9, 3, 2), (3, 0, 2, 1), (5, 0, 1, 0)], 3) := by decide
theorem d9 : due 9 [(3, 0, 2, 1), (5, 0, 1, 0)] = [(3, 0, 2, 1), (5, 0, 1, 0)] ∧ later 9 [(3, 0, 2, 1), (5, 0, 1, 0)] = [] := by decide
theorem Items.cells {w : World} {v : Value} {D : List Slot} {FO : List Nat} (h : Items w v D FO) {k : Nat} (hk : k < D.length) : ∃ g c, v = .slice (some ⟨g, 0, none⟩) D.length c ∧ FO = [g] ∧ D.length ≤ c ∧ c ≤ maxLen ∧ w.cell? ⟨g, k * 3, none⟩ = some (.int .i64 (nth D k).1) ∧ w.cell? ⟨g, k * 3 + 1, none⟩ = some (.int .i64 (nth D k).2.1) ∧ w.cell? ⟨g, k * 3 + 2, none⟩ = some (.int .i64 (nth D k).2.2.1) := by
  have hl : (D.map item).length = D.length := by simp
  have h' : Fix w 31 3 v (D.map item).length ((D.map item).flatMap itEnc) FO := by rw [hl]; exact h
  obtain ⟨g, c, e, hF, hc⟩ := h'.elem (fun _ => rfl) (by omega) (k := k) (by rw [hl]; exact hk)
  have hn : nth (D.map item) k = item (nth D k) := by rw [at_eq (by rw [hl]; exact hk), at_eq hk, List.getElem_map]
  rw [hn] at hc
  rw [hl] at e
  subst e
  obtain ⟨q1, q2⟩ := Fix.cap h
  refine ⟨g, c, rfl, hF, q1, q2, ?_, ?_, ?_⟩
  · simpa [itEnc, item] using (hc 0 (by omega)).1
  · simpa [itEnc, item] using (hc 1 (by omega)).1
  · simpa [itEnc, item] using (hc 2 (by omega)).1
theorem Items.nilv {w : World} {v : Value} {D : List Slot} {FO : List Nat} (h : Items w v D FO) : ∃ A c, v = .slice A D.length c ∧ D.length ≤ c ∧ c ≤ maxLen := by
  obtain ⟨A, c, rfl, -⟩ := id (show Fix w 31 3 v D.length ((D.map item).flatMap itEnc) FO from h)
  obtain ⟨q1, q2⟩ := Fix.cap h
  exact ⟨A, c, rfl, q1, q2⟩
theorem alive_src (w : World) : Src ((w.alloc (.cells #[.slice none 0 0, .int .i64 0] 28)).alloc (.cells #[.int .i64 5, .int .i64 0, .int .i64 1, .int .i64 3, .int .i64 0, .int .i64 2, .int .i64 3, .int .i64 9, .int .i64 3] 31)) 3 (some ⟨w.heap.size + 1, 0, none⟩) 3 (([(5, 0, 1), (3, 0, 2), (3, 9, 3)] : List Item).flatMap itEnc) :=
  Src.lit (by simp) rfl
set_option maxRecDepth 8000 in
theorem alive_put (w : World) : Calls Try.prog 7 #[.pointer (some ⟨w.heap.size, 0, none⟩), .slice (some ⟨w.heap.size + 1, 0, none⟩) 3 3] ((w.alloc (.cells #[.slice none 0 0, .int .i64 0] 28)).alloc (.cells #[.int .i64 5, .int .i64 0, .int .i64 1, .int .i64 3, .int .i64 0, .int .i64 2, .int .i64 3, .int .i64 9, .int .i64 3] 31)) fun e w' => e = .returned (.int .i64 3) ∧ ∃ F', AgAt w' w.heap.size [(3, 9, 3, 2), (3, 0, 2, 1), (5, 0, 1, 0)] 3 F' ∧ Chg [] w w' ∧ ∀ g, g ∈ F' → w.heap.size ≤ g := by
  have hn := AgAt.new w
  have hn2 := hn.chg ((Chg.refl [] _).alloc (.cells #[.int .i64 5, .int .i64 0, .int .i64 1, .int .i64 3, .int .i64 0, .int .i64 2, .int .i64 3, .int .i64 9, .int .i64 3] 31)) (by simp)
  have hput := ag_put hn2 (by simp) (by omega) (by omega) (c := 3) (alive_src w) rfl (by omega) (fun _ ad e => by injection e with e; subst e; simp)
  rw [p3] at hput
  refine hput.mono ?_
  rintro e w1 ⟨rfl, F1, h1, hc1, hF1⟩
  exact ⟨rfl, F1, h1, (((Chg.refl [] w).alloc _).alloc _).trans hc1 (by intro g hg; right; simp at hg; omega), fun g hg => by have := hF1 g hg; simp at this; omega⟩
set_option maxRecDepth 8000 in
set_option maxHeartbeats 1000000 in
theorem ag_alive (w : World) : Calls Try.prog 6 #[] w fun e w' => e = .returned (.bool true) ∧ Chg [] w w' := by
  go_enter Try.func6, Try.ntmps6
  go_wp2_with fail
  refine (alive_put w).mono ?_
  rintro e w1 ⟨rfl, F1, h1, hc1, hF1⟩
  have hnx := ag_next h1 (by simp)
  dsimp only
  go_wp2_with fail
  refine hnx.mono ?_
  rintro e w2 ⟨rfl, h2, hc2⟩
  dsimp only
  go_wp2_with fail
  have hb := Blk.new w2 31 #[.int .i64 3, .int .i64 9, .int .i64 3]
  have hdue := ag_due (h2.chg ((Chg.refl [] _).alloc (.cells #[.int .i64 3, .int .i64 9, .int .i64 3] 31)) (by simp)) (by simp) 9
  rw [d9.1, d9.2] at hdue
  have hlt := h2.lt
  refine hdue.mono ?_
  rintro e w3 ⟨v, FO, rfl, ho, h3, hO, hc3⟩
  have hb3 := hb.chg hc3 (fun hg => Nat.lt_irrefl _ (hlt _ hg))
  have z2 := hb3.cell 2
  simp at z2
  obtain ⟨g, c, rfl, -, q1, q2, -, -, x2⟩ := ho.cells (k := 0) (by simp)
  obtain ⟨g', c', e', -, -, -, -, -, y2⟩ := ho.cells (k := 1) (by simp)
  injection e' with e1 _ e2
  injection e1 with e1
  injection e1 with e1
  subst e1 e2
  simp [nth] at x2 y2
  have hln := ag_len h3
  have hlen : [((3, 0, 2, 1) : Slot), (5, 0, 1, 0)].length = 2 := rfl
  rw [hlen]
  rw [List.length_nil] at hln
  dsimp only
  go_wp2_with (go_at_call 9; refine hln.mono ?_; rintro e w' ⟨rfl, rfl⟩)
  go_ret
  refine ⟨by trivial, ?_⟩
  have hsz := hc1.size
  have hF : ∀ g, g ∈ w.heap.size :: F1 → g ∈ ([] : List Nat) ∨ w.heap.size ≤ g := fun g hg => (by
    rcases List.mem_cons.1 hg with rfl | hg
    · exact .inr (Nat.le_refl _)
    · exact .inr (hF1 g hg))
  exact (((hc1.trans hc2 hF).alloc _).trans hc3 hF)
end Go.Proofs.Ytkpegffoebmhmaa
