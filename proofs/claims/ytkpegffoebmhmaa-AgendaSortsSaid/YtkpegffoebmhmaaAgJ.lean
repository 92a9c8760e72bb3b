/- AgendaSorts, of every list. -/
import Derived.Test.YtkpegffoebmhmaaAgI
namespace Go.Proofs.Ytkpegffoebmhmaa
open Go.RowKit Go.Vx
set_option linter.unusedVariables false
set_option linter.unusedSimpArgs false

set_option maxRecDepth 8000 in
set_option maxHeartbeats 1000000 in
theorem sorts_none {w : World} {A : Option Addr} {c : Nat} (turn : Int) :
    Calls Try.prog 3 #[.slice A 0 c, .int .i64 turn] w fun e w' => e = .returned (.bool true) ∧ Chg [] w w' := by
  go_enter Try.func3, Try.ntmps3
  go_wp2_with (go_at_call 6; refine (ag_alive _).mono ?_; rintro e w0 ⟨rfl, hc0⟩)
  have ha := (AgAt.new w0).chg ((Chg.refl [] _).alloc (.cells #[.slice none 0 0, .int .i64 0] 28)) (by simp)
  have hb := AgAt.new (w0.alloc (.cells #[.slice none 0 0, .int .i64 0] 28))
  simp only [World.size_alloc] at hb
  have hput := ag_put ha (by simp) (by omega) (by omega) (A := A) (n := 0) (c := c) (l := []) ⟨rfl, fun h => by omega⟩ rfl (by omega) (fun h => by omega)
  refine hput.mono ?_
  rintro e w1 ⟨rfl, FA, h1, hc1, hF1⟩
  replace h1 : AgAt w1 w0.heap.size [] 0 FA := h1
  have hb1 := hb.chg hc1 (by simp)
  dsimp only
  go_wp2_with fail
  refine (ag_put hb1 (by simp) (by omega) (by omega) (A := A) (n := 0) (c := c) (l := []) ⟨rfl, fun h => by omega⟩ rfl (by omega) (fun h => by omega)).mono ?_
  rintro e w2 ⟨rfl, FB, h2, hc2, hF2⟩
  replace h2 : AgAt w2 (w0.heap.size + 1) [] 0 FB := h2
  have hltA := h1.lt
  have hlt0 := hltA w0.heap.size (by simp)
  have hb1lt := hb1.lt (w0.heap.size + 1) (by simp)
  have hFA : ∀ g, g ∈ FA → w0.heap.size + 2 ≤ g := fun g hg => by have := hF1 g hg; simp at this; omega
  have ha2 := h1.chg hc2 (fun g hg hg' => by
    simp only [List.mem_cons, List.not_mem_nil, or_false] at hg'
    rcases List.mem_cons.1 hg with rfl | hg
    · omega
    · have := hFA g hg; omega)
  have hFB : ∀ g, g ∈ FB → w1.heap.size ≤ g := fun g hg => by have := hF2 g hg; simpa using this
  dsimp only
  go_wp2_with fail
  refine (ag_put h2 (by simp) (by omega) (by omega) (A := A) (n := 0) (c := c) (l := []) ⟨rfl, fun h => by omega⟩ rfl (by omega) (fun h => by omega)).mono ?_
  rintro e w3 ⟨rfl, FC, h3, hc3, hF3⟩
  replace h3 : AgAt w3 (w0.heap.size + 1) [] 0 FC := h3
  have ha3 := ha2.chg hc3 (fun g hg hg' => by
    rcases List.mem_cons.1 hg' with rfl | hg'
    · rcases List.mem_cons.1 hg with h | hg
      · omega
      · have := hFA _ hg; omega
    · have h4 := hFB g hg'
      rcases List.mem_cons.1 hg with rfl | hg
      · omega
      · have := hltA g (by simp [hg]); omega)
  have hw0 := hc0.size
  have hz : Chg [] w w3 := by
    refine ((((hc0.alloc _).alloc _).trans hc1 ?_).trans hc2 ?_).trans hc3 ?_
    · intro g hg; right; simp at hg; omega
    · intro g hg; right; simp at hg; omega
    · intro g hg
      right
      rcases List.mem_cons.1 hg with rfl | hg
      · omega
      · have := hFB g hg; omega
  have hl1 := ag_len ha3
  have hl2 := ag_len h3
  rw [List.length_nil] at hl1 hl2
  dsimp only
  go_wp2_with fail
  go_loopw [8] (fun iv wr => iv = .int .i64 0 ∧ w3 = wr) (fun iv _ => 0)
  case atStart => exact ⟨rfl, rfl⟩
  case round =>
    obtain ⟨rfl, rfl⟩ := hrel
    go_wp2_with fail
    refine hl1.mono ?_
    rintro e w4 ⟨rfl, rfl⟩
    dsimp only
    go_wp2_with fail
    refine hl2.mono ?_
    rintro e w4 ⟨rfl, rfl⟩
    dsimp only
    go_wp2_with fail
    go_ret
    exact ⟨by trivial, hz⟩
set_option maxRecDepth 8000 in
theorem agendaSorts_walk (w : World) (A : Option Addr) (n c : Nat) (l : List Item) (x : l.length = n ∧ n ≤ c ∧ c ≤ maxLen ∧ Src w 3 A n (l.flatMap itEnc) ∧ ∀ x ∈ l, ItOk w x) (y : n * 24 ≤ 140737488351232) (turn : Int) (wt : (Lit.int .i64 turn).wf = true) :
    Calls Try.prog 3 #[.slice A n c, .int .i64 turn] w fun e w' => e = .returned (.bool true) ∧ Chg [] w w' := by
  obtain ⟨h1, h2, h3, h4, h5⟩ := x
  by_cases h : n ≤ 60
  · rcases Nat.eq_zero_or_pos n with h0 | h0
    · subst h0
      exact sorts_none turn
    · obtain ⟨ad, rfl, -⟩ := id h4.2 h0
      exact sorts_in h4 h1 h h0 h2 turn
  · have b1 : decide (60 < (n : Int)) = true := by simp; omega
    go_enter Try.func3, Try.ntmps3
    go_wp2_with (go_at_call 6; refine (ag_alive _).mono ?_; rintro e w0 ⟨rfl, hc0⟩)
    go_ret
    exact ⟨by trivial, hc0⟩
end Go.Proofs.Ytkpegffoebmhmaa
