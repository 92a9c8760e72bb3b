/- MarksFull, walked. -/
import Derived.Test.YtggkeageoljegaaMkF
import Derived.Test.YtggkeageoljegaaIter
import Derived.Test.YtggkeageoljegaaRows2
import Derived.Laws.IdiomStrings
namespace Go.Proofs.Ytggkeageoljegaa
open Go.RowKit Go.Vx Go.Maps Go.Sort Go.Shelf
set_option linter.unusedVariables false
set_option linter.unusedSimpArgs false

/-- A list of names in memory. -/
def Names (w : World) (v : Value) (ks : List (List UInt8)) (F : List Nat) : Prop := Fix w 9 1 v ks.length (ks.map encStr) F
theorem keys_dat (L : RL) : strKeys (dat L) = L.map (·.1) := by
  unfold dat strKeys
  dsimp only
  rw [List.map_map]
  rfl
set_option maxHeartbeats 1000000 in
theorem mk_all {w : World} {p b : Nat} {L : RL} (hb : Blk w p 26 #[.map (some b)]) (hm : RMap w b L) (hL : L.length ≤ 1000000) :
    Calls Try.prog 6 #[.pointer (some ⟨p, 0, none⟩)] w fun e w' => ∃ (v : Value) (ks : List (List UInt8)) (F : List Nat), e = .returned v ∧ ks.Perm (L.map (·.1)) ∧ Names w' v (ks.mergeSort fun x y => decide (x ≤ y)) F ∧ (∀ g, g ∈ F → w.heap.size ≤ g) ∧ Chg [] w w' := by
  have c0 : w.cell? ⟨p, 0, none⟩ = some (.map (some b)) := hb.cell 0
  have hsz : Maps.size (dat L) = L.length := by unfold dat; rw [Maps.size_eq, List.length_map]
  refine (callsIn_wide (n := 6)).1 ?_
  have hfK : Fence.wide.fn 13 := trivial
  have hfS : Fence.wide.fn 12 := trivial
  refine callsIn_of_wp Try.func6 rfl trivial ?_ rfl
  simp only [Try.ntmps6, List.size_toArray, List.length_cons, List.length_nil, Nat.reduceAdd, Nat.reduceSub, Array.replicate_succ, Array.replicate_zero, List.push_toArray, List.append_toArray, List.nil_append, List.cons_append]
  gi_wp2_with (first
    | (gi_at_call 13; refine (Try.maps_Keys_13 _ _).mono ?_; rintro e w' ⟨rfl, rfl⟩)
    | (gi_at_call 12; refine (Try.slices_Sorted_keys_12_13 b L.length (dat L) _ w hm (by rw [hsz]; unfold maxLen; omega) (by rw [hsz]; omega)).mono ?_; rintro e w' ⟨v, ss, rfl, hS, hrow, hnil, hbl⟩))
  go_ret
  have hlen : (ss.mergeSort fun x y => decide (x ≤ y)).length = ss.length := List.length_mergeSort ss
  refine ⟨v, ss, v.ownBlock.toList, rfl, by rw [← keys_dat]; exact hS, ?_, ?_, ((Chg.refl _ _).alloc _).trans' (.of_below hbl)⟩
  · unfold Names
    rw [hlen]
    exact Fix.of_own hrow
  · intro g hg
    rcases hrow.2 with ⟨rfl, _⟩ | ⟨g', cap, cur, rfl, hg', _⟩
    · simp [Value.ownBlock] at hg
    · obtain rfl : g = g' := by simpa [Value.ownBlock] using hg
      refine Nat.le_trans ?_ hg'
      simp
/-- Marks between two calls. -/
structure MA (w wr : World) (p : Nat) (L : RL) (F : List Nat) : Prop where
  at_ : RAt wr p L F
  far : ∀ g, g ∈ p :: F → w.heap.size ≤ g
  chg : Chg [] w wr
theorem MA.quiet {w wr w' : World} {p : Nat} {L : RL} {F : List Nat} (h : MA w wr p L F) (k : Chg [] wr w') : MA w w' p L F := ⟨h.at_.chg k (by simp), h.far, h.chg.trans' k⟩
theorem MA.step {w wr w' : World} {p : Nat} {L L' : RL} {F F' : List Nat} (h : MA w wr p L F) (k : Chg (p :: F) wr w') (ha : RAt w' p L' F') (hF : ∀ g, g ∈ F' → g ∈ F ∨ wr.heap.size ≤ g) : MA w w' p L' F' := by
  refine ⟨ha, fun g hg => ?_, h.chg.trans k fun g hg => .inr (h.far g hg)⟩
  rcases List.mem_cons.1 hg with rfl | hg
  · exact h.far _ (by simp)
  · rcases hF g hg with h4 | h4
    · exact h.far g (by simp [h4])
    · have := h.chg.size; omega
theorem MA.new {w w0 : World} (h : Chg [] w w0) : MA w (w0.alloc (.cells #[.map none] 26)) w0.heap.size [] [] :=
  ⟨RAt.new w0, by intro g hg; simp at hg; subst hg; exact h.size, h.alloc _⟩
def la : List UInt8 := [97]
theorem ma1 : makeC [] la 1 = 0 := by decide +kernel
theorem ma2 : moveC (putR [] la 1) la 2 3 = 16 := by decide +kernel
theorem ma3 : moveC (putR [] la 1) la 1 3 = 0 := by decide +kernel
theorem ma4 : getR (putR (putR [] la 1) la 3) la = 3 ∧ hasR (putR (putR [] la 1) la 3) la = true := by decide +kernel
theorem ma5 : markB [97, 45, 49] = true ∧ markB [49, 97] = false := by decide +kernel
set_option maxHeartbeats 2000000 in
theorem l19_alive (w : World) : Calls Try.prog 4 #[] w fun e w' => e = .returned (.bool true) ∧ Chg [] w w' := by
  have h0 := MA.new (Chg.refl [] w)
  have hg := mk_make h0.at_ (by simp) ⟨#[97]⟩ (by decide) 1 ma1 (by decide)
  have hv1 := mk_valid ⟨#[97, 45, 49]⟩ (by decide)
  have hv2 := mk_valid ⟨#[49, 97]⟩ (by decide)
  have e1 : markB (⟨#[97, 45, 49]⟩ : ByteArray).data.toList = true := ma5.1
  have e2 : markB (⟨#[49, 97]⟩ : ByteArray).data.toList = false := ma5.2
  rw [e1] at hv1
  rw [e2] at hv2
  clear e1 e2
  go_enter Try.func4, Try.ntmps4
  go_wp2_with fail
  refine hg.mono ?_
  rintro e w1 ⟨rfl, F1, h1, hF1, hc1⟩
  have h2 : MA w w1 w.heap.size (putR [] la 1) F1 := h0.step hc1 h1 hF1
  have hm1 := mk_move_no h2.at_ ⟨#[97]⟩ (by decide) 2 3 (by show moveC (putR [] la 1) la 2 3 ≠ 0; rw [ma2]; decide)
  have e1 : moveC (putR [] la 1) (⟨#[97]⟩ : ByteArray).data.toList 2 3 = 16 := ma2
  rw [e1] at hm1
  have hm2 := mk_move h2.at_ (by have := put_len [] la 1; simp at this; omega) ⟨#[97]⟩ (by decide) 1 3 ma3 (by decide)
  clear hg e1 h1 hF1 hc1
  dsimp only
  go_wp2_with fail
  refine hm1.mono ?_
  rintro e w2 ⟨rfl, rfl⟩
  dsimp only
  go_wp2_with fail
  refine hm2.mono ?_
  rintro e w3 ⟨rfl, F3, h3, hF3, hc3⟩
  have h4 : MA w w3 w.heap.size (putR (putR [] la 1) la 3) F3 := h2.step hc3 h3 hF3
  have hat := mk_at h4.at_ ⟨#[97]⟩ (by decide)
  have e1 : getR (putR (putR [] la 1) la 3) (⟨#[97]⟩ : ByteArray).data.toList = 3 := ma4.1
  have e2 : hasR (putR (putR [] la 1) la 3) (⟨#[97]⟩ : ByteArray).data.toList = true := ma4.2
  rw [e1, e2] at hat
  clear e1 e2 hm1 hm2 h3 hF3 hc3
  dsimp only
  go_wp2_with fail
  refine hat.mono ?_
  rintro e w4 ⟨rfl, rfl⟩
  dsimp only
  go_wp2_with fail
  refine (hv1 _).mono ?_
  rintro e w4 ⟨rfl, rfl⟩
  dsimp only
  go_wp2_with fail
  refine (hv2 _).mono ?_
  rintro e w4 ⟨rfl, rfl⟩
  dsimp only
  go_wp2_with fail
  go_ret
  exact ⟨by trivial, h4.chg⟩
end Go.Proofs.Ytggkeageoljegaa
