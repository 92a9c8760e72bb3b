/- Journals: Copy. -/
import Derived.Test.YtlgfmphjgijilaaJoD
import Derived.Laws.ResultCell
namespace Go.Proofs.Ytlgfmphjgijilaa
open Go.RowKit Go.Vx
set_option linter.unusedVariables false
set_option linter.unusedSimpArgs false
attribute [local go_sem] Lib.run_eql_slice_nil run_neq_slice_nil_any run_eql_nil_slice run_neq_nil_slice

theorem results_cell1 {fn : Func} {p : Tmp} {ty : TypeId} (h : fn.results = #[.cell p ty]) (tmps : Array Value) (P : Program) (w : World) :
    (results fn tmps).run P w = ((asAddr (tmps.getD p undef)).run P w).andThen fun a w₁ => (loadVar ty a).run P w₁ := by
  simp only [results, h]
  simp [Sem.run_bind, Result.andThen]
theorem lineInfo : (Try.prog.info? 28).map (fun i => (i.zero, i.size, i.bytes)) = some (some (.agg #[.int .i64 0, .int .i64 0, .int .i64 0]), 3, 24) := by kernel_rfl
theorem cloneLines {w : World} {A : Option Addr} {n c : Nat} {xs : List Value} (hs : Src w 3 A n xs) (h1 : ∀ u ∈ xs, u.oneCell' = true) (hn : n ≤ 1000000) :
    Calls Try.prog 50 #[.slice A n c] w fun e w' => ∃ v F, e = .returned v ∧ Fix w' 28 3 v n xs F ∧ Chg [] w w' ∧ (∀ g, g ∈ F → w.heap.size ≤ g) ∧ (A ≠ none → ∃ a' c', v = .slice (some a') n c') := by
  obtain ⟨i0, hi, hz0, hz1, hz2⟩ := info_parts lineInfo
  go_enter Try.func50, Try.ntmps50
  cases A with
  | none =>
    have hn0 : n = 0 := by
      rcases Nat.eq_zero_or_pos n with h | h
      · exact h
      · obtain ⟨ad, h, _⟩ := hs.2 h
        cases h
    subst hn0
    have hx : xs = [] := List.eq_nil_of_length_eq_zero (by simpa using hs.1)
    subst hx
    go_wp2
    go_ret
    exact ⟨_, [], rfl, Fix.nil _ _ _, Chg.refl _ _, by simp, by simp⟩
  | some a =>
    go_wp2_with (at_builtin; refine wpList_append_fix rfl (.tmp 5) (.tmp 6) 29 rfl Try.underlying29 hi hz0 hz1 hz2 rfl (by omega) (n := 0) (xs := []) (F := []) rfl (Fix.empty _ _ _ _) rfl (hs.alloc _) h1 (by unfold maxLen; omega) (by omega) ?_; intro v' w1 F1 ha)
    go_ret
    refine ⟨v', F1, rfl, by simpa using ha.fix, ?_, ?_, fun _ => ?_⟩
    · exact ((Chg.refl [] w).alloc _).trans ha.chg (by simp)
    · rcases ha.foot with h | h <;> rw [h] <;> simp
    · rcases Nat.eq_zero_or_pos n with h0 | h0
      · rw [(ha.same h0).1, h0]
        exact ⟨_, _, rfl⟩
      · obtain ⟨g, c, hv, -⟩ := ha.head h0
        rw [hv, Nat.zero_add]
        exact ⟨_, _, rfl⟩
set_option maxRecDepth 8000 in
set_option maxHeartbeats 2000000 in
theorem jo_copy (j : Jn) {w : World} {A : Option Addr} {n c : Nat} (hs : Src w 3 A n (j.lines.flatMap lnEnc)) (hn : n ≤ 1000000) : Calls Try.prog 33 #[jnV j (.slice A n c)] w fun e w' => ∃ v F, e = .returned (jnV j v) ∧ Fix w' 28 3 v n (j.lines.flatMap lnEnc) F ∧ (∀ g ∈ F, w.heap.size ≤ g) ∧ Chg [] w w' := by
  obtain ⟨id, ent, per, ref, l, void⟩ := j
  unfold jnV
  dsimp only at *
  have hone := oneLines l
  generalize l.flatMap lnEnc = xs at *
  have hcl := fun W (z : Chg [] w W) => cloneLines (c := c) (hs.chg z (by simp)) hone hn
  have hz := ((Chg.refl [] w).alloc (.cells #[.int .i64 id, .int .i64 ent, .int .i64 per, .string ref, .slice A n c, .bool void] 31)).alloc (.cells #[.int .i64 0, .int .i64 0, .int .i64 0, .string ⟨#[]⟩, .slice none 0 0, .bool false] 31)
  have hB := (Blk.new w 31 #[.int .i64 id, .int .i64 ent, .int .i64 per, .string ref, .slice A n c, .bool void]).alloc (.cells #[.int .i64 0, .int .i64 0, .int .i64 0, .string ⟨#[]⟩, .slice none 0 0, .bool false] 31)
  have hB2 := Blk.new (w.alloc (.cells #[.int .i64 id, .int .i64 ent, .int .i64 per, .string ref, .slice A n c, .bool void] 31)) 31 #[.int .i64 0, .int .i64 0, .int .i64 0, .string ⟨#[]⟩, .slice none 0 0, .bool false]
  have e0 : (w.alloc (.cells #[.int .i64 id, .int .i64 ent, .int .i64 per, .string ref, .slice A n c, .bool void] 31)).heap.size = w.heap.size + 1 := by simp
  rw [e0] at hB2
  clear e0
  go_enter Try.func33, Try.ntmps33
  go_wp2_with fail
  refine (hcl _ hz).mono ?_
  rintro e w2 ⟨v, F, rfl, hf, hz2, hF, -⟩
  replace hB := hB.chg hz2 (by simp)
  replace hB2 := hB2.chg hz2 (by simp)
  have hsz := hz2.size
  simp only [World.size_alloc] at hF
  obtain ⟨A2, c2, rfl, -⟩ := _root_.id hf
  have d0 : w2.cell? ⟨w.heap.size, 0, none⟩ = some (.int .i64 id) := hB.cell 0
  have d1 : w2.cell? ⟨w.heap.size, 1, none⟩ = some (.int .i64 ent) := hB.cell 1
  have d2 : w2.cell? ⟨w.heap.size, 2, none⟩ = some (.int .i64 per) := hB.cell 2
  have d3 : w2.cell? ⟨w.heap.size, 3, none⟩ = some (.string ref) := hB.cell 3
  have d4 : w2.cell? ⟨w.heap.size, 4, none⟩ = some (.slice A n c) := hB.cell 4
  have d5 : w2.cell? ⟨w.heap.size, 5, none⟩ = some (.bool void) := hB.cell 5
  have f4 : w2.frozen? ⟨w.heap.size, 4, none⟩ = false := hB.frozen 4
  have g0 : w2.cell? ⟨w.heap.size + 1, 0, none⟩ = some (.int .i64 0) := hB2.cell 0
  have k0 : w2.frozen? ⟨w.heap.size + 1, 0, none⟩ = false := hB2.frozen 0
  have g1 : w2.cell? ⟨w.heap.size + 1, 1, none⟩ = some (.int .i64 0) := hB2.cell 1
  have k1 : w2.frozen? ⟨w.heap.size + 1, 1, none⟩ = false := hB2.frozen 1
  have g2 : w2.cell? ⟨w.heap.size + 1, 2, none⟩ = some (.int .i64 0) := hB2.cell 2
  have k2 : w2.frozen? ⟨w.heap.size + 1, 2, none⟩ = false := hB2.frozen 2
  have g3 : w2.cell? ⟨w.heap.size + 1, 3, none⟩ = some (.string ⟨#[]⟩) := hB2.cell 3
  have k3 : w2.frozen? ⟨w.heap.size + 1, 3, none⟩ = false := hB2.frozen 3
  have g4 : w2.cell? ⟨w.heap.size + 1, 4, none⟩ = some (.slice none 0 0) := hB2.cell 4
  have k4 : w2.frozen? ⟨w.heap.size + 1, 4, none⟩ = false := hB2.frozen 4
  have g5 : w2.cell? ⟨w.heap.size + 1, 5, none⟩ = some (.bool false) := hB2.cell 5
  have k5 : w2.frozen? ⟨w.heap.size + 1, 5, none⟩ = false := hB2.frozen 5
  clear hcl
  have hz1 : Chg [] w w2 := hz.trans' hz2
  have hFn : ∀ g ∈ F, g ∉ [w.heap.size, w.heap.size + 1] := fun g hg hm => by
    have := hF g hg
    simp at hm
    omega
  clear hz hz2 hsz hB hB2
  go_wp2_with fail
  refine bodyPost_ret (v := .agg #[.int .i64 id, .int .i64 ent, .int .i64 per, .string ref, .slice A2 n c2, .bool void]) (by rw [results_cell1 rfl]; go_simp) rfl ?_
  have key : ∀ W', Chg [w.heap.size, w.heap.size + 1] w2 W' → Fix W' 28 3 (.slice A2 n c2) n xs F ∧ (∀ g ∈ F, w.heap.size ≤ g) ∧ Chg [] w W' := fun W' k =>
    ⟨hf.chg k hFn, fun g hg => by have := hF g hg; omega, hz1.trans k (fun g hg => .inr (by simp at hg; omega))⟩
  exact ⟨_, F, rfl, key _ ((((((((Chg.refl _ w2).setCell (.inl (by simp)) _).setCell (.inl (by simp)) _).setCell (.inl (by simp)) _).setCell (.inl (by simp)) _).setCell (.inl (by simp)) _).setCell (.inl (by simp)) _).setCell (.inl (by simp)) _)⟩
end Go.Proofs.Ytlgfmphjgijilaa
