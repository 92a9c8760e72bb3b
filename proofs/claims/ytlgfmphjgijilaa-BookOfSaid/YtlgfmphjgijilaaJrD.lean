/- Journals: the reference's Copy, Post, Voided. -/
import Derived.Test.YtlgfmphjgijilaaJrC
namespace Go.Proofs.Ytlgfmphjgijilaa
open Go.RowKit Go.Vx
set_option linter.unusedVariables false
set_option linter.unusedSimpArgs false

set_option maxRecDepth 100000 in
set_option maxHeartbeats 4000000 in
theorem r1_copy (j : Jn) {w : World} {A : Option Addr} {c : Nat} (hs : Go.Vx.Src w 3 A j.lines.length (j.lines.flatMap lnEnc)) (hn : j.lines.length ≤ 1000000) : Calls Try.prog 16 #[jnV j (.slice A j.lines.length c)] w fun e w' => ∃ v F, e = .returned (jnV j v) ∧ Fix w' 28 3 v j.lines.length (j.lines.flatMap lnEnc) F ∧ (∀ g ∈ F, w.heap.size ≤ g) ∧ Chg [] w w' := by
  obtain ⟨i0, hi0, hz0, hz1, hz2⟩ := info_parts lineInfo
  obtain ⟨id, ent, per, ref, l, void⟩ := j
  unfold jnV
  dsimp only at *
  have hone := oneLines l
  have hz := ((Chg.refl [] w).alloc (.cells #[.int .i64 id, .int .i64 ent, .int .i64 per, .string ref, .slice A l.length c, .bool void] 31)).alloc (.cells #[.int .i64 0, .int .i64 0, .int .i64 0, .string ⟨#[]⟩, .slice none 0 0, .bool false] 31)
  have hB := (Blk.new w 31 #[.int .i64 id, .int .i64 ent, .int .i64 per, .string ref, .slice A l.length c, .bool void]).alloc (.cells #[.int .i64 0, .int .i64 0, .int .i64 0, .string ⟨#[]⟩, .slice none 0 0, .bool false] 31)
  have hB2 : Blk ((w.alloc (.cells #[.int .i64 id, .int .i64 ent, .int .i64 per, .string ref, .slice A l.length c, .bool void] 31)).alloc (.cells #[.int .i64 0, .int .i64 0, .int .i64 0, .string ⟨#[]⟩, .slice none 0 0, .bool false] 31)) (w.heap.size + 1) 31 _ := Blk.new_at (by simp)
  have hsz : ((w.alloc (.cells #[.int .i64 id, .int .i64 ent, .int .i64 per, .string ref, .slice A l.length c, .bool void] 31)).alloc (.cells #[.int .i64 0, .int .i64 0, .int .i64 0, .string ⟨#[]⟩, .slice none 0 0, .bool false] 31)).heap.size = w.heap.size + 2 := by simp
  replace hs := hs.chg hz (by simp)
  go_enter Try.func16, Try.ntmps16
  go_wp2_with (
    at_builtin
    refine wpList_append_fix rfl (.const (.slice none 0 0)) (.tmp 4) 29 rfl Try.underlying29 hi0 hz0 hz1 hz2 rfl (by omega) (n := 0) (xs := []) (F := []) rfl (Fix.nil _ _ _) rfl hs hone (by unfold maxLen; omega) (by omega) ?_
    intro v w2 F ha
    have hfv := ha.fix
    rw [Nat.zero_add, List.nil_append] at hfv
    have hz2 := ha.chg
    have hF : ∀ g ∈ F, w.heap.size + 2 ≤ g := fun g hg => by
      rcases ha.foot with h | h
      · rw [h] at hg; simp at hg
      · rw [h, List.mem_singleton] at hg; rw [hg, hsz]; exact Nat.le_refl _
    replace hB := hB.chg hz2 (by simp)
    replace hB2 := hB2.chg hz2 (by simp)
    obtain ⟨A2, c2, rfl, -⟩ := _root_.id hfv
    have d0 : w2.cell? ⟨w.heap.size, 0, none⟩ = some (.int .i64 id) := hB.cell 0
    have d1 : w2.cell? ⟨w.heap.size, 1, none⟩ = some (.int .i64 ent) := hB.cell 1
    have d2 : w2.cell? ⟨w.heap.size, 2, none⟩ = some (.int .i64 per) := hB.cell 2
    have d3 : w2.cell? ⟨w.heap.size, 3, none⟩ = some (.string ref) := hB.cell 3
    have d4 : w2.cell? ⟨w.heap.size, 4, none⟩ = some (.slice A l.length c) := hB.cell 4
    have d5 : w2.cell? ⟨w.heap.size, 5, none⟩ = some (.bool void) := hB.cell 5
    have f4 : w2.frozen? ⟨w.heap.size, 4, none⟩ = false := hB.frozen 4
    have g0 : w2.cell? ⟨w.heap.size + 1, 0, none⟩ = some (.int .i64 0) := hB2.cell 0
    have k0 : w2.frozen? ⟨w.heap.size + 1, 0, none⟩ = false := hB2.frozen 0
    have g1 : w2.cell? ⟨w.heap.size + 1, 1, none⟩ = some (.int .i64 0) := hB2.cell 1
    have k1 : w2.frozen? ⟨w.heap.size + 1, 1, none⟩ = false := hB2.frozen 1
    have g2 : w2.cell? ⟨w.heap.size + 1, 2, none⟩ = some (.int .i64 0) := hB2.cell 2
    have k2 : w2.frozen? ⟨w.heap.size + 1, 2, none⟩ = false := hB2.frozen 2
    have g3 : w2.cell? ⟨w.heap.size + 1, 3, none⟩ = some (.string ⟨#[]⟩) := hB2.cell 3
    have k3 : w2.frozen? ⟨w.heap.size + 1, 3, none⟩ = false := hB2.frozen 3
    have g4 : w2.cell? ⟨w.heap.size + 1, 4, none⟩ = some (.slice none 0 0) := hB2.cell 4
    have k4 : w2.frozen? ⟨w.heap.size + 1, 4, none⟩ = false := hB2.frozen 4
    have g5 : w2.cell? ⟨w.heap.size + 1, 5, none⟩ = some (.bool false) := hB2.cell 5
    have k5 : w2.frozen? ⟨w.heap.size + 1, 5, none⟩ = false := hB2.frozen 5
    have hz12 : Chg [] w w2 := hz.trans' hz2
    have hFn : ∀ g ∈ F, g ∉ [w.heap.size, w.heap.size + 1] := fun g hg hm => by
      have := hF g hg
      simp at hm
      omega
    clear hz hz2 hB hB2 ha hs hone hsz hi0 hz0 hz1
    replace hfv := Lib.hid hfv
    replace hFn := Lib.hid hFn
    replace hF := Lib.hid hF
    replace hz12 := Lib.hid hz12)
  all_goals
    refine bodyPost_ret (v := .agg #[.int .i64 id, .int .i64 ent, .int .i64 per, .string ref, .slice A2 l.length c2, .bool void]) (by rw [results_cell1 rfl]; go_simp) rfl ?_
    have key : ∀ W', Chg [w.heap.size, w.heap.size + 1] w2 W' → Fix W' 28 3 (.slice A2 l.length c2) l.length (l.flatMap lnEnc) F ∧ (∀ g ∈ F, w.heap.size ≤ g) ∧ Chg [] w W' := fun W' k =>
      ⟨hfv.out.chg k hFn.out, fun g hg => by have := hF.out g hg; omega, hz12.out.trans k (fun g hg => .inr (by simp at hg; omega))⟩
    exact ⟨_, F, rfl, key _ ((((((((Chg.refl _ w2).setCell (.inl (by simp)) _).setCell (.inl (by simp)) _).setCell (.inl (by simp)) _).setCell (.inl (by simp)) _).setCell (.inl (by simp)) _).setCell (.inl (by simp)) _).setCell (.inl (by simp)) _)⟩
theorem r1_voided (j : Jn) (v : Value) (hv : ∃ A m c, v = .slice A m c) (w : World) : Calls Try.prog 19 #[jnV j v] w fun e w' => e = .returned (jnV (voidedN j) v) ∧ Chg [] w w' := by
  obtain ⟨A, m, c, rfl⟩ := hv
  obtain ⟨id, ent, per, ref, l, void⟩ := j
  unfold jnV voidedN
  dsimp only
  go_enter Try.func19, Try.ntmps19
  go_wp2_with fail
  refine bodyPost_ret (v := .agg #[.int .i64 id, .int .i64 ent, .int .i64 per, .string ref, .slice A m c, .bool true]) (by rw [results_cell1 rfl]; go_simp) rfl ?_
  exact ⟨rfl, (((Chg.refl [] w).alloc _).alloc _)⟩
set_option maxRecDepth 100000 in
set_option maxHeartbeats 4000000 in
theorem r1_post {w : World} {A : Option Addr} {n c : Nat} {Q : List JV} (hs : Go.Vx.Src w 6 A n (Q.flatMap jvEnc)) (hn : n ≤ 1000000) (ho : ∀ q ∈ Q, JOk w q) (j : Jn) {A1 : Option Addr} {m c1 : Nat} (hj : Go.Vx.Src w 3 A1 m (j.lines.flatMap lnEnc)) (hm : m ≤ 1000000) (hr : j.ref.size ≤ maxLen) :
    Calls Try.prog 22 #[.slice A n c, jnV j (.slice A1 m c1)] w fun e w' => e = .returned (.int .i64 (postE Q j)) ∧ Chg [] w w' := by
  have hl : Q.length = n := by have := hs.1; rw [flatMap_len jvEnc_len] at this; omega
  have hck := fun W (k : Chg [] w W) => r1_check j (c := c1) (hj.chg k (by simp)) hm hr
  have hgt := fun W (k : Chg [] w W) => r1_get (c := c) (hs.chg k (by simp)) hn (fun q hq => by obtain ⟨A, c, h, -⟩ := ho q hq; exact ⟨A, _, c, h⟩) j.id
  have htk := fun W (k : Chg [] w W) => r1_taken (c := c) (hs.chg k (by simp)) hn j (.slice A1 m c1)
  obtain ⟨R, hR⟩ : ∃ R, postE Q j = R := ⟨_, rfl⟩
  have hRp : R = if checkE j ≠ 0 then checkE j else if foundB Q j.id then 7 else if takenB Q j then 8 else if 200 ≤ n then 13 else 0 := by rw [← hR, ← hl]; rfl
  have hgv : ∃ V, (∃ a b p s A m c x, V = Value.agg #[.int .i64 a, .int .i64 b, .int .i64 p, .string s, .slice A m c, .bool x]) ∧ getV Q j.id = V := by
    unfold getV
    cases hg : getJ Q j.id with
    | none => exact ⟨_, ⟨0, 0, 0, ⟨#[]⟩, none, 0, 0, false, rfl⟩, rfl⟩
    | some q =>
      obtain ⟨A, c, hp, -⟩ := ho q (getJ_mem hg).1
      exact ⟨_, ⟨q.j.id, q.j.ent, q.j.per, q.j.ref, A, q.j.lines.length, c, q.j.void, rfl⟩, by dsimp only; unfold jnV; rw [hp]⟩
  obtain ⟨V, ⟨a, b, p, s, Ap, mp, cp, x, rfl⟩, hV⟩ := hgv
  rw [hV] at hgt
  rw [hR]
  clear hR hV ho hs hj
  obtain ⟨id, ent, per, ref, ll, void⟩ := j
  unfold jnV at *
  dsimp only at *
  generalize checkE ⟨id, ent, per, ref, ll, void⟩ = E at *
  generalize foundB Q id = fb at *
  generalize takenB Q ⟨id, ent, per, ref, ll, void⟩ = tb at *
  have hB := Blk.new w 31 #[.int .i64 id, .int .i64 ent, .int .i64 per, .string ref, .slice A1 m c1, .bool void]
  have hz0 := (Chg.refl [] w).alloc (.cells #[.int .i64 id, .int .i64 ent, .int .i64 per, .string ref, .slice A1 m c1, .bool void] 31)
  have hck0 := hck _ hz0
  replace hgt := Lib.hid hgt
  replace htk := Lib.hid htk
  replace hRp := Lib.hid hRp
  clear hl hck
  go_enter Try.func22, Try.ntmps22
  go_wp2_with fail
  refine hck0.mono ?_
  rintro e w1 ⟨rfl, hz1⟩
  clear hck0
  have hB1 := hB.chg hz1 (by simp)
  have hz01 := hz0.trans' hz1
  have d0 := hB1.cell 0
  clear hz0 hz1 hB
  go_wp2_with fail
  refine (hgt.out _ hz01).mono ?_
  rintro e w2 ⟨rfl, hz2⟩
  have hB2 := (hB1.chg hz2 (by simp)).alloc (.cells #[.int .i64 a, .int .i64 b, .int .i64 p, .string s, .slice Ap mp cp, .bool x] 31)
  have hzz := (hz01.trans' hz2).alloc (.cells #[.int .i64 a, .int .i64 b, .int .i64 p, .string s, .slice Ap mp cp, .bool x] 31)
  have e0 := hB2.cell 0
  have e1 := hB2.cell 1
  have e2 := hB2.cell 2
  have e3 := hB2.cell 3
  have e4 := hB2.cell 4
  have e5 := hB2.cell 5
  clear d0 hB1 hz01 hz2 hB2
  by_cases hE : E = 0
  · subst hE
    cases fb with
    | true =>
      have hR : Hid (R = 7) := Lib.hid (by rw [hRp.out]; rfl)
      go_wp2_with fail
      go_ret
      exact ⟨by rw [hR.out]; rfl, hzz⟩
    | false =>
      go_wp2_with fail
      refine (htk.out _ hzz).mono ?_
      rintro e w3 ⟨rfl, hz3⟩
      have hzz3 := hzz.trans' hz3
      clear e0 e1 e2 e3 e4 e5 hz3 hzz
      cases tb with
      | true =>
        have hR : Hid (R = 8) := Lib.hid (by rw [hRp.out]; rfl)
        go_wp2_with fail
        go_ret
        exact ⟨by rw [hR.out]; rfl, hzz3⟩
      | false =>
        by_cases hn2 : 200 ≤ n
        · have hR : Hid (R = 13) := Lib.hid (by rw [hRp.out]; simp [hn2])
          have hb : (200 : Int) ≤ (n : Int) := by omega
          clear hn2
          go_wp2_with fail
          go_ret
          exact ⟨by rw [hR.out]; rfl, hzz3⟩
        · have hR : Hid (R = 0) := Lib.hid (by rw [hRp.out]; simp [hn2])
          have hb : ¬ (200 : Int) ≤ (n : Int) := by omega
          clear hn2
          go_wp2_with fail
          go_ret
          exact ⟨by rw [hR.out]; rfl, hzz3⟩
  · have hR : Hid (R = E) := Lib.hid (by rw [hRp.out, if_pos hE])
    have hb : (E != 0) = true := by simp [hE]
    clear hE
    go_wp2_with fail
    go_ret
    exact ⟨by rw [hR.out]; rfl, hzz⟩
end Go.Proofs.Ytlgfmphjgijilaa
