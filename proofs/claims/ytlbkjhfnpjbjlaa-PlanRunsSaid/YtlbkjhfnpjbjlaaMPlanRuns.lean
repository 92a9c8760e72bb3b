/- The proof of PlanRuns, but for its row. -/
import Derived.Test.YtlbkjhfnpjbjlaaMPlan7
import Derived.Laws.Slices
import Derived.Deep.CutBlock
import Derived.Deep.QuietTactic
import Derived.Clock
/- Plan: the reference's Periods. -/
namespace Go.Proofs.Ytlbkjhfnpjbjlaa
open Go.RowKit Go.Vx
set_option linter.unusedVariables false
set_option linter.unusedSimpArgs false

set_option maxRecDepth 100000 in
set_option maxHeartbeats 8000000 in
theorem r1_periods (t : Tp) {tA wA : Option Addr} {tn wn tc wc : Nat} {w : World} (ht : Src w 1 tA tn (t.tg.map (Value.int .i64))) (hw : Src w 1 wA wn (t.wt.map (Value.int .i64))) (htn : tn ≤ 1000000) (hwn : wn ≤ 1000000) :
    Calls Try.prog 16 #[tpV t (.slice tA tn tc) (.slice wA wn wc)] w (PerPost w (perL t)) := by
  obtain ⟨i0, hi0, z0, z1, z2⟩ := info_parts infoInt
  have hck := fun W (z : Chg [] w W) => r1_checkPlan t (tc := tc) (wc := wc) (ht.chg z (by simp)) (hw.chg z (by simp)) htn hwn
  obtain ⟨PP, hPP⟩ : ∃ PP, PP = PerPost w (perL t) := ⟨_, rfl⟩
  rw [← hPP]
  have hpl : perL t = if checkT t = true then perAt t (cntT t) else [] := rfl
  have hcf := @check_front t
  have hcl := @cnt_lt t
  have hps := per_succ t
  have hpn := per_len t
  have hp0 : perAt t 0 = [] := rfl
  generalize cntT t = N at *
  generalize checkT t = cb at *
  generalize perL t = PL at *
  generalize perAt t = PA at *
  obtain ⟨kind, id, ent, frm, til, every, amt, deb, cred, tg, wt, rank⟩ := t
  unfold tpV at *
  dsimp only at *
  clear ht hw
  have hz := (Chg.refl [] w).alloc (.cells #[.int .i64 kind, .int .i64 id, .int .i64 ent, .int .i64 frm, .int .i64 til, .int .i64 every, .int .i64 amt, .int .i64 deb, .int .i64 cred, .slice tA tn tc, .slice wA wn wc, .int .i64 rank] 27)
  have hB := Blk.new w 27 #[.int .i64 kind, .int .i64 id, .int .i64 ent, .int .i64 frm, .int .i64 til, .int .i64 every, .int .i64 amt, .int .i64 deb, .int .i64 cred, .slice tA tn tc, .slice wA wn wc, .int .i64 rank]
  replace hPP := Lib.hid hPP
  replace hpl := Lib.hid hpl
  replace hcf := Lib.hid hcf
  replace hcl := Lib.hid hcl
  replace hps := Lib.hid hps
  replace hpn := Lib.hid hpn
  replace hp0 := Lib.hid hp0
  replace hck := Lib.hid hck
  go_enter Try.func16, Try.ntmps16
  go_wp2_with fail
  obtain ⟨w1, hw1⟩ : ∃ w1, w1 = w.alloc (.cells #[.int .i64 kind, .int .i64 id, .int .i64 ent, .int .i64 frm, .int .i64 til, .int .i64 every, .int .i64 amt, .int .i64 deb, .int .i64 cred, .slice tA tn tc, .slice wA wn wc, .int .i64 rank] 27) := ⟨_, rfl⟩
  rw [← hw1] at hB hz ⊢
  clear hw1
  have hzw := hz
  obtain ⟨jb, hjb⟩ : ∃ jb, w.heap.size = jb := ⟨_, rfl⟩
  rw [hjb] at hB ⊢
  have hBc := fun W (k : Chg [] w1 W) => hB.chg k (by simp)
  replace hBc := Lib.hid hBc
  have hws := hzw.size
  have hcl2 := fun h k => hcl.out h (k := k)
  replace hcl2 := Lib.hid hcl2
  clear hB hcl hjb hz
  have hN1 : cb = true → 0 < N := fun h => by
    obtain ⟨h1, h2, -⟩ := hcf.out h
    exact (hcl2.out h 0).2 (by simpa using h2)
  replace hN1 := Lib.hid hN1
  go_loopw [3, 4] (fun ov pv wr => ∃ (k : Nat) (F : List Nat), k ≤ N ∧ pv = .int .i64 (frm + (k : Int) * every) ∧ Fix wr 3 1 ov k ((PA k).map (Value.int .i64)) F ∧ (∀ g ∈ F, w1.heap.size ≤ g) ∧ Chg [] w1 wr ∧ (cb = false → k = 0)) (fun _ pv _ => 1300 - (intOf pv).toNat)
  case atStart => exact ⟨0, [], by omega, by simp, by rw [hp0.out]; exact Fix.nil _ _ _, by simp, Chg.refl _ _, fun _ => rfl⟩
  case round =>
    obtain ⟨k, F, hk, rfl, hf, hF, hzr, hcb⟩ := hrel
    have hB2 := hBc.out _ hzr
    have hck1 := hck.out _ (hzw.trans' hzr)
    have c0 := hB2.cell 0
    have c1 := hB2.cell 1
    have c2 := hB2.cell 2
    have c3 := hB2.cell 3
    have c4 := hB2.cell 4
    have c5 := hB2.cell 5
    have c6 := hB2.cell 6
    have c7 := hB2.cell 7
    have c8 := hB2.cell 8
    have c9 := hB2.cell 9
    have c10 := hB2.cell 10
    have c11 := hB2.cell 11
    replace hf := Lib.hid hf
    replace hF := Lib.hid hF
    clear hB2
    cases cb with
    | false =>
      obtain rfl : k = 0 := hcb rfl
      have hpl2 : Hid (PL = []) := Lib.hid (by rw [hpl.out]; rfl)
      clear hcb
      go_wp2_with fail
      refine hck1.mono ?_
      rintro e w2 ⟨rfl, hz2⟩
      clear c0 c1 c2 c3 c4 c5 c6 c7 c8 c9 c10 c11
      go_wp2_with fail
      rw [hPP.out, hpl2.out]
      have hf2 := hf.out
      rw [hp0.out] at hf2
      exact ⟨_, F, rfl, hf2.chg hz2 (by simp), fun g hg => by have := hF.out g hg; omega, (hzw.trans' hzr).trans' hz2⟩
    | true =>
    obtain ⟨h1, h2, h3, h4, h5, -⟩ := hcf.out (by trivial)
    have hpl2 : Hid (PL = PA N) := Lib.hid (by rw [hpl.out]; rfl)
    have hkk := hcl2.out (by trivial) k
    clear hcb
    go_wp2_with fail
    refine hck1.mono ?_
    rintro e w2 ⟨rfl, hz2⟩
    have hzr2 := hzr.trans' hz2
    have hf2 := hf.out.chg hz2 (by simp)
    have hB3 := hBc.out _ hzr2
    have d4 : w2.cell? ⟨jb, 4, none⟩ = some (.int .i64 til) := hB3.cell 4
    clear c0 c1 c2 c3 c4 c5 c6 c7 c8 c9 c10 c11 hf hck1 hB3
    by_cases hlt : k < N
    · have hle := hkk.1 hlt
      have hke : 0 ≤ (k : Int) * every := Int.mul_nonneg (by omega) (by omega)
      have hnx : frm + ((k + 1 : Nat) : Int) * every = frm + (k : Int) * every + every := by push_cast; rw [Int.add_mul]; omega
      have hk2 : k ≤ 1199 := by
        have : (k : Int) * 1 ≤ (k : Int) * every := Int.mul_le_mul_of_nonneg_left (by omega) (by omega)
        omega
      have hpk := hps.out k
      generalize hX : frm + (k : Int) * every = X at *
      have hw1 : IntKind.i64.wrap (X + every) = X + every := by rw [IntKind.wrap_i64]; omega
      have hX0 : 0 ≤ X := by omega
      replace hX := Lib.hid hX
      replace hnx := Lib.hid hnx
      replace hpk := Lib.hid hpk
      replace hke := Lib.hid hke
      have hle2 := Lib.hid hle
      have hX02 := Lib.hid hX0
      have bX : decide (X ≤ til) = true := by simpa using hle
      clear hkk hX0
      have hmade : ∀ (v0 v3 : Value) (w3 : World) (F3 : List Nat), Appended (w2.alloc (.cells #[.int .i64 X] 3)) w3 3 1 v0 v3 k 1 ((PA k).map (Value.int .i64)) [.int .i64 X] F F3 → Fix w3 3 1 v3 (k + 1) ((PA (k + 1)).map (Value.int .i64)) F3 ∧ (∀ g ∈ F3, w1.heap.size ≤ g) ∧ Chg [] w1 w3 := fun v0 v3 w3 F3 hA => by
        have hs := hzr2.size
        refine ⟨?_, fun g hg => ?_, (hzr2.alloc _).trans hA.chg (fun g hg => .inr (hF.out g hg))⟩
        · have := hA.fix
          rw [hpk.out, List.map_append]
          exact this
        · rcases hA.foot with h | h
          · rw [h] at hg; exact hF.out g hg
          · rw [h, List.mem_singleton] at hg; rw [hg]; simp; omega
      have d5 : ∀ W, Chg [] w1 W → W.cell? ⟨jb, 5, none⟩ = some (.int .i64 every) := fun W z => (hBc.out _ z).cell 5
      replace hmade := Lib.hid hmade
      replace d5 := Lib.hid d5
      have hfa := hf2.alloc (.cells #[.int .i64 X] 3)
      replace hfa := Lib.hid hfa
      clear hf2
      go_wp2_with (
        at_builtin
        refine wpList_append_fix rfl (.tmp 19) (.tmp 21) 22 rfl Try.underlying22 hi0 z0 z1 z2 rfl (by omega) rfl hfa.out rfl (Src.one1 rfl) (by simp [Value.oneCell']) (by unfold maxLen; omega) (by omega) ?_
        intro v3 w3 F3 hA3
        have hm3 := hmade.out _ v3 w3 F3 hA3
        have e5 := d5.out w3 hm3.2.2
        clear hA3
        replace hm3 := Lib.hid hm3)
      exact ⟨⟨k + 1, F3, by omega, by rw [hnx.out], hm3.out.1, hm3.out.2.1, hm3.out.2.2, fun h => by cases h⟩, by have := hle2.out; have := hX02.out; have := hX.out; simp [intOf]; omega⟩
    · obtain rfl : k = N := by omega
      have hgt : decide (frm + (k : Int) * every ≤ til) = false := by simp; omega
      generalize frm + (k : Int) * every = X at *
      replace hf2 := Lib.hid hf2
      clear hkk hlt
      go_wp2_with fail
      rw [hPP.out, hpl2.out]
      refine ⟨_, F, rfl, ?_, fun g hg => by have := hF.out g hg; omega, hzw.trans' hzr2⟩
      rw [hpn.out]
      exact hf2.out
end Go.Proofs.Ytlbkjhfnpjbjlaa
/- Journals: the reference's Copy. -/
namespace Go.Proofs.Ytlbkjhfnpjbjlaa
open Go.RowKit Go.Vx
set_option linter.unusedVariables false
set_option linter.unusedSimpArgs false

set_option maxRecDepth 100000 in
set_option maxHeartbeats 4000000 in
theorem r1_copy (j : Jn) {w : World} {A : Option Addr} {c : Nat} (hs : Go.Vx.Src w 3 A j.lines.length (j.lines.flatMap lnEnc)) (hn : j.lines.length ≤ 1000000) : Calls Try.prog 58 #[jnV j (.slice A j.lines.length c)] w fun e w' => ∃ v F, e = .returned (jnV j v) ∧ Fix w' 40 3 v j.lines.length (j.lines.flatMap lnEnc) F ∧ (∀ g ∈ F, w.heap.size ≤ g) ∧ Chg [] w w' := by
  obtain ⟨i0, hi0, hz0, hz1, hz2⟩ := info_parts lineInfo
  obtain ⟨id, ent, per, ref, l, void⟩ := j
  unfold jnV
  dsimp only at *
  have hone := oneLines l
  have hz := ((Chg.refl [] w).alloc (.cells #[.int .i64 id, .int .i64 ent, .int .i64 per, .string ref, .slice A l.length c, .bool void] 38)).alloc (.cells #[.int .i64 0, .int .i64 0, .int .i64 0, .string ⟨#[]⟩, .slice none 0 0, .bool false] 38)
  have hB := (Blk.new w 38 #[.int .i64 id, .int .i64 ent, .int .i64 per, .string ref, .slice A l.length c, .bool void]).alloc (.cells #[.int .i64 0, .int .i64 0, .int .i64 0, .string ⟨#[]⟩, .slice none 0 0, .bool false] 38)
  have hB2 : Blk ((w.alloc (.cells #[.int .i64 id, .int .i64 ent, .int .i64 per, .string ref, .slice A l.length c, .bool void] 38)).alloc (.cells #[.int .i64 0, .int .i64 0, .int .i64 0, .string ⟨#[]⟩, .slice none 0 0, .bool false] 38)) (w.heap.size + 1) 38 _ := Blk.new_at (by simp)
  have hsz : ((w.alloc (.cells #[.int .i64 id, .int .i64 ent, .int .i64 per, .string ref, .slice A l.length c, .bool void] 38)).alloc (.cells #[.int .i64 0, .int .i64 0, .int .i64 0, .string ⟨#[]⟩, .slice none 0 0, .bool false] 38)).heap.size = w.heap.size + 2 := by simp
  replace hs := hs.chg hz (by simp)
  go_enter Try.func58, Try.ntmps58
  go_wp2_with (
    at_builtin
    refine wpList_append_fix rfl (.const (.slice none 0 0)) (.tmp 4) 36 rfl Try.underlying36 hi0 hz0 hz1 hz2 rfl (by omega) (n := 0) (xs := []) (F := []) rfl (Fix.nil _ _ _) rfl hs hone (by unfold maxLen; omega) (by omega) ?_
    intro v w2 F ha
    have hfv := ha.fix
    rw [Nat.zero_add, List.nil_append] at hfv
    have hz2 := ha.chg
    have hF : ∀ g ∈ F, w.heap.size + 2 ≤ g := fun g hg => by
      rcases ha.foot with h | h
      · rw [h] at hg; simp at hg
      · rw [h, List.mem_singleton] at hg; rw [hg, hsz]; exact Nat.le_refl _
    replace hB := hB.chg hz2 (by simp)
    replace hB2 := hB2.chg hz2 (by simp)
    obtain ⟨A2, c2, rfl, -⟩ := _root_.id hfv
    have d0 : w2.cell? ⟨w.heap.size, 0, none⟩ = some (.int .i64 id) := hB.cell 0
    have d1 : w2.cell? ⟨w.heap.size, 1, none⟩ = some (.int .i64 ent) := hB.cell 1
    have d2 : w2.cell? ⟨w.heap.size, 2, none⟩ = some (.int .i64 per) := hB.cell 2
    have d3 : w2.cell? ⟨w.heap.size, 3, none⟩ = some (.string ref) := hB.cell 3
    have d4 : w2.cell? ⟨w.heap.size, 4, none⟩ = some (.slice A l.length c) := hB.cell 4
    have d5 : w2.cell? ⟨w.heap.size, 5, none⟩ = some (.bool void) := hB.cell 5
    have f4 : w2.frozen? ⟨w.heap.size, 4, none⟩ = false := hB.frozen 4
    have g0 : w2.cell? ⟨w.heap.size + 1, 0, none⟩ = some (.int .i64 0) := hB2.cell 0
    have k0 : w2.frozen? ⟨w.heap.size + 1, 0, none⟩ = false := hB2.frozen 0
    have g1 : w2.cell? ⟨w.heap.size + 1, 1, none⟩ = some (.int .i64 0) := hB2.cell 1
    have k1 : w2.frozen? ⟨w.heap.size + 1, 1, none⟩ = false := hB2.frozen 1
    have g2 : w2.cell? ⟨w.heap.size + 1, 2, none⟩ = some (.int .i64 0) := hB2.cell 2
    have k2 : w2.frozen? ⟨w.heap.size + 1, 2, none⟩ = false := hB2.frozen 2
    have g3 : w2.cell? ⟨w.heap.size + 1, 3, none⟩ = some (.string ⟨#[]⟩) := hB2.cell 3
    have k3 : w2.frozen? ⟨w.heap.size + 1, 3, none⟩ = false := hB2.frozen 3
    have g4 : w2.cell? ⟨w.heap.size + 1, 4, none⟩ = some (.slice none 0 0) := hB2.cell 4
    have k4 : w2.frozen? ⟨w.heap.size + 1, 4, none⟩ = false := hB2.frozen 4
    have g5 : w2.cell? ⟨w.heap.size + 1, 5, none⟩ = some (.bool false) := hB2.cell 5
    have k5 : w2.frozen? ⟨w.heap.size + 1, 5, none⟩ = false := hB2.frozen 5
    have hz12 : Chg [] w w2 := hz.trans' hz2
    have hFn : ∀ g ∈ F, g ∉ [w.heap.size, w.heap.size + 1] := fun g hg hm => by
      have := hF g hg
      simp at hm
      omega
    clear hz hz2 hB hB2 ha hs hone hsz hi0 hz0 hz1
    replace hfv := Lib.hid hfv
    replace hFn := Lib.hid hFn
    replace hF := Lib.hid hF
    replace hz12 := Lib.hid hz12)
  all_goals
    refine bodyPost_ret (v := .agg #[.int .i64 id, .int .i64 ent, .int .i64 per, .string ref, .slice A2 l.length c2, .bool void]) (by rw [results_cell1 rfl]; go_simp) rfl ?_
    have key : ∀ W', Chg [w.heap.size, w.heap.size + 1] w2 W' → Fix W' 40 3 (.slice A2 l.length c2) l.length (l.flatMap lnEnc) F ∧ (∀ g ∈ F, w.heap.size ≤ g) ∧ Chg [] w W' := fun W' k =>
      ⟨hfv.out.chg k hFn.out, fun g hg => by have := hF.out g hg; omega, hz12.out.trans k (fun g hg => .inr (by simp at hg; omega))⟩
    exact ⟨_, F, rfl, key _ ((((((((Chg.refl _ w2).setCell (.inl (by simp)) _).setCell (.inl (by simp)) _).setCell (.inl (by simp)) _).setCell (.inl (by simp)) _).setCell (.inl (by simp)) _).setCell (.inl (by simp)) _).setCell (.inl (by simp)) _)⟩
end Go.Proofs.Ytlbkjhfnpjbjlaa
/- Journals: the reference's Reverse. -/
namespace Go.Proofs.Ytlbkjhfnpjbjlaa
open Go.RowKit Go.Vx
set_option linter.unusedVariables false
set_option linter.unusedSimpArgs false

set_option maxRecDepth 100000 in
set_option maxHeartbeats 8000000 in
theorem r1_reverse (j : Jn) (rid rper : Int) {w : World} {A : Option Addr} {n c : Nat} (hs : Src w 3 A n (j.lines.flatMap lnEnc)) (hn : n ≤ 1000000) (hr : j.ref.size ≤ maxLen) :
    Calls Try.prog 49 #[jnV j (.slice A n c), .int .i64 rid, .int .i64 rper] w (RevPost w j rid rper) := by
  obtain rfl : n = j.lines.length := by have := hs.1; rw [flatMap_len lnEnc_len] at this; omega
  have hck := fun W (z : Chg [] w W) => r1_check (c := c) j (hs.chg z (by simp)) hn hr
  have hcp := fun W (z : Chg [] w W) => r1_copy (c := c) j (hs.chg z (by simp)) hn
  have hcf := @check_fits j
  have hRE : ∀ E, checkE j = E → E ≠ 0 → Hid (revE j rid rper = E) := fun E h h0 => Lib.hid (by unfold revE; rw [if_pos (by rw [h]; exact h0)]; exact h)
  have hRE2 : checkE j = 0 → Hid (revE j rid rper = checkE (revJ j rid rper)) := fun h => Lib.hid (by unfold revE; rw [if_neg (by simp [h])])
  obtain ⟨PP, hPP⟩ : ∃ PP, PP = RevPost w j rid rper := ⟨_, rfl⟩
  rw [← hPP]
  have hck2 := fun W A2 c2 (h : Src W 3 A2 j.lines.length ((j.lines.map negLn).flatMap lnEnc)) => r1_check (c := c2) (revJ j rid rper) h hn (by show ByteArray.size ⟨#[]⟩ ≤ maxLen; decide)
  obtain ⟨E, hE⟩ : ∃ E, checkE j = E := ⟨_, rfl⟩
  rw [hE] at hck
  obtain ⟨id, ent, per, ref, l, void⟩ := j
  unfold revJ at hck2
  unfold jnV at *
  dsimp only at *
  have hz := ((Chg.refl [] w).alloc (.cells #[.int .i64 id, .int .i64 ent, .int .i64 per, .string ref, .slice A l.length c, .bool void] 38)).alloc (.cells #[.int .i64 0, .int .i64 0, .int .i64 0, .string ⟨#[]⟩, .slice none 0 0, .bool false] 38)
  have hB := (Blk.new w 38 #[.int .i64 id, .int .i64 ent, .int .i64 per, .string ref, .slice A l.length c, .bool void]).alloc (.cells #[.int .i64 0, .int .i64 0, .int .i64 0, .string ⟨#[]⟩, .slice none 0 0, .bool false] 38)
  have hB2 := Blk.new (w.alloc (.cells #[.int .i64 id, .int .i64 ent, .int .i64 per, .string ref, .slice A l.length c, .bool void] 38)) 38 #[.int .i64 0, .int .i64 0, .int .i64 0, .string ⟨#[]⟩, .slice none 0 0, .bool false]
  rw [World.size_alloc] at hB2
  have hck1 := hck _ hz
  replace hPP := Lib.hid hPP
  replace hcf := Lib.hid hcf
  replace hRE := Lib.hid hRE
  replace hRE2 := Lib.hid hRE2
  replace hcp := Lib.hid hcp
  replace hck2 := Lib.hid hck2
  clear hck hs
  go_enter Try.func49, Try.ntmps49
  go_wp2_with fail
  refine hck1.mono ?_
  rintro e w1 ⟨rfl, hz1⟩
  clear hck1
  have hBx := hB.chg hz1 (by simp)
  have hB2x := hB2.chg hz1 (by simp)
  have hzw := hz.trans' hz1
  obtain ⟨jb, hjb⟩ : ∃ jb, w.heap.size = jb := ⟨_, rfl⟩
  rw [hjb] at hBx hB2x ⊢
  have hjs := Lib.hid hjb
  clear hz hz1 hB hB2 hjb
  have g0 := hB2x.cell 0
  have g1 := hB2x.cell 1
  have g2 := hB2x.cell 2
  have g3 := hB2x.cell 3
  have g4 := hB2x.cell 4
  have g5 := hB2x.cell 5
  have k0 := hB2x.frozen 0
  have k1 := hB2x.frozen 1
  have k2 := hB2x.frozen 2
  have k3 := hB2x.frozen 3
  have k4 := hB2x.frozen 4
  have k5 := hB2x.frozen 5
  by_cases h0 : E = 0
  · subst h0
    have hR2 := hRE2.out hE
    obtain ⟨hl8, hfit⟩ := hcf.out hE
    have hcp1 := hcp.out _ hzw
    have d0 := hBx.cell 0
    have d1 := hBx.cell 1
    have d2 := hBx.cell 2
    have d3 := hBx.cell 3
    have d4 := hBx.cell 4
    have d5 := hBx.cell 5
    replace hfit := Lib.hid hfit
    replace hE := Lib.hid hE
    clear hcf hRE hRE2 hcp
    go_wp2_with fail
    refine hcp1.mono ?_
    rintro e w2 ⟨v, F, rfl, hf, hF, hz2⟩
    obtain ⟨A2, c2, rfl, -⟩ := _root_.id hf
    clear hcp1 d0 d1 d2 d3 d4 d5 g0 g1 g2 g3 g4 g5 k0 k1 k2 k3 k4 k5
    go_wp2_with fail
    have hBr := Blk.new w2 38 #[.int .i64 rid, .int .i64 ent, .int .i64 rper, .string ⟨#[]⟩, .slice A2 l.length c2, .bool false]
    have hz3 := hz2.alloc (.cells #[.int .i64 rid, .int .i64 ent, .int .i64 rper, .string ⟨#[]⟩, .slice A2 l.length c2, .bool false] 38)
    have hzw3 := hzw.trans' hz3
    have hB6 := hB2x.chg hz3 (by simp)
    have hf3 := hf.alloc (.cells #[.int .i64 rid, .int .i64 ent, .int .i64 rper, .string ⟨#[]⟩, .slice A2 l.length c2, .bool false] 38)
    have hFw : ∀ g ∈ F, w.heap.size ≤ g := fun g hg => by have := hF g hg; have := hzw.size; omega
    have hs2 := hzw3.size
    obtain ⟨r0, hr0⟩ : ∃ r0, w2.heap.size = r0 := ⟨_, rfl⟩
    rw [hr0] at hBr
    try rw [hr0]
    clear hr0 hz2 hz3 hf hB2x hBx
    generalize w2.alloc (.cells #[.int .i64 rid, .int .i64 ent, .int .i64 rper, .string ⟨#[]⟩, .slice A2 l.length c2, .bool false] 38) = wa at *
    obtain ⟨n, hnn⟩ : ∃ n, l.length = n := ⟨_, rfl⟩
    rw [hnn] at hBr hf3 hn hl8 ⊢
    replace hnn := Lib.hid hnn
    replace hFw := Lib.hid hFw
    replace hF := Lib.hid hF
    have hrF : r0 ∉ F := hf3.ne_blk hBr (by decide)
    have hjF : jb + 1 ∉ F := hf3.ne_blk hB6 (by decide)
    have hBrc := fun W (k : Chg F wa W) => hBr.chg k hrF
    have hB6c := fun W (k : Chg F wa W) => hB6.chg k hjF
    replace hBrc := Lib.hid hBrc
    replace hB6c := Lib.hid hB6c
    replace hR2 := Lib.hid hR2.out
    clear hBr hB6 hrF hjF
    go_loopw [10] (fun iv wr => ∃ k : Nat, k ≤ n ∧ iv = .int .i64 k ∧ Fix wr 40 3 (.slice A2 n c2) n ((negLs l k).flatMap lnEnc) F ∧ Chg F wa wr) (fun iv _ => n - (intOf iv).toNat)
    case atStart => exact ⟨0, by omega, rfl, by simpa [negLs] using hf3, Chg.refl _ _⟩
    case round =>
      clear hf3
      obtain ⟨k, hk, rfl, hf, hzr⟩ := hrel
      have e4 : wr.cell? ⟨r0, 4, none⟩ = some (.slice A2 n c2) := (hBrc.out _ hzr).cell 4
      have e4' : wr.drew.cell? ⟨r0, 4, none⟩ = some (.slice A2 n c2) := e4
      by_cases hlt : k < n
      · have hkl : k < l.length := by rw [hnn.out]; exact hlt
        have hlt2 : (k : Int) < (n : Int) := by omega
        have hkw : IntKind.i64.wrap ((k : Int) + 1) = (k : Int) + 1 := by rw [IntKind.wrap_i64]; omega
        obtain ⟨g, c', hv, -, -, hFg, hc1, hfz1⟩ := hf.at_ (k := k) (j := 1) hlt (by omega)
        injection hv with hA2 _ hcc
        subst hA2 hcc
        have hel : ((negLs l k).flatMap lnEnc)[k * 3 + 1]? = some (.int .i64 l[k].amt) := by
          rw [flatMap_at lnEnc_len (negLs l k) k (by rw [negLs_len]; exact hkl) 1 (by omega), at_eq (by rw [negLs_len]; exact hkl), negLs_at l hkl]
          rfl
        rw [hel] at hc1
        have hst := hf.store rfl (k * 3 + 1) (.int .i64 (-l[k].amt))
        rw [set_flatL (negLs l k) k (by rw [negLs_len]; exact hkl) (.int .i64 (-l[k].amt)) (negLn l[k]) (by rw [negLs_at l hkl]; rfl), negLs_set l hkl] at hst
        have hb := hfit.out _ (List.getElem_mem hkl)
        have hng : IntKind.i64.wrap (-l[k].amt) = -l[k].amt := by rw [IntKind.wrap_i64]; omega
        have hgm : g ∈ F ∨ wa.heap.size ≤ g := .inl (by rw [hFg]; simp)
        have hst2 : Fix (wr.drew.setCell ⟨g, k * 3 + 1, none⟩ (.int .i64 (-l[k].amt))) 40 3 (.slice (some ⟨g, 0, none⟩) n c2) n ((negLs l (k + 1)).flatMap lnEnc) F := hst
        have hch := hzr.drew.setCell (p := ⟨g, k * 3 + 1, none⟩) hgm (.int .i64 (-l[k].amt))
        have hc1' : wr.drew.cell? ⟨g, k * 3 + 1, none⟩ = some (.int .i64 l[k].amt) := hc1
        have hfz1' : wr.drew.frozen? ⟨g, k * 3 + 1, none⟩ = false := hfz1
        replace hst2 := Lib.hid hst2
        replace hch := Lib.hid hch
        clear hst hb hel hf hgm hFg
        generalize l[k].amt = am at *
        go_wp2_with fail
        go_region
        go_wp2_with fail
        exact ⟨⟨k + 1, by omega, by go_num, hst2.out, hch.out⟩, by simp [intOf]; omega⟩
      · obtain rfl : k = n := by omega
        have hend : negLs l k = l.map negLn := by rw [← hnn.out]; exact negLs_end l
        rw [hend] at hf
        have hc2 := hck2.out wr A2 c2
        rw [hnn.out] at hc2
        have hc3 := hc2 (Fix.src hf)
        have hRv : revE ⟨id, ent, per, ref, l, void⟩ rid rper = checkE ⟨rid, ent, rper, ⟨#[]⟩, l.map negLn, false⟩ := hR2.out
        have hBr := hBrc.out _ hzr
        have q0 := hBr.cell 0
        have q1 := hBr.cell 1
        have q2 := hBr.cell 2
        have q3 := hBr.cell 3
        have q5 := hBr.cell 5
        have hzwr : Chg [] w wr := hzw3.trans hzr (fun g hg => .inr (hFw.out g hg))
        have hB6r := hB6c.out _ hzr
        generalize checkE ⟨rid, ent, rper, ⟨#[]⟩, l.map negLn, false⟩ = E2 at *
        replace hf := Lib.hid hf
        replace hRv := Lib.hid hRv
        clear hc2 hend hck2 hE
        go_wp2_with fail
        refine hc3.mono ?_
        rintro e w5 ⟨rfl, hz5⟩
        clear hc3 q0 q1 q2 q3 q5 e4 e4'
        have hB65 := hB6r.chg hz5 (by simp)
        have hBr5 := hBr.chg hz5 (by simp)
        have hz05 := hzwr.trans' hz5
        have g0 := hB65.cell 0
        have g1 := hB65.cell 1
        have g2 := hB65.cell 2
        have g3 := hB65.cell 3
        have g4 := hB65.cell 4
        have g5 := hB65.cell 5
        have k0 := hB65.frozen 0
        have k1 := hB65.frozen 1
        have k2 := hB65.frozen 2
        have k3 := hB65.frozen 3
        have k4 := hB65.frozen 4
        have k5 := hB65.frozen 5
        have q0 := hBr5.cell 0
        have q1 := hBr5.cell 1
        have q2 := hBr5.cell 2
        have q3 := hBr5.cell 3
        have q4 := hBr5.cell 4
        have q5 := hBr5.cell 5
        have hjm : jb + 1 ∈ ([] : List Nat) ∨ w.heap.size ≤ jb + 1 := .inr (by rw [hjs.out]; omega)
        have hjF2 := fun (g : Nat) (hg : g ∈ F) => (show g ∉ [jb + 1] from fun hm => by
          have e := List.mem_singleton.1 hm
          rw [e] at hg
          exact (hf.out.ne_blk hB6r (by decide)) hg)
        replace hjF2 := Lib.hid hjF2
        replace hz05 := Lib.hid hz05
        clear hB65 hBr5 hBr hB6r
        by_cases h2 : E2 = 0
        · have hb0 : (E2 != 0) = false := by simp [h2]
          replace h2 := Lib.hid h2
          go_wp2_with fail
          refine bodyPost_ret (v := .tuple #[.agg #[.int .i64 rid, .int .i64 ent, .int .i64 rper, .string ⟨#[]⟩, .slice A2 k c2, .bool false], .int .i64 0]) (by rw [results_cell_tmp rfl]; go_simp) rfl ?_
          rw [hPP.out]
          have hch := (((((((Chg.refl [jb + 1] w5).setCell (p := ⟨jb + 1, 0, none⟩) (.inl (by simp)) (.int .i64 rid)).setCell (p := ⟨jb + 1, 1, none⟩) (.inl (by simp)) (.int .i64 ent)).setCell (p := ⟨jb + 1, 2, none⟩) (.inl (by simp)) (.int .i64 rper)).setCell (p := ⟨jb + 1, 3, none⟩) (.inl (by simp)) (.string ⟨#[]⟩)).setCell (p := ⟨jb + 1, 4, none⟩) (.inl (by simp)) (.slice A2 k c2)).setCell (p := ⟨jb + 1, 5, none⟩) (.inl (by simp)) (.bool false))
          refine ⟨fun h => absurd (by rw [hRv.out]; exact h2.out) h, fun _ => ⟨.slice A2 k c2, F, rfl, ?_, hFw.out, hz05.out.trans hch (fun g hg => by rw [List.mem_singleton.1 hg]; exact hjm)⟩⟩
          have hfe := (hf.out.chg hz5 (by simp)).chg hch hjF2.out
          dsimp only
          rw [hnn.out]
          exact hfe
        · have hb0 : (E2 != 0) = true := by simp [h2]
          replace h2 := Lib.hid h2
          go_wp2_with fail
          refine bodyPost_ret (v := .tuple #[.agg #[.int .i64 0, .int .i64 0, .int .i64 0, .string ⟨#[]⟩, .slice none 0 0, .bool false], .int .i64 E2]) (by rw [results_cell_tmp rfl]; go_simp) rfl ?_
          rw [hPP.out]
          refine ⟨fun _ => ⟨by rw [hRv.out]; rfl, (((((hz05.out.setCell hjm _).setCell hjm _).setCell hjm _).setCell hjm _).setCell hjm _).setCell hjm _⟩, fun h => absurd (by rw [← hRv.out]; exact h) h2.out⟩
  · have hR := hRE.out E hE h0
    have hb0 : (E != 0) = true := by simp [h0]
    replace h0 := Lib.hid h0
    clear hcf hRE hRE2 hcp hck2 hE
    go_wp2_with fail
    refine bodyPost_ret (v := .tuple #[.agg #[.int .i64 0, .int .i64 0, .int .i64 0, .string ⟨#[]⟩, .slice none 0 0, .bool false], .int .i64 E]) (by rw [results_cell_tmp rfl]; go_simp) rfl ?_
    rw [hPP.out]
    have hjm : jb + 1 ∈ ([] : List Nat) ∨ w.heap.size ≤ jb + 1 := .inr (by rw [hjs.out]; omega)
    refine ⟨fun _ => ⟨by rw [hR.out]; rfl, ?_⟩, fun h => absurd (by rw [← hR.out]; exact h) h0.out⟩
    exact (((((hzw.setCell hjm _).setCell hjm _).setCell hjm _).setCell hjm _).setCell hjm _).setCell hjm _
end Go.Proofs.Ytlbkjhfnpjbjlaa
/- Plan: what the reference makes, in plain words. -/
namespace Go.Proofs.Ytlbkjhfnpjbjlaa
open Go.RowKit Go.Vx
set_option linter.unusedVariables false
set_option linter.unusedSimpArgs false

theorem per_in {t : Tp} {p : Int} (h : p ∈ perL t) : checkT t = true ∧ 0 ≤ p ∧ p ≤ 1199 := by
  unfold perL at h
  split at h
  · rename_i hc
    refine ⟨hc, ?_⟩
    unfold perAt at h
    obtain ⟨k, hk, rfl⟩ := List.mem_map.1 h
    have hkN := (cnt_lt hc).1 (List.mem_range.1 hk)
    obtain ⟨h1, h2, h3, h4, h5, -⟩ := check_front hc
    have : 0 ≤ (k : Int) * t.every := Int.mul_nonneg (by omega) (by omega)
    omega
  · cases h
theorem onC_next {p : Int} (h0 : 0 ≤ p) (h1 : p ≤ 1199) : (perB (p + 1) = true → onC p 1 = (p + 1, 0)) ∧ (perB (p + 1) = false → (onC p 1).2 ≠ 0) := by
  unfold perB onC okTm
  constructor
  · intro h
    simp only [Bool.and_eq_true, decide_eq_true_eq] at h
    rw [if_pos (by simp; omega)]
  · intro h
    rw [if_neg (by simp only [Bool.and_eq_true, decide_eq_true_eq, Bool.and_eq_false_iff, decide_eq_false_iff_not] at h ⊢; omega)]
    decide
theorem make_raw {t : Tp} {per id : Int} (hp : per ∈ perL t) : makeL t per id = if goodL (rawL t per id) = true then rawL t per id else [] := by
  unfold makeL
  rw [if_pos (per_in hp).1, if_pos (by simpa using hp)]
theorem make_acc {t : Tp} {per id : Int} (hp : per ∈ perL t) (hk : t.kind = 1) : makeL t per id = if checkE (accJ t (j0T t per id)) ≠ 0 then [] else if perB (per + 1) = true then (if revE (accJ t (j0T t per id)) (IntKind.i64.wrap (id + 1)) (per + 1) ≠ 0 then [] else [accJ t (j0T t per id), revJ (accJ t (j0T t per id)) (IntKind.i64.wrap (id + 1)) (per + 1)]) else [accJ t (j0T t per id)] := by
  obtain ⟨hc, h0, h1⟩ := per_in hp
  obtain ⟨n1, n2⟩ := onC_next h0 h1
  have hraw : rawL t per id = if (onC per 1).2 ≠ 0 then [accJ t (j0T t per id)] else if revE (accJ t (j0T t per id)) (IntKind.i64.wrap (id + 1)) (onC per 1).1 ≠ 0 then [] else [accJ t (j0T t per id), revJ (accJ t (j0T t per id)) (IntKind.i64.wrap (id + 1)) (onC per 1).1] := by
    unfold rawL
    rw [if_pos hk]
    rfl
  rw [make_raw hp]
  generalize accJ t (j0T t per id) = a at *
  generalize IntKind.i64.wrap (id + 1) = r at *
  cases hb : perB (per + 1) with
  | false =>
    rw [if_pos (n2 hb)] at hraw
    rw [hraw, if_neg (show ¬ false = true by simp)]
    unfold goodL
    by_cases he : checkE a = 0 <;> simp [he]
  | true =>
    rw [n1 hb] at hraw
    dsimp only at hraw
    rw [if_neg (show ¬ (0 : Int) ≠ 0 by simp)] at hraw
    rw [hraw, if_pos rfl]
    by_cases hr : revE a r (per + 1) = 0
    · have hE : checkE a = 0 ∧ checkE (revJ a r (per + 1)) = 0 := by
        unfold revE at hr
        split at hr
        · rename_i h; exact absurd hr h
        · rename_i h; simp only [ne_eq, Decidable.not_not] at h; exact ⟨h, hr⟩
      unfold goodL
      simp [hr, hE.1, hE.2]
    · unfold goodL
      simp [hr]
theorem make_all {t : Tp} {per id : Int} (hp : per ∈ perL t) (hk : ¬ t.kind = 1) : makeL t per id = if checkE (allJ t (j0T t per id)) ≠ 0 then [] else [allJ t (j0T t per id)] := by
  have hraw : rawL t per id = [allJ t (j0T t per id)] := by unfold rawL; rw [if_neg hk]
  rw [make_raw hp, hraw]
  unfold goodL
  by_cases he : checkE (allJ t (j0T t per id)) = 0 <;> simp [he]
theorem make_no {t : Tp} {per id : Int} (hp : per ∉ perL t) : makeL t per id = [] := by
  unfold makeL
  split
  · rw [if_neg (by simpa using hp)]
  · rfl
theorem kind_two {t : Tp} (h : checkT t = true) (hk : ¬ t.kind = 1) : allB t = true := by
  unfold checkT at h
  rw [if_neg hk, Bool.and_eq_true] at h
  have := h.2
  split at this
  · exact this
  · cases this
/-- What the reference's MakePlan leaves. -/
def RMkPost (w : World) (L : List Jn) (e : Ending) (w' : World) : Prop := ∃ (X : List JV) (v : Value) (F : List Nat), e = .returned (.tuple #[v, .bool (!L.isEmpty)]) ∧ Fix w' 38 6 v X.length (X.flatMap jvEnc) F ∧ jns X = L ∧ (∀ x ∈ X, Fix w' 40 3 x.pv x.j.lines.length (x.j.lines.flatMap lnEnc) x.pF) ∧ (∀ g ∈ F, w.heap.size ≤ g) ∧ (∀ x ∈ X, ∀ g ∈ x.pF, w.heap.size ≤ g) ∧ Chg [] w w'
end Go.Proofs.Ytlbkjhfnpjbjlaa
/- Plan: the reference's MakePlan. -/
namespace Go.Proofs.Ytlbkjhfnpjbjlaa
open Go.RowKit Go.Vx
set_option linter.unusedVariables false
set_option linter.unusedSimpArgs false

theorem cont_app (l : List Int) (x p : Int) : (l ++ [x]).contains p = (l.contains p || (x == p)) := by
  rw [Bool.eq_iff_iff]
  simp only [List.contains_iff_mem, List.mem_append, List.mem_singleton, Bool.or_eq_true, beq_iff_eq]
  constructor <;> rintro (h | h) <;> first | exact .inl h | exact .inr h.symm
theorem cont_step (L : List Int) (p : Int) {k : Nat} (hk : k < L.length) : (L.take (k + 1)).contains p = ((L.take k).contains p || (L.getD k 0 == p)) := by
  rw [List.take_succ_eq_append_getElem hk, cont_app]
  simp [List.getD, List.getElem?_eq_getElem hk]
set_option maxRecDepth 100000 in
set_option maxHeartbeats 16000000 in
theorem r1_makePlan (t : Tp) (per id : Int) {tA wA : Option Addr} {tn wn tc wc : Nat} {w : World} (ht : Src w 1 tA tn (t.tg.map (Value.int .i64))) (hw : Src w 1 wA wn (t.wt.map (Value.int .i64))) (htn : tn ≤ 1000000) (hwn : wn ≤ 1000000) :
    Calls Try.prog 34 #[tpV t (.slice tA tn tc) (.slice wA wn wc), .int .i64 per, .int .i64 id] w (RMkPost w (makeL t per id)) := by
  obtain ⟨i0, hi0, z0, z1, z2⟩ := info_parts lineInfo
  obtain ⟨j0, hj0, y0, y1, y2⟩ := info_parts journalInfo
  obtain ⟨PP, hPP⟩ : ∃ PP, PP = RMkPost w (makeL t per id) := ⟨_, rfl⟩
  rw [← hPP]
  have hbad : makeL t per id = [] → Hid (∀ W, Chg [] w W → PP (.returned (.tuple #[.slice none 0 0, .bool false])) W) := fun h => Lib.hid fun W z => by
    rw [hPP, h]
    exact ⟨[], _, [], rfl, Fix.nil _ _ _, rfl, by simp, by simp, by simp, z⟩
  have hpr := fun W (z : Chg [] w W) => r1_periods t (tc := tc) (wc := wc) (ht.chg z (by simp)) (hw.chg z (by simp)) htn hwn
  have hacc := @make_acc t per id
  have hall := @make_all t per id
  have hno := @make_no t per id
  have hpi := @per_in t per
  have hkt := @kind_two t
  have hlt : t.tg.length = tn := by have := ht.1; simpa using this
  have hlw : t.wt.length = wn := by have := hw.1; simpa using this
  have hpl := perL_len t
  have hcf := @check_front t
  have hPn : (perL t).length ≤ 1200 := perL_len t
  have haJ : accJ t (j0T t per id) = ⟨id, t.ent, per, ⟨#[]⟩, [⟨t.deb, t.amt, 0⟩, ⟨t.cred, -t.amt, 0⟩], false⟩ := rfl
  have hsg : ∀ W, Chg [] w W → okM t.amt = true → weigh t.wt ≠ 0 → Calls Try.prog 26 #[.int .i64 t.amt, .slice wA wn wc] W (SplitGood W wn ((shT t).map (Value.int .i64))) := fun W z h0 h1 => by
    have := r_split_good (c := wc) (hw.chg z (by simp)) h0 h1
    rw [signed_sgI] at this
    exact this
  have haA : allJ t (j0T t per id) = ⟨id, t.ent, per, ⟨#[]⟩, legsN t.tg (shT t) t.tg.length ++ [⟨t.cred, -t.amt, 0⟩], false⟩ := rfl
  rw [haA, hlt] at hall
  have hallk : checkT t = true → ¬ t.kind = 1 → okM t.amt = true ∧ weigh t.wt ≠ 0 ∧ wn = tn ∧ tn < 8 := fun hc hk => by
    have := hkt hc hk
    unfold allB at this
    simp only [Bool.and_eq_true, decide_eq_true_eq, bne_iff_ne] at this
    exact ⟨this.2.2.2.2.1, this.2.2.2.2.2, by have := this.2.2.1; omega, by have := this.2.1; omega⟩
  have hL1 := legs_succ t.tg (shT t)
  have hL2 := legs_len t.tg (shT t)
  have hL0 : legsN t.tg (shT t) 0 = [] := rfl
  have htc : ∀ W, Chg [] w W → ∀ i, i < tn → ∃ ad, tA = some ad ∧ W.cell? (ad.add i) = some (.int .i64 (t.tg.getD i 0)) := fun W z i hi => by
    obtain ⟨ad, rfl, hc⟩ := (ht.chg z (by simp)).2 (by omega)
    refine ⟨ad, rfl, hc i _ ?_⟩
    rw [List.getElem?_map, List.getElem?_eq_getElem (by omega)]
    simp [List.getD, List.getElem?_eq_getElem (show i < t.tg.length by omega)]
  clear haA
  generalize legsN t.tg (shT t) = LG at *
  generalize shT t = S at *
  generalize perL t = PL at *
  generalize makeL t per id = ML at *
  obtain ⟨rid, hrid⟩ : ∃ r, IntKind.i64.wrap (id + 1) = r := ⟨_, rfl⟩
  rw [hrid] at hacc
  rw [haJ] at hacc
  clear haJ
  have hTall := hall
  obtain ⟨kind, id', ent, frm, til, every, amt, deb, cred, tg, wt, rank⟩ := t
  unfold tpV
  dsimp only at *
  have hz := (Chg.refl [] w).alloc (.cells #[.int .i64 kind, .int .i64 id', .int .i64 ent, .int .i64 frm, .int .i64 til, .int .i64 every, .int .i64 amt, .int .i64 deb, .int .i64 cred, .slice tA tn tc, .slice wA wn wc, .int .i64 rank] 27)
  have hB := Blk.new w 27 #[.int .i64 kind, .int .i64 id', .int .i64 ent, .int .i64 frm, .int .i64 til, .int .i64 every, .int .i64 amt, .int .i64 deb, .int .i64 cred, .slice tA tn tc, .slice wA wn wc, .int .i64 rank]
  have hpr1 := hpr _ hz
  unfold tpV at hpr1
  dsimp only at hpr1
  replace hPP := Lib.hid hPP
  replace hbad := Lib.hid hbad
  replace hacc := Lib.hid hacc
  replace hTall := Lib.hid hTall
  replace hno := Lib.hid hno
  replace hpi := Lib.hid hpi
  clear hkt
  replace hlt := Lib.hid hlt
  replace hlw := Lib.hid hlw
  replace hcf := Lib.hid hcf
  replace hsg := Lib.hid hsg
  replace hallk := Lib.hid hallk
  replace hL0 := Lib.hid hL0
  replace hL1 := Lib.hid hL1
  replace hL2 := Lib.hid hL2
  replace htc := Lib.hid htc
  replace hrid2 := Lib.hid hrid
  clear hpr hall hrid hpl
  go_enter Try.func34, Try.ntmps34
  go_wp2_with fail
  refine hpr1.mono ?_
  rintro e w1 ⟨pv, pF, rfl, hpf, hpF, hz1⟩
  clear hpr1
  obtain ⟨pA, pc, rfl, -, hpc, hpm, -⟩ := _root_.id hpf
  have hzw := hz.trans' hz1
  obtain ⟨jb, hjb⟩ : ∃ jb, w.heap.size = jb := ⟨_, rfl⟩
  have hB1 := hB.chg hz1 (by simp)
  rw [hjb] at hB1 ⊢
  have hws := hzw.size
  have hjs := Lib.hid hjb
  have hcell : ∀ k, k < PL.length → ∃ ad, pA = some ad ∧ w1.cell? (ad.add k) = some (.int .i64 (PL.getD k 0)) := fun k hk => by
    obtain ⟨ad, rfl, hc⟩ := (Fix.src hpf).2 (by omega)
    refine ⟨ad, rfl, hc k _ ?_⟩
    rw [List.getElem?_map, List.getElem?_eq_getElem hk]
    simp [List.getD, List.getElem?_eq_getElem hk]
  have hstep := fun k => @cont_step PL per k
  have hc0 : (PL.take 0).contains per = false := rfl
  have hcN : (PL.take PL.length).contains per = true ↔ per ∈ PL := by rw [List.take_length]; simp
  have hBc := Lib.hid fun W (S : List Nat) (k : Chg S w1 W) (hS : jb ∉ S) => hB1.chg k hS
  have hjl := hB1.lt
  generalize hPl : PL.length = pn at *
  generalize hCT : (fun k => (PL.take k).contains per) = CT at *
  have hstep2 : ∀ k, k < pn → CT (k + 1) = (CT k || (PL.getD k 0 == per)) := fun k hk => by rw [← hCT]; exact hstep k hk
  have hc02 : CT 0 = false := by rw [← hCT]; exact hc0
  have hcN2 : CT pn = true ↔ per ∈ PL := by rw [← hCT]; exact hcN
  replace hcell := Lib.hid hcell
  replace hstep2 := Lib.hid hstep2
  replace hc02 := Lib.hid hc02
  replace hcN2 := Lib.hid hcN2
  replace hPl := Lib.hid hPl
  clear hstep hc0 hcN hCT hpf hpF hB hB1 hz hjb hpc hpm
  go_wp2_with fail
  go_loopw [9, 10] (fun cv iv wr => ∃ k : Nat, k ≤ pn ∧ iv = .int .i64 k ∧ cv = .bool (CT k) ∧ wr = w1) (fun _ iv _ => pn - (intOf iv).toNat)
  case atStart => exact ⟨0, by omega, rfl, by rw [hc02.out], rfl⟩
  case round =>
    obtain ⟨k, hk, rfl, rfl, rfl⟩ := hrel
    have hkw : IntKind.i64.wrap ((k : Int) + 1) = (k : Int) + 1 := by rw [IntKind.wrap_i64]; omega
    by_cases hlk : k < pn
    · have hs := hstep2.out k hlk
      have hlk2 : (k : Int) < (pn : Int) := by omega
      cases hck : CT k with
      | true =>
        rw [hck] at hs
        have hs' := Lib.hid hs
        clear hs
        replace hck := Lib.hid hck
        go_wp2_with fail
        exact ⟨⟨k + 1, by omega, by go_num, by rw [hs'.out]; rfl, by trivial⟩, by simp [intOf]; omega⟩
      | false =>
        rw [hck] at hs
        have hs' := Lib.hid hs
        clear hs
        replace hck := Lib.hid hck
        obtain ⟨ad, rfl, q0⟩ := hcell.out k hlk
        generalize PL.getD k 0 = y at *
        go_wp2_with fail
        exact ⟨⟨k + 1, by omega, by go_num, by rw [hs'.out]; rfl, by trivial⟩, by simp [intOf]; omega⟩
    · obtain rfl : k = pn := by omega
      cases hck : CT k with
      | false =>
        have hb := hbad.out (hno.out fun h => by have := hcN2.out.2 h; rw [hck] at this; cases this)
        clear hlk hck
        go_wp2_with fail
        exact hb.out _ hzw
      | true =>
        have hin : per ∈ PL := hcN2.out.1 hck
        obtain ⟨hct, hp0, hp9⟩ := hpi.out hin
        obtain ⟨-, -, -, -, -, q6, q7, -⟩ := hcf.out hct
        have hneg : IntKind.i64.wrap (-amt) = -amt := by rw [IntKind.wrap_i64]; omega
        have hper : IntKind.i64.wrap (per + 1) = per + 1 := by rw [IntKind.wrap_i64]; omega
        have hBr := hBc.out _ _ (Chg.refl [] wr) (by simp)
        have c0 := hBr.cell 0
        have c2 := hBr.cell 2
        have c6 := hBr.cell 6
        have c7 := hBr.cell 7
        have c8 := hBr.cell 8
        have c9 := hBr.cell 9
        have c10 := hBr.cell 10
        replace hin := Lib.hid hin
        replace hct := Lib.hid hct
        clear hlk hck hBr hcell hstep2 hc02 hcN2 hk
        have hrid3 := hrid2.out
        by_cases hk1 : kind = 1
        · have b1 : (kind == 1) = true := by simpa using hk1
          have hm := hacc.out hin.out hk1
          obtain ⟨r0, hr0⟩ : ∃ r0, wr.heap.size = r0 := ⟨_, rfl⟩
          have hz0 := ((Chg.refl [] wr).alloc (.cells #[.int .i64 id, .int .i64 ent, .int .i64 per, .string ⟨#[]⟩, .slice (some ⟨r0 + 1, 0, none⟩) 2 2, .bool false] 38)).alloc (.cells #[.int .i64 deb, .int .i64 amt, .int .i64 0, .int .i64 cred, .int .i64 (-amt), .int .i64 0] 40)
          have hBj : Blk ((wr.alloc (.cells #[.int .i64 id, .int .i64 ent, .int .i64 per, .string ⟨#[]⟩, .slice (some ⟨r0 + 1, 0, none⟩) 2 2, .bool false] 38)).alloc (.cells #[.int .i64 deb, .int .i64 amt, .int .i64 0, .int .i64 cred, .int .i64 (-amt), .int .i64 0] 40)) r0 38 _ := (Blk.new_at hr0).alloc _
          have hBl : Blk ((wr.alloc (.cells #[.int .i64 id, .int .i64 ent, .int .i64 per, .string ⟨#[]⟩, .slice (some ⟨r0 + 1, 0, none⟩) 2 2, .bool false] 38)).alloc (.cells #[.int .i64 deb, .int .i64 amt, .int .i64 0, .int .i64 cred, .int .i64 (-amt), .int .i64 0] 40)) (r0 + 1) 40 _ := Blk.new_at (by rw [World.size_alloc, hr0])
          have hfl := fix_lit (n := 2) (size := 3) hBl rfl (by omega)
          obtain ⟨W, hW⟩ : ∃ W, W = (wr.alloc (.cells #[.int .i64 id, .int .i64 ent, .int .i64 per, .string ⟨#[]⟩, .slice (some ⟨r0 + 1, 0, none⟩) 2 2, .bool false] 38)).alloc (.cells #[.int .i64 deb, .int .i64 amt, .int .i64 0, .int .i64 cred, .int .i64 (-amt), .int .i64 0] 40) := ⟨_, rfl⟩
          rw [← hW] at hBj hBl hfl hz0
          have hsW : W.heap.size = r0 + 2 := by rw [hW, World.size_alloc, World.size_alloc, hr0]
          have hck := r1_check ⟨id, ent, per, ⟨#[]⟩, [⟨deb, amt, 0⟩, ⟨cred, -amt, 0⟩], false⟩ (c := 2) (Fix.src hfl) (by omega) (by show ByteArray.size ⟨#[]⟩ ≤ maxLen; decide)
          unfold jnV at hck
          dsimp only at hck
          have hrv := fun W2 (z : Chg [] W W2) => r1_reverse ⟨id, ent, per, ⟨#[]⟩, [⟨deb, amt, 0⟩, ⟨cred, -amt, 0⟩], false⟩ rid (per + 1) (c := 2) (Fix.src (hfl.chg z (by simp))) (by omega) (by show ByteArray.size ⟨#[]⟩ ≤ maxLen; decide)
          have hval := r1_valid (per + 1)
          unfold RevPost jnV at hrv
          generalize hE : checkE ⟨id, ent, per, ⟨#[]⟩, [⟨deb, amt, 0⟩, ⟨cred, -amt, 0⟩], false⟩ = E at *
          generalize hRE : revE ⟨id, ent, per, ⟨#[]⟩, [⟨deb, amt, 0⟩, ⟨cred, -amt, 0⟩], false⟩ rid (per + 1) = RE at *
          unfold revJ at hrv hm
          dsimp only at hrv hm
          replace hm := Lib.hid hm
          replace hrv := Lib.hid hrv
          replace hsW := Lib.hid hsW
          replace hW := Lib.hid hW
          have hBc0 := hBc.out _ _ hz0 (by simp)
          have hBt := Lib.hid fun W2 (z : Chg [] W W2) => hBc0.chg z (by simp)
          have hBjc := Lib.hid fun W2 (z : Chg [] W W2) => hBj.chg z (by simp)
          clear hE hRE hBc0 hBj hBl
          replace hfl := Lib.hid hfl
          have hwr0 : w.heap.size ≤ r0 := by have := hzw.size; omega
          replace hr0 := Lib.hid hr0
          go_wp2_with fail
          rw [hr0.out]
          rw [← hW.out]
          clear hW
          refine hck.mono ?_
          rintro e w2 ⟨rfl, hz2⟩
          have hzw2 := hzw.trans' (hz0.trans' hz2)
          clear c0 c2 c6 c7 c8 c9 c10 hck
          by_cases h0 : E = 0
          case neg =>
            have hb0 : (E != 0) = true := by simpa using h0
            have hb := hbad.out (by rw [hm.out, if_pos h0])
            clear h0
            go_wp2_with fail
            exact hb.out _ hzw2
          subst h0
          have hm2 : ML = if perB (per + 1) = true then (if RE ≠ 0 then [] else [⟨id, ent, per, ⟨#[]⟩, [⟨deb, amt, 0⟩, ⟨cred, -amt, 0⟩], false⟩, ⟨rid, ent, per + 1, ⟨#[]⟩, [⟨deb, amt, 0⟩, ⟨cred, -amt, 0⟩].map negLn, false⟩]) else [⟨id, ent, per, ⟨#[]⟩, [⟨deb, amt, 0⟩, ⟨cred, -amt, 0⟩], false⟩] := by rw [hm.out, if_neg (by simp)]
          replace hm2 := Lib.hid hm2
          have c0 := (hBt.out _ hz2).cell 0
          have k0 := (hBjc.out _ hz2).cell 0
          have k1 := (hBjc.out _ hz2).cell 1
          have k2 := (hBjc.out _ hz2).cell 2
          have k3 := (hBjc.out _ hz2).cell 3
          have k4 := (hBjc.out _ hz2).cell 4
          have k5 := (hBjc.out _ hz2).cell 5
          have hzo := hz2.alloc (.cells #[.int .i64 id, .int .i64 ent, .int .i64 per, .string ⟨#[]⟩, .slice (some ⟨r0 + 1, 0, none⟩) 2 2, .bool false] 38)
          have hfo := fix_lit (n := 1) (size := 6) (Blk.new w2 38 #[.int .i64 id, .int .i64 ent, .int .i64 per, .string ⟨#[]⟩, .slice (some ⟨r0 + 1, 0, none⟩) 2 2, .bool false]) rfl (by omega)
          have c0o := (hBt.out _ hzo).cell 0
          have o0 := (hBjc.out _ hzo).cell 0
          have o1 := (hBjc.out _ hzo).cell 1
          have o2 := (hBjc.out _ hzo).cell 2
          have o3 := (hBjc.out _ hzo).cell 3
          have o4 := (hBjc.out _ hzo).cell 4
          have o5 := (hBjc.out _ hzo).cell 5
          have hzwo := hzw2.alloc (.cells #[.int .i64 id, .int .i64 ent, .int .i64 per, .string ⟨#[]⟩, .slice (some ⟨r0 + 1, 0, none⟩) 2 2, .bool false] 38)
          have hflo := hfl.out.chg hzo (by simp)
          have hw2s : r0 + 2 ≤ w2.heap.size := by have := hz2.size; have := hsW.out; omega
          replace hfo := Lib.hid hfo
          cases hb : perB (per + 1) with
          | false =>
            rw [hb] at hval
            have hm3 : Hid (ML = [⟨id, ent, per, ⟨#[]⟩, [⟨deb, amt, 0⟩, ⟨cred, -amt, 0⟩], false⟩]) := Lib.hid (by rw [hm2.out, hb]; rfl)
            replace hb := Lib.hid hb
            replace hflo := Lib.hid hflo
            clear hrv
            go_wp2_with (go_at_call 23; refine (hval _).mono ?_; rintro e w3 ⟨rfl, rfl⟩)
            rw [hPP.out, hm3.out]
            refine ⟨[⟨⟨id, ent, per, ⟨#[]⟩, [⟨deb, amt, 0⟩, ⟨cred, -amt, 0⟩], false⟩, .slice (some ⟨r0 + 1, 0, none⟩) 2 2, [r0 + 1]⟩], _, [w2.heap.size], rfl, hfo.out, rfl, ?_, ?_, ?_, hzwo⟩
            · intro x hx
              rw [List.mem_singleton.1 hx]
              exact hflo.out
            · intro g hg
              rw [List.mem_singleton.1 hg]
              omega
            · intro x hx g hg
              rw [List.mem_singleton.1 hx] at hg
              rw [List.mem_singleton.1 hg]
              omega
          | true =>
            rw [hb] at hval
            have hm3 : ML = if RE ≠ 0 then [] else [⟨id, ent, per, ⟨#[]⟩, [⟨deb, amt, 0⟩, ⟨cred, -amt, 0⟩], false⟩, ⟨rid, ent, per + 1, ⟨#[]⟩, [⟨deb, amt, 0⟩, ⟨cred, -amt, 0⟩].map negLn, false⟩] := by rw [hm2.out, if_pos hb]
            replace hm3 := Lib.hid hm3
            replace hb := Lib.hid hb
            have hrv2 := hrv.out _ hzo
            replace hflo := Lib.hid hflo
            clear hrv
            go_wp2_with (go_at_call 23; refine (hval _).mono ?_; rintro e w3 ⟨rfl, rfl⟩)
            refine hrv2.mono ?_
            rintro e w4 ⟨hp, hq⟩
            unfold zeroJV at hp
            clear hrv2 hval o0 o1 o2 o3 o4 o5 c0o k0 k1 k2 k3 k4 k5 c0
            by_cases h0 : RE = 0
            case neg =>
              obtain ⟨rfl, hz4⟩ := hp h0
              have hb0 : (RE != 0) = true := by simpa using h0
              have hbd := hbad.out (by rw [hm3.out, if_pos h0])
              clear hp hq h0
              go_wp2_with fail
              exact hbd.out _ ((hzwo.trans' hz4).alloc _)
            obtain ⟨rv, rF, rfl, hrf, hrF, hz4⟩ := hq h0
            obtain ⟨rA, rc, rfl, -⟩ := _root_.id hrf
            have hm4 : Hid (ML = [⟨id, ent, per, ⟨#[]⟩, [⟨deb, amt, 0⟩, ⟨cred, -amt, 0⟩], false⟩, ⟨rid, ent, per + 1, ⟨#[]⟩, [⟨deb, amt, 0⟩, ⟨cred, -amt, 0⟩].map negLn, false⟩]) := Lib.hid (by rw [hm3.out, if_neg (by simp [h0])])
            subst h0
            have hzx := (hz4.alloc (.cells #[.int .i64 rid, .int .i64 ent, .int .i64 (per + 1), .string ⟨#[]⟩, .slice rA 2 rc, .bool false] 38)).alloc (.cells #[.int .i64 rid, .int .i64 ent, .int .i64 (per + 1), .string ⟨#[]⟩, .slice rA 2 rc, .bool false] 38)
            have hfx := hfo.out.chg hzx (by simp)
            have hzwx := hzwo.trans' hzx
            have hs4 := hz4.size
            rw [World.size_alloc] at hs4
            have hsx : ((w4.alloc (.cells #[.int .i64 rid, .int .i64 ent, .int .i64 (per + 1), .string ⟨#[]⟩, .slice rA 2 rc, .bool false] 38)).alloc (.cells #[.int .i64 rid, .int .i64 ent, .int .i64 (per + 1), .string ⟨#[]⟩, .slice rA 2 rc, .bool false] 38)).heap.size = w4.heap.size + 2 := by rw [World.size_alloc, World.size_alloc]
            have hsrc : Src ((w4.alloc (.cells #[.int .i64 rid, .int .i64 ent, .int .i64 (per + 1), .string ⟨#[]⟩, .slice rA 2 rc, .bool false] 38)).alloc (.cells #[.int .i64 rid, .int .i64 ent, .int .i64 (per + 1), .string ⟨#[]⟩, .slice rA 2 rc, .bool false] 38)) 6 (some ⟨w4.heap.size + 1, 0, none⟩) 1 [.int .i64 rid, .int .i64 ent, .int .i64 (per + 1), .string ⟨#[]⟩, .slice rA 2 rc, .bool false] := Src.one_ (World.size_alloc _ _) rfl
            have hrfx := (hrf.alloc (.cells #[.int .i64 rid, .int .i64 ent, .int .i64 (per + 1), .string ⟨#[]⟩, .slice rA 2 rc, .bool false] 38)).alloc (.cells #[.int .i64 rid, .int .i64 ent, .int .i64 (per + 1), .string ⟨#[]⟩, .slice rA 2 rc, .bool false] 38)
            have hflx := hflo.out.chg hzx (by simp)
            have hrF2 : ∀ g ∈ rF, w2.heap.size < g ∧ g < w4.heap.size := fun g hg => by
              have h1 := hrF g hg
              rw [World.size_alloc] at h1
              exact ⟨by omega, hrf.lt g hg⟩
            replace hfx := Lib.hid hfx
            replace hsrc := Lib.hid hsrc
            replace hrfx := Lib.hid hrfx
            replace hflx := Lib.hid hflx
            replace hrF2 := Lib.hid hrF2
            replace hsx := Lib.hid hsx
            clear hp hq hrf hrF hzx hflo hfo hz4 hm3
            go_wp2_with (
              at_builtin
              refine wpList_append_fix rfl (.tmp 127) (.tmp 129) 30 rfl Try.underlying30 hj0 y0 y1 y2 rfl (by omega) rfl hfx.out rfl hsrc.out (by simp [Value.oneCell']) (by unfold maxLen; omega) (by omega) ?_
              intro v5 w5 F5 hA
              replace hA := Lib.hid hA)
            rw [hPP.out, hm4.out]
            have hA2 := hA.out
            have hF5 : ∀ g ∈ F5, w.heap.size ≤ g := fun g hg => by
              rcases hA2.foot with h | h
              · rw [h, List.mem_singleton] at hg; omega
              · rw [h, List.mem_singleton] at hg; have := hsx.out; omega
            refine ⟨[⟨⟨id, ent, per, ⟨#[]⟩, [⟨deb, amt, 0⟩, ⟨cred, -amt, 0⟩], false⟩, .slice (some ⟨r0 + 1, 0, none⟩) 2 2, [r0 + 1]⟩, ⟨⟨rid, ent, per + 1, ⟨#[]⟩, [⟨deb, amt, 0⟩, ⟨cred, -amt, 0⟩].map negLn, false⟩, .slice rA 2 rc, rF⟩], v5, F5, rfl, hA2.fix, rfl, ?_, hF5, ?_, hzwx.trans hA2.chg (fun g hg => .inr (by rw [List.mem_singleton.1 hg]; omega))⟩
            · intro x hx
              rcases List.mem_cons.1 hx with rfl | hx
              · exact hflx.out.chg hA2.chg (fun g hg hh => by rw [List.mem_singleton.1 hg] at hh; have := List.mem_singleton.1 hh; omega)
              · rw [List.mem_singleton.1 hx]
                exact hrfx.out.chg hA2.chg (fun g hg hh => by have := hrF2.out g hg; have := List.mem_singleton.1 hh; omega)
            · intro x hx g hg
              rcases List.mem_cons.1 hx with rfl | hx
              · rw [List.mem_singleton.1 hg]; omega
              · rw [List.mem_singleton.1 hx] at hg
                have := hrF2.out g hg
                omega
        · have b1 : (kind == 1) = false := by simpa using hk1
          have hm := hTall.out hin.out hk1
          obtain ⟨hok, hwg, hwt, h8⟩ := hallk.out hct.out hk1
          subst hwt
          obtain ⟨r0, hr0⟩ : ∃ r0, wr.heap.size = r0 := ⟨_, rfl⟩
          have hz0 := (Chg.refl [] wr).alloc (.cells #[.int .i64 id, .int .i64 ent, .int .i64 per, .string ⟨#[]⟩, .slice none 0 0, .bool false] 38)
          have hBj : Blk (wr.alloc (.cells #[.int .i64 id, .int .i64 ent, .int .i64 per, .string ⟨#[]⟩, .slice none 0 0, .bool false] 38)) r0 38 _ := Blk.new_at hr0
          have hsp := hsg.out _ (hzw.trans' hz0) hok hwg
          unfold SplitGood at hsp
          have hwr0 : w.heap.size ≤ r0 := by have := hzw.size; omega
          have hBt0 := hBc.out _ _ hz0 (by simp)
          replace hm := Lib.hid hm
          replace hr0 := Lib.hid hr0
          clear hok hwg hk1
          go_wp2_with fail
          refine hsp.mono ?_
          rintro e w2 ⟨sv, Fp, rfl, hp, hFp, hz2⟩
          have hSl : S.length = wn := by obtain ⟨A, c, -, h, -⟩ := _root_.id hp; simpa using h
          obtain ⟨sA, sc, rfl, -⟩ := _root_.id hp
          have hBt2 := hBt0.chg hz2 (by simp)
          have hBj2 := hBj.chg hz2 (by simp)
          have hzw2 := hzw.trans' (hz0.trans' hz2)
          have htj : jb ≠ r0 := by have := hjl; have := hr0.out; omega
          have hs2 : r0 < w2.heap.size := hBj2.lt
          rw [hr0.out]
          have hjp : r0 ∉ Fp := hp.ne_blk hBj2 (by decide)
          have hpart : ∀ W, Chg [r0] w2 W → ∀ i, i < wn → ∃ ad, sA = some ad ∧ W.cell? (ad.add i) = some (.int .i64 (S.getD i 0)) := fun W z i hi => by
            obtain ⟨ad, rfl, hc⟩ := (Fix.src (hp.chg z (fun g hg hm => hjp (by rw [← List.mem_singleton.1 hm]; exact hg)))).2 (by omega)
            refine ⟨ad, rfl, hc i _ ?_⟩
            rw [List.getElem?_map, List.getElem?_eq_getElem (by omega)]
            simp [List.getD, List.getElem?_eq_getElem (show i < S.length by omega)]
          have hBtc := fun W (z : Chg [r0] w2 W) => hBt2.chg z (by simpa using htj)
          have hzc : ∀ W, Chg [r0] w2 W → Chg [] w W := fun W z => hzw2.trans z (fun g hg => .inr (by rw [List.mem_singleton.1 hg]; omega))
          replace hpart := Lib.hid hpart
          replace hBtc := Lib.hid hBtc
          replace hzc := Lib.hid hzc
          replace hSl := Lib.hid hSl
          clear hz0 hz2 hBt0 hBj hp hFp hjp hsp hBt2 hzw c0 c2 c6 c7 c8 c9 c10
          go_wp2_with fail
          go_loopw [14] (fun iv wr => ∃ (k : Nat) (lv : Value) (F : List Nat), k ≤ wn ∧ iv = .int .i64 k ∧ Blk wr r0 38 #[.int .i64 id, .int .i64 ent, .int .i64 per, .string ⟨#[]⟩, lv, .bool false] ∧ Fix wr 40 3 lv (LG k).length ((LG k).flatMap lnEnc) F ∧ (∀ g ∈ F, w2.heap.size ≤ g) ∧ Chg [r0] w2 wr) (fun iv _ => wn - (intOf iv).toNat)
          case atStart => exact ⟨0, .slice none 0 0, [], by omega, rfl, hBj2, by rw [hL0.out]; exact Fix.nil _ _ _, by simp, Chg.refl _ _⟩
          case round =>
            obtain ⟨k, lv, F, hk, rfl, hBr, hf, hF, hzr⟩ := hrel
            obtain ⟨lA, lc, rfl, -⟩ := _root_.id hf
            clear hBj2
            have hkw : IntKind.i64.wrap ((k : Int) + 1) = (k : Int) + 1 := by rw [IntKind.wrap_i64]; omega
            by_cases hlt : k < wn
            · obtain ⟨ad, rfl, hcp⟩ := hpart.out _ hzr k hlt
              obtain ⟨ad2, rfl, hct⟩ := htc.out _ (hzc.out _ hzr) k hlt
              have hlt2 : (k : Int) < (wn : Int) := by omega
              have hLk := hL1.out k
              have hLn := hL2.out k
              generalize S.getD k 0 = s at *
              generalize tg.getD k 0 = tk at *
              by_cases h0 : s = 0
              · subst h0
                rw [if_pos rfl, List.append_nil] at hLk
                replace hLk := Lib.hid hLk
                go_wp2_with fail
                exact ⟨⟨k + 1, _, F, by omega, by go_num, hBr, by rw [hLk.out]; exact hf, hF, hzr⟩, by simp [intOf]; omega⟩
              · rw [if_neg h0] at hLk
                have hb : (s != 0) = true := by simp [h0]
                have hBtr := hBtc.out _ hzr
                have d9 := hBtr.cell 9
                have c4 : wr.drew.cell? ⟨r0, 4, none⟩ = some (.slice lA (LG k).length lc) := hBr.cell 4
                have ca := cell_al c4
                have ca2 : ∀ o, (wr.alloc o).drew.cell? ⟨r0, 4, none⟩ = some (.slice lA (LG k).length lc) := fun o => ca o
                have f4 := hBr.frozen 4
                have hsr := hzr.size
                replace hLk := Lib.hid hLk
                replace h0 := Lib.hid h0
                clear hBtr
                go_wp2_with fail
                have hfd : Fix wr.drew 40 3 (.slice lA (LG k).length lc) (LG k).length ((LG k).flatMap lnEnc) F := hf
                have hBd : Blk wr.drew r0 38 #[.int .i64 id, .int .i64 ent, .int .i64 per, .string ⟨#[]⟩, .slice lA (LG k).length lc, .bool false] := hBr
                have hzd := hzr.drew
                have hjF : r0 ∉ F := hf.ne_blk hBr (by decide)
                have d9' : wr.drew.cell? ⟨jb, 9, none⟩ = some (.slice (some ad2) wn tc) := d9
                have hct' : wr.drew.cell? (ad2.add k) = some (.int .i64 tk) := hct
                have hcp' : wr.drew.cell? (ad.add k) = some (.int .i64 s) := hcp
                clear hf hBr
                go_region_law (refine step_append_fix rfl _ _ 36 rfl Try.underlying36 hi0 z0 z1 z2 rfl (by omega) (n := (LG k).length) (xs := (LG k).flatMap lnEnc) (F := F) rfl (hfd.alloc _) rfl (Src.one3 rfl) (by simp [Value.oneCell']) (by unfold maxLen; omega) (by omega) ?_; intro v3 w3 F3 hA; obtain ⟨g1, k1, rfl, rfl⟩ := hA.head (by omega); have hb3 := (hBd.alloc (.cells #[.int .i64 tk, .int .i64 s, .int .i64 0] 40)).chg hA.chg hjF; have g4 := hb3.cell 4; have gf := hb3.frozen 4)
                all_goals
                  go_wp2_with fail
                  have hq : Chg [r0] w3 (w3.setCell ⟨r0, 4, none⟩ (.slice (some ⟨g1, 0, none⟩) ((LG k).length + 1) k1)) := (Chg.refl _ _).setCell (.inl (by simp)) _
                  refine ⟨⟨k + 1, .slice (some ⟨g1, 0, none⟩) ((LG k).length + 1) k1, [g1], by omega, by go_num, ?_, ?_, ?_, ?_⟩, by simp [intOf]; omega⟩
                  · have := hb3.set_ 4 (.slice (some ⟨g1, 0, none⟩) ((LG k).length + 1) k1)
                    simpa using this
                  · have := hA.fix.chg hq (hA.fix.not_mem hb3 (by decide))
                    rw [hLk.out, List.flatMap_append, List.length_append]
                    exact this
                  · intro g hg
                    rcases hA.foot with h | h
                    · rw [h] at hg; exact hF g hg
                    · rw [h, List.mem_singleton] at hg; rw [hg]; simp [World.size_alloc]; omega
                  · exact ((hzd.alloc (.cells #[.int .i64 tk, .int .i64 s, .int .i64 0] 40)).trans hA.chg (fun g hg => .inr (hF g hg))).trans hq (fun g hg => .inl hg)
            · obtain rfl : k = wn := by omega
              have hBtr := hBtc.out _ hzr
              have d8 := hBtr.cell 8
              have d6 := hBtr.cell 6
              have c4 : wr.cell? ⟨r0, 4, none⟩ = some (.slice lA (LG k).length lc) := hBr.cell 4
              have hLn := hL2.out k
              have hsr := hzr.size
              have hjF : r0 ∉ F := hf.ne_blk hBr (by decide)
              have hzwr := hzc.out _ hzr
              have hfa := Lib.hid (hf.alloc (.cells #[.int .i64 cred, .int .i64 (-amt), .int .i64 0] 40))
              have hBa := Lib.hid (hBr.alloc (.cells #[.int .i64 cred, .int .i64 (-amt), .int .i64 0] 40))
              have hBta := Lib.hid (hBtr.alloc (.cells #[.int .i64 cred, .int .i64 (-amt), .int .i64 0] 40))
              have hza := Lib.hid (hzwr.alloc (.cells #[.int .i64 cred, .int .i64 (-amt), .int .i64 0] 40))
              have hFw : ∀ g ∈ F, w.heap.size ≤ g := fun g hg => by have := hF g hg; omega
              have htF : ∀ g ∈ F, jb ≠ g := fun g hg e => by have := hF g hg; have := hr0.out; omega
              replace hF := Lib.hid hF
              replace hFw := Lib.hid hFw
              replace htF := Lib.hid htF
              clear hBtr hf hBr hlt
              go_wp2_with (
                at_builtin
                refine wpList_append_fix rfl (.tmp 93) (.tmp 100) 36 rfl Try.underlying36 hi0 z0 z1 z2 rfl (by omega) rfl hfa.out rfl (Src.one3 rfl) (by simp [Value.oneCell']) (by unfold maxLen; omega) (by omega) ?_
                intro v3 w3 F3 hA
                obtain ⟨g1, k1, rfl, rfl⟩ := hA.head (by omega)
                have hb3 := hBa.out.chg hA.chg hjF
                have g4 := hb3.cell 4
                have gf := hb3.frozen 4
                have q0 := hb3.cell 0
                have q1 := hb3.cell 1
                have q2 := hb3.cell 2
                have q3 := hb3.cell 3
                have q5 := hb3.cell 5
                replace hA := Lib.hid hA
                replace hb3 := Lib.hid hb3)
              have hA' := hA.out
              obtain ⟨lc1, hlc⟩ : ∃ m, (LG k).length + 1 = m := ⟨_, rfl⟩
              have hq : Chg [r0] w3 (w3.setCell ⟨r0, 4, none⟩ (.slice (some ⟨g1, 0, none⟩) ((LG k).length + 1) k1)) := (Chg.refl _ _).setCell (.inl (by simp)) _
              have hfx := hA'.fix.chg hq (hA'.fix.not_mem hb3.out (by decide))
              have hb4 := hb3.out.set_ 4 (.slice (some ⟨g1, 0, none⟩) ((LG k).length + 1) k1)
              simp only [List.setIfInBounds_toArray, List.set_cons_succ, List.set_cons_zero] at hb4
              have hg1 : w.heap.size ≤ g1 := by
                rcases hA'.foot with h | h
                · exact hFw.out g1 (by rw [← h]; simp)
                · rw [List.singleton_inj.1 h]; simp [World.size_alloc]; omega
              have hch : Chg [] w (w3.setCell ⟨r0, 4, none⟩ (.slice (some ⟨g1, 0, none⟩) ((LG k).length + 1) k1)) := ((hza.out.trans hA'.chg (fun g hg => .inr (hFw.out g hg)))).trans hq (fun g hg => .inr (by rw [List.mem_singleton.1 hg]; omega))
              have hBt4 := (hBta.out.chg hA'.chg (fun h => htF.out jb h rfl)).chg hq (by simpa using htj)
              obtain ⟨w4, hw4⟩ : ∃ w4, w4 = w3.setCell ⟨r0, 4, none⟩ (.slice (some ⟨g1, 0, none⟩) ((LG k).length + 1) k1) := ⟨_, rfl⟩
              rw [← hw4] at hfx hb4 hch hBt4 ⊢
              have hxs : (LG k).flatMap lnEnc ++ [.int .i64 cred, .int .i64 (-amt), .int .i64 0] = (LG k ++ [(⟨cred, -amt, 0⟩ : Ln)]).flatMap lnEnc := by rw [List.flatMap_append]; rfl
              rw [hxs] at hfx
              have hck := r1_check ⟨id, ent, per, ⟨#[]⟩, LG k ++ [⟨cred, -amt, 0⟩], false⟩ (c := k1) (Fix.src hfx) (by omega) (by show ByteArray.size ⟨#[]⟩ ≤ maxLen; decide)
              unfold jnV at hck
              dsimp only at hck
              generalize hE : checkE ⟨id, ent, per, ⟨#[]⟩, LG k ++ [⟨cred, -amt, 0⟩], false⟩ = E at *
              replace hE := Lib.hid hE
              replace hfx := Lib.hid hfx
              replace hw4 := Lib.hid hw4
              clear hA hA' hb3 hq hxs hza hBa hBta hfa q0 q1 q2 q3 q5 g4 gf d6 d8 c4 hlc
              refine hck.mono ?_
              rintro e w5 ⟨rfl, hz5⟩
              clear hck
              have hb5 := hb4.chg hz5 (by simp)
              have hBt5 := hBt4.chg hz5 (by simp)
              have hz05 := hch.trans' hz5
              by_cases h0 : E = 0
              case neg =>
                have hb0 : (E != 0) = true := by simpa using h0
                have hbd := hbad.out (by rw [hm.out, if_pos h0])
                clear h0
                go_wp2_with fail
                exact hbd.out _ hz05
              subst h0
              have hm2 : Hid (ML = [⟨id, ent, per, ⟨#[]⟩, LG k ++ [⟨cred, -amt, 0⟩], false⟩]) := Lib.hid (by rw [hm.out, if_neg (by simp)])
              have q0 := hb5.cell 0
              have q1 := hb5.cell 1
              have q2 := hb5.cell 2
              have q3 := hb5.cell 3
              have q4 := hb5.cell 4
              have q5 := hb5.cell 5
              have c0 := (hBt5.alloc (.cells #[.int .i64 id, .int .i64 ent, .int .i64 per, .string ⟨#[]⟩, .slice (some ⟨g1, 0, none⟩) ((LG k).length + 1) k1, .bool false] 38)).cell 0
              have hfo := fix_lit (n := 1) (size := 6) (Blk.new w5 38 #[.int .i64 id, .int .i64 ent, .int .i64 per, .string ⟨#[]⟩, .slice (some ⟨g1, 0, none⟩) ((LG k).length + 1) k1, .bool false]) rfl (by omega)
              have hw5 := hz05.size
              replace hfo := Lib.hid hfo
              clear hb5 hBt5 hb4 hBt4
              go_wp2_with fail
              rw [hPP.out, hm2.out]
              refine ⟨[⟨⟨id, ent, per, ⟨#[]⟩, LG k ++ [⟨cred, -amt, 0⟩], false⟩, .slice (some ⟨g1, 0, none⟩) ((LG k).length + 1) k1, [g1]⟩], _, [w5.heap.size], rfl, hfo.out, rfl, ?_, ?_, ?_, hz05.alloc _⟩
              · intro x hx
                rw [List.mem_singleton.1 hx]
                dsimp only
                rw [List.length_append]
                exact (hfx.out.chg hz5 (by simp)).alloc _
              · intro g hg
                rw [List.mem_singleton.1 hg]
                omega
              · intro x hx g hg
                rw [List.mem_singleton.1 hx] at hg
                rw [List.mem_singleton.1 hg]
                exact hg1
end Go.Proofs.Ytlbkjhfnpjbjlaa
/- The reference's order of items: Ahead, PutItem; the law's same. -/
namespace Go.Proofs.Ytlbkjhfnpjbjlaa
open Go.RowKit Go.Vx
set_option linter.unusedVariables false
set_option linter.unusedSimpArgs false

/-- An item ahead of another one, or with it. -/
def ahead (a b : Item) : Bool := !itLt b a
set_option maxRecDepth 8000 in
set_option maxHeartbeats 1000000 in
theorem r_ahead (a b : Item) (w : World) :
    Calls Try.prog 33 #[.agg #[.int .i64 a.1, .int .i64 a.2.1, .int .i64 a.2.2], .agg #[.int .i64 b.1, .int .i64 b.2.1, .int .i64 b.2.2]] w fun e w' => e = .returned (.bool (ahead a b)) ∧ Chg [] w w' := by
  have hfin : ∀ b', ahead a b = b' → Hid (Ending.returned (Value.bool b') = Ending.returned (Value.bool (ahead a b))) := by rintro b rfl; exact Lib.hid rfl
  have hdef : ∀ r : Bool, (r = true ↔ ¬ (b.1 < a.1 ∨ (b.1 = a.1 ∧ (a.2.1 < b.2.1 ∨ (b.2.1 = a.2.1 ∧ (b.2.2 < a.2.2 ∨ (b.2.2 = a.2.2 ∧ (0 : Int) < 0))))))) → ahead a b = r := by
    intro r hr
    have h1 : ahead a b = true ↔ ¬ (b.1 < a.1 ∨ (b.1 = a.1 ∧ (a.2.1 < b.2.1 ∨ (b.2.1 = a.2.1 ∧ (b.2.2 < a.2.2 ∨ (b.2.2 = a.2.2 ∧ (0 : Int) < 0)))))) := by
      unfold ahead itLt
      rw [Bool.not_eq_true', slLt_no]
    rw [Bool.eq_iff_iff, h1, hr]
  by_cases h1 : a.1 = b.1
  · have b1 : (a.1 != b.1) = false := by simp [h1]
    by_cases h2 : a.2.1 = b.2.1
    · have b2 : (a.2.1 != b.2.1) = false := by simp [h2]
      have e := hfin (decide (a.2.2 ≤ b.2.2)) (hdef _ (by simp only [decide_eq_true_eq]; omega))
      clear hfin hdef h1 h2
      go_enter Try.func33, Try.ntmps33
      go_wp2_with fail
      go_ret
      exact ⟨e.out, ((Chg.refl _ _).alloc _).alloc _⟩
    · have b2 : (a.2.1 != b.2.1) = true := by simp [h2]
      have e := hfin (decide (b.2.1 < a.2.1)) (hdef _ (by simp only [decide_eq_true_eq]; omega))
      clear hfin hdef h1 h2
      go_enter Try.func33, Try.ntmps33
      go_wp2_with fail
      go_ret
      exact ⟨e.out, ((Chg.refl _ _).alloc _).alloc _⟩
  · have b1 : (a.1 != b.1) = true := by simp [h1]
    have e := hfin (decide (a.1 < b.1)) (hdef _ (by simp only [decide_eq_true_eq]; omega))
    clear hfin hdef h1
    go_enter Try.func33, Try.ntmps33
    go_wp2_with fail
    go_ret
    exact ⟨e.out, ((Chg.refl _ _).alloc _).alloc _⟩
/-- Where an item goes in. -/
def place (l : List Item) (x : Item) : List Item := (l.takeWhile fun y => ahead y x) ++ x :: (l.dropWhile fun y => ahead y x)
def putItem (l : List Item) (x : Item) : List Item := if 1000 ≤ l.length then l else place l x
theorem infoRItem : (Try.prog.info? 53).map (fun i => (i.zero, i.size, i.bytes)) = some (some (.agg #[.int .i64 0, .int .i64 0, .int .i64 0]), 3, 24) := by kernel_rfl
theorem oneItems (l : List Item) : ∀ u ∈ l.flatMap itEnc, u.oneCell' = true := fun u hu => by
  obtain ⟨x, -, h⟩ := List.mem_flatMap.1 hu
  simp [itEnc] at h
  rcases h with rfl | rfl | rfl <;> rfl
theorem while_at {p : Item → Bool} : ∀ {l : List Item} {k : Nat}, k ≤ l.length → (∀ j, j < k → p (nth l j) = true) → (k = l.length ∨ p (nth l k) = false) → l.takeWhile p = l.take k ∧ l.dropWhile p = l.drop k
  | [], k, hk, _, _ => by simp
  | x :: l, 0, _, _, h => by
    rcases h with h | h
    · simp at h
    · have h' : p x = false := h
      simp [h']
  | x :: l, k + 1, hk, hj, h => by
    have h0 : p x = true := hj 0 (by omega)
    obtain ⟨e1, e2⟩ := while_at (l := l) (k := k) (by simpa using hk) (fun j hj' => hj (j + 1) (by omega)) (by
      rcases h with h | h
      · exact .inl (by simpa using h)
      · exact .inr h)
    simp [h0, e1, e2]
/-- Items of the reference in memory. -/
def RItems (w : World) (v : Value) (l : List Item) (F : List Nat) : Prop :=
  ∃ A c, v = .slice A l.length c ∧ l.length ≤ c ∧ c ≤ maxLen ∧ Src w 3 A l.length (l.flatMap itEnc) ∧ ∀ ad, 0 < l.length → A = some ad → ad.block ∈ F
theorem RItems.chg {w w' : World} {v : Value} {l : List Item} {F S : List Nat} (h : RItems w v l F) (k : Chg S w w') (hd : ∀ g, g ∈ F → g ∉ S) : RItems w' v l F := by
  obtain ⟨A, c, e, h1, h2, h3, h4⟩ := h
  refine ⟨A, c, e, h1, h2, ?_, h4⟩
  rcases Nat.eq_zero_or_pos l.length with h0 | h0
  · exact ⟨h3.1, fun h => by omega⟩
  · exact h3.chg k fun ad e => hd _ (h4 ad h0 e)
theorem RItems.at_ {w : World} {v : Value} {l : List Item} {F : List Nat} (h : RItems w v l F) {k : Nat} (hk : k < l.length) : ∃ ad c, v = .slice (some ad) l.length c ∧ w.cell? (ad.add (k * 3)) = some (.int .i64 (nth l k).1) ∧ w.cell? ⟨(ad.add (k * 3)).block, (ad.add (k * 3)).off + 1, none⟩ = some (.int .i64 (nth l k).2.1) ∧ w.cell? ⟨(ad.add (k * 3)).block, (ad.add (k * 3)).off + 2, none⟩ = some (.int .i64 (nth l k).2.2) := by
  obtain ⟨A, c, rfl, h1, h2, h3, h4⟩ := h
  obtain ⟨ad, rfl, d0, hc⟩ := h3.elem (fun _ => rfl) (by omega) hk rfl
  have d1 := hc 1 (by omega) (by omega)
  have d2 := hc 2 (by omega) (by omega)
  rw [at_eq hk]
  exact ⟨ad, c, rfl, by simpa [itEnc] using d0, by simpa [itEnc] using d1, by simpa [itEnc] using d2⟩
theorem RItems.of_fix {w : World} {v : Value} {l : List Item} {F : List Nat} (h : Fix w 53 3 v l.length (l.flatMap itEnc) F) : RItems w v l F := by
  obtain ⟨A, c, rfl, -⟩ := id h
  obtain ⟨q1, q2⟩ := Fix.cap h
  refine ⟨A, c, rfl, q1, q2, h.src, fun ad h0 e => ?_⟩
  obtain ⟨g, c', e', hF, -⟩ := h.elem (fun _ => rfl) (by omega) h0
  injection e' with e'
  subst e'
  injection e with e
  subst e
  rw [hF]
  simp
set_option maxRecDepth 8000 in
set_option maxHeartbeats 1000000 in
theorem r_putFull {w : World} {v : Value} {l : List Item} {F : List Nat} (h : RItems w v l F) (hl : 1000 ≤ l.length) (hm : l.length ≤ 1000000) (x : Item) :
    Calls Try.prog 17 #[v, .agg #[.int .i64 x.1, .int .i64 x.2.1, .int .i64 x.2.2]] w fun e w' => e = .returned v ∧ Chg [] w w' := by
  obtain ⟨A, c, rfl, -⟩ := h
  go_enter Try.func17, Try.ntmps17
  go_wp2_with fail
  go_ret
  exact ⟨rfl, (Chg.refl _ _).alloc _⟩
end Go.Proofs.Ytlbkjhfnpjbjlaa
/- The reference's PutItem. -/
namespace Go.Proofs.Ytlbkjhfnpjbjlaa
open Go.RowKit Go.Vx
set_option linter.unusedVariables false
set_option linter.unusedSimpArgs false

set_option maxRecDepth 8000 in
set_option maxHeartbeats 16000000 in
theorem r_putItem {w : World} {v : Value} {l : List Item} {F : List Nat} (h : RItems w v l F) (hl : l.length < 1000) (x : Item) :
    Calls Try.prog 17 #[v, .agg #[.int .i64 x.1, .int .i64 x.2.1, .int .i64 x.2.2]] w fun e w' => ∃ v' F', e = .returned v' ∧ RItems w' v' (place l x) F' ∧ (∀ g, g ∈ F' → w.heap.size ≤ g) ∧ Chg [] w w' := by
  obtain ⟨i0, hi, j0, j1, j2⟩ := info_parts infoRItem
  have h' := h
  obtain ⟨A, c, rfl, hcap, hcm, -⟩ := h'
  unfold maxLen at hcm
  go_enter Try.func17, Try.ntmps17
  have hb0 := Blk.new w 53 #[.int .i64 x.1, .int .i64 x.2.1, .int .i64 x.2.2]
  have h1 := h.chg ((Chg.refl [] w).alloc (.cells #[.int .i64 x.1, .int .i64 x.2.1, .int .i64 x.2.2] 53)) (by simp)
  go_upto_block 0 with fail
  go_cut [5] (fun iv wx => ∃ k : Nat, iv = .int .i64 k ∧ k ≤ l.length ∧ (∀ j, j < k → ahead (nth l j) x = true) ∧ (k = l.length ∨ ahead (nth l k) x = false) ∧ Chg [] (w.alloc (.cells #[.int .i64 x.1, .int .i64 x.2.1, .int .i64 x.2.2] 53)) wx)
  case first =>
    go_wp2_with fail
    go_loopw [5] (fun iv wr => ∃ k : Nat, iv = .int .i64 k ∧ k ≤ l.length ∧ (∀ j, j < k → ahead (nth l j) x = true) ∧ Chg [] (w.alloc (.cells #[.int .i64 x.1, .int .i64 x.2.1, .int .i64 x.2.2] 53)) wr) (fun iv _ => l.length - (intOf iv).toNat)
    case atStart => exact ⟨0, rfl, by omega, fun j hj => by omega, Chg.refl _ _⟩
    case round =>
      obtain ⟨k, rfl, hk, hj, hc⟩ := hrel
      by_cases hkl : k < l.length
      · obtain ⟨g, c', e, x0, x1, x2⟩ := (h1.chg hc (by simp)).at_ hkl
        injection e with e _ e'
        subst e e'
        have hbx := hb0.chg hc (by simp)
        have y0 := hbx.cell 0
        have y1 := hbx.cell 1
        have y2 := hbx.cell 2
        simp at y0 y1 y2
        have hah := r_ahead (nth l k) x
        have hj2 : ahead (nth l k) x = true → ∀ j, j < k + 1 → ahead (nth l j) x = true := fun h j hj' => by
          rcases Nat.lt_or_ge j k with h2 | h2
          · exact hj j h2
          · obtain rfl : j = k := by omega
            exact h
        replace hj := Lib.hid hj
        cases hb : ahead (nth l k) x with
        | true =>
          have hj3 := hj2 hb
          rw [hb] at hah
          clear hj2
          replace hb := Lib.hid hb
          replace hj3 := Lib.hid hj3
          generalize nth l k = z at *
          go_wp2_with fail
          go_region_law (go_simp; go_at_call 33; refine (hah _).mono ?_; rintro e w1 ⟨rfl, hc1⟩)
          all_goals
            go_wp2_with fail
            go_roundw
            case measure => simp [intOf]; omega
            case rel => exact ⟨k + 1, by go_num, by omega, hj3.out, hc.drew.trans' hc1⟩
        | false =>
          rw [hb] at hah
          clear hj2
          replace hb := Lib.hid hb
          go_wp2_with fail
          go_region_law (go_simp; go_at_call 33; refine (hah _).mono ?_; rintro e w1 ⟨rfl, hc1⟩)
          all_goals
            go_wp2_with fail
            go_meet
            exact ⟨k, by trivial, by omega, hj.out, .inr hb.out, hc.drew.trans' hc1⟩
      · obtain rfl : k = l.length := by omega
        replace hj := Lib.hid hj
        go_wp2_with fail
        go_quiet (fail)
        go_wp2_with fail
        go_meet
        exact ⟨l.length, by trivial, by omega, hj.out, .inl rfl, hc.drewN _⟩
  case rest =>
    obtain ⟨k, rfl, hk, hj, he, hc⟩ := hcut
    obtain ⟨w1, w2⟩ := while_at (p := fun y => ahead y x) hk hj he
    have hpl : place l x = l.take k ++ x :: l.drop k := by unfold place; rw [w1, w2]
    have hx := h1.chg hc (by simp)
    have hsrc : Src wc 3 A l.length (l.flatMap itEnc) := by
      obtain ⟨A', c', e, -, -, hs, -⟩ := hx
      injection e with e
      subst e
      exact hs
    have hT := Src.take3 hsrc rfl hk
    have hTd : Src wc.drew 3 A k ((l.take k).flatMap itEnc) := hT
    have hbx := hb0.chg hc (by simp)
    have y0 := hbx.cell 0
    have y1 := hbx.cell 1
    have y2 := hbx.cell 2
    simp at y0 y1 y2
    have y0d : wc.drew.cell? ⟨w.heap.size, 0, none⟩ = some (.int .i64 x.1) := y0
    have y1d : wc.drew.cell? ⟨w.heap.size, 1, none⟩ = some (.int .i64 x.2.1) := y1
    have y2d : wc.drew.cell? ⟨w.heap.size, 2, none⟩ = some (.int .i64 x.2.2) := y2
    have hblt := hbx.lt
    have yal : ∀ w', Chg [] wc.drew w' → w'.cell? ⟨w.heap.size, 0, none⟩ = some (.int .i64 x.1) ∧ w'.cell? ⟨w.heap.size, 1, none⟩ = some (.int .i64 x.2.1) ∧ w'.cell? ⟨w.heap.size, 2, none⟩ = some (.int .i64 x.2.2) := fun w' hc' =>
      ⟨by rw [hc'.cell hblt (by simp)]; exact y0, by rw [hc'.cell hblt (by simp)]; exact y1, by rw [hc'.cell hblt (by simp)]; exact y2⟩
    have o1 := oneItems (l.take k)
    have o2 := oneItems (l.drop k)
    have hkc : k ≤ c := by omega
    have hz : Chg [] w wc.drew := (((Chg.refl [] w).alloc _).trans' hc).drew
    clear he hj w1 w2 hT y0 y1 y2 hb0 hbx h1 hx h
    replace hpl := Lib.hid hpl
    by_cases hkl : k < l.length
    · have hkn : ¬ c = k := by omega
      obtain ⟨ad, rfl, hsc⟩ := hsrc.2 (by omega)
      have hadb : ad.block < wc.heap.size := Go.Clock.block_lt (hsc 0 _ (List.getElem?_eq_getElem (by rw [hsrc.1]; omega)))
      have hnF : ∀ (F1 : List Nat) (N : Nat), wc.heap.size ≤ N → (F1 = [] ∨ F1 = [N]) → ∀ ad', some (ad.add (k * 3)) = some ad' → ad'.block ∉ F1 := fun F1 N hN h ad' e => by
        injection e with e
        subst e
        rw [add_block]
        rcases h with h | h <;> rw [h] <;> simp
        omega
      have hD := Src.drop3 hsrc rfl hk
      have hDd : Src wc.drew 3 (some (ad.add (k * 3))) (l.length - k) ((l.drop k).flatMap itEnc) := hD
      clear hD hsrc hsc
      go_wp2_with fail
      go_region_law (first
        | (refine step_append_fix rfl _ _ 49 rfl Try.underlying49 hi j0 j1 j2 rfl (by omega) (n := 0) (xs := []) (F := []) rfl (Fix.nil _ _ _) rfl hTd o1 (by unfold maxLen; omega) (by omega) ?_; intro v1 wa F1 ha1; have hsA := ha1.chg.size; obtain ⟨u0, u1, u2⟩ := yal wa ha1.chg)
        | (refine step_append_fix rfl _ _ 49 rfl Try.underlying49 hi j0 j1 j2 rfl (by omega) (n := 0) (xs := []) (F := []) rfl (Fix.nil _ _ _) rfl (hTd.alloc _) o1 (by unfold maxLen; omega) (by omega) ?_; intro v1 wa F1 ha1; have hsA := ha1.chg.size)
        | (refine step_append_fix rfl _ _ 49 rfl Try.underlying49 hi j0 j1 j2 rfl (by omega) (m := 1) rfl (by first | exact ha1.fix.alloc _ | exact ha1.fix) rfl (by first | exact Src.one3 rfl | exact (Src.one3 (w := wc.drew) (t := 53) (x := .int .i64 x.1) (y := .int .i64 x.2.1) (z := .int .i64 x.2.2) rfl).chg (S := []) ha1.chg (by simp)) (by simp [Value.oneCell']) (by unfold maxLen; omega) (by omega) ?_; intro v2 wb F2 ha2; have hsB := ha2.chg.size)
        | (refine step_append_fix rfl _ _ 49 rfl Try.underlying49 hi j0 j1 j2 rfl (by omega) rfl ha2.fix rfl (by first | exact (((hDd.chg ha1.chg (by simp)).alloc _).chg ha2.chg (hnF F1 _ (by simp) ha1.foot)) | exact (((hDd.alloc _).chg (S := []) ha1.chg (by simp)).chg ha2.chg (hnF F1 _ (by simp) ha1.foot))) o2 (by unfold maxLen; omega) (by omega) ?_; intro v3 wd F3 ha3))
      all_goals
        have z0 := hz.size
        have hA1 : ∀ g, g ∈ F1 → w.heap.size ≤ g := by
          intro g hg
          rcases ha1.foot with e | e <;> rw [e] at hg <;> simp at hg z0
          omega
        have hwa : Chg [] w wa := by first | exact hz.trans' ha1.chg | exact (hz.alloc _).trans' ha1.chg
        have z1 := hwa.size
        have hA2 : ∀ g, g ∈ F2 → w.heap.size ≤ g := by
          intro g hg
          rcases ha2.foot with e | e
          · exact hA1 g (by rw [← e]; exact hg)
          · rw [e] at hg
            simp at hg
            omega
        have hwb : Chg [] w wb := by first | exact (hwa.alloc _).trans ha2.chg (fun g hg => .inr (hA1 g hg)) | exact hwa.trans ha2.chg (fun g hg => .inr (hA1 g hg))
        have z2 := hwb.size
        have hfr : ∀ g, g ∈ F3 → w.heap.size ≤ g := by
          intro g hg
          rcases ha3.foot with e | e
          · exact hA2 g (by rw [← e]; exact hg)
          · rw [e] at hg
            simp at hg
            omega
        have hcz : Chg [] w wd := hwb.trans ha3.chg (fun g hg => .inr (hA2 g hg))
        have hfx0 : Fix wd 53 3 v3 (place l x).length ((place l x).flatMap itEnc) F3 := by
          have h3 := ha3.fix
          rw [hpl.out, List.flatMap_append, List.flatMap_cons]
          have hlen : (l.take k ++ x :: l.drop k).length = 0 + k + 1 + (l.length - k) := by simp; omega
          rw [hlen]
          simpa [itEnc] using h3
        go_wp2_with fail
        go_ret
        exact ⟨v3, F3, rfl, RItems.of_fix hfx0, hfr, hcz⟩
    · obtain rfl : k = l.length := by omega
      clear hsrc o2
      by_cases hkn : c = l.length
      · go_wp2_with fail
        go_region_law (first
          | (refine step_append_fix rfl _ _ 49 rfl Try.underlying49 hi j0 j1 j2 rfl (by omega) (n := 0) (xs := []) (F := []) rfl (Fix.nil _ _ _) rfl hTd o1 (by unfold maxLen; omega) (by omega) ?_; intro v1 wa F1 ha1; have hsA := ha1.chg.size; obtain ⟨u0, u1, u2⟩ := yal wa ha1.chg)
          | (refine step_append_fix rfl _ _ 49 rfl Try.underlying49 hi j0 j1 j2 rfl (by omega) (n := 0) (xs := []) (F := []) rfl (Fix.nil _ _ _) rfl (hTd.alloc _) o1 (by unfold maxLen; omega) (by omega) ?_; intro v1 wa F1 ha1; have hsA := ha1.chg.size)
          | (refine step_append_fix rfl _ _ 49 rfl Try.underlying49 hi j0 j1 j2 rfl (by omega) (m := 1) rfl (by first | exact ha1.fix.alloc _ | exact ha1.fix) rfl (by first | exact Src.one3 rfl | exact (Src.one3 (w := wc.drew) (t := 53) (x := .int .i64 x.1) (y := .int .i64 x.2.1) (z := .int .i64 x.2.2) rfl).chg (S := []) ha1.chg (by simp)) (by simp [Value.oneCell']) (by unfold maxLen; omega) (by omega) ?_; intro v2 wb F2 ha2; have hsB := ha2.chg.size)
          | (refine step_append_fix rfl _ _ 49 rfl Try.underlying49 hi j0 j1 j2 rfl (by omega) (m := 0) (news := []) rfl ha2.fix rfl ⟨rfl, fun h => by omega⟩ (by simp) (by unfold maxLen; omega) (by omega) ?_; intro v3 wd F3 ha3))
        all_goals
          have z0 := hz.size
          have hA1 : ∀ g, g ∈ F1 → w.heap.size ≤ g := by
            intro g hg
            rcases ha1.foot with e | e <;> rw [e] at hg <;> simp at hg z0
            omega
          have hwa : Chg [] w wa := by first | exact hz.trans' ha1.chg | exact (hz.alloc _).trans' ha1.chg
          have z1 := hwa.size
          have hA2 : ∀ g, g ∈ F2 → w.heap.size ≤ g := by
            intro g hg
            rcases ha2.foot with e | e
            · exact hA1 g (by rw [← e]; exact hg)
            · rw [e] at hg
              simp at hg
              omega
          have hwb : Chg [] w wb := by first | exact (hwa.alloc _).trans ha2.chg (fun g hg => .inr (hA1 g hg)) | exact hwa.trans ha2.chg (fun g hg => .inr (hA1 g hg))
          have z2 := hwb.size
          have hfr : ∀ g, g ∈ F3 → w.heap.size ≤ g := by
            intro g hg
            rcases ha3.foot with e | e
            · exact hA2 g (by rw [← e]; exact hg)
            · rw [e] at hg
              simp at hg
              omega
          have hcz : Chg [] w wd := hwb.trans ha3.chg (fun g hg => .inr (hA2 g hg))
          have hfx0 : Fix wd 53 3 v3 (place l x).length ((place l x).flatMap itEnc) F3 := by
            have h3 := ha3.fix
            rw [hpl.out, List.flatMap_append, List.flatMap_cons]
            have hlen : (l.take l.length ++ x :: l.drop l.length).length = 0 + l.length + 1 + 0 := by simp
            rw [hlen]
            simpa [itEnc] using h3
          go_wp2_with fail
          go_ret
          exact ⟨v3, F3, rfl, RItems.of_fix hfx0, hfr, hcz⟩
      · go_wp2_with fail
        go_region_law (first
          | (refine step_append_fix rfl _ _ 49 rfl Try.underlying49 hi j0 j1 j2 rfl (by omega) (n := 0) (xs := []) (F := []) rfl (Fix.nil _ _ _) rfl hTd o1 (by unfold maxLen; omega) (by omega) ?_; intro v1 wa F1 ha1; have hsA := ha1.chg.size; obtain ⟨u0, u1, u2⟩ := yal wa ha1.chg)
          | (refine step_append_fix rfl _ _ 49 rfl Try.underlying49 hi j0 j1 j2 rfl (by omega) (n := 0) (xs := []) (F := []) rfl (Fix.nil _ _ _) rfl (hTd.alloc _) o1 (by unfold maxLen; omega) (by omega) ?_; intro v1 wa F1 ha1; have hsA := ha1.chg.size)
          | (refine step_append_fix rfl _ _ 49 rfl Try.underlying49 hi j0 j1 j2 rfl (by omega) (m := 1) rfl (by first | exact ha1.fix.alloc _ | exact ha1.fix) rfl (by first | exact Src.one3 rfl | exact (Src.one3 (w := wc.drew) (t := 53) (x := .int .i64 x.1) (y := .int .i64 x.2.1) (z := .int .i64 x.2.2) rfl).chg (S := []) ha1.chg (by simp)) (by simp [Value.oneCell']) (by unfold maxLen; omega) (by omega) ?_; intro v2 wb F2 ha2; have hsB := ha2.chg.size)
          | (refine step_append_fix rfl _ _ 49 rfl Try.underlying49 hi j0 j1 j2 rfl (by omega) (m := 0) (news := []) rfl ha2.fix rfl ⟨rfl, fun h => by omega⟩ (by simp) (by unfold maxLen; omega) (by omega) ?_; intro v3 wd F3 ha3))
        all_goals
          have z0 := hz.size
          have hA1 : ∀ g, g ∈ F1 → w.heap.size ≤ g := by
            intro g hg
            rcases ha1.foot with e | e <;> rw [e] at hg <;> simp at hg z0
            omega
          have hwa : Chg [] w wa := by first | exact hz.trans' ha1.chg | exact (hz.alloc _).trans' ha1.chg
          have z1 := hwa.size
          have hA2 : ∀ g, g ∈ F2 → w.heap.size ≤ g := by
            intro g hg
            rcases ha2.foot with e | e
            · exact hA1 g (by rw [← e]; exact hg)
            · rw [e] at hg
              simp at hg
              omega
          have hwb : Chg [] w wb := by first | exact (hwa.alloc _).trans ha2.chg (fun g hg => .inr (hA1 g hg)) | exact hwa.trans ha2.chg (fun g hg => .inr (hA1 g hg))
          have z2 := hwb.size
          have hfr : ∀ g, g ∈ F3 → w.heap.size ≤ g := by
            intro g hg
            rcases ha3.foot with e | e
            · exact hA2 g (by rw [← e]; exact hg)
            · rw [e] at hg
              simp at hg
              omega
          have hcz : Chg [] w wd := hwb.trans ha3.chg (fun g hg => .inr (hA2 g hg))
          have hfx0 : Fix wd 53 3 v3 (place l x).length ((place l x).flatMap itEnc) F3 := by
            have h3 := ha3.fix
            rw [hpl.out, List.flatMap_append, List.flatMap_cons]
            have hlen : (l.take l.length ++ x :: l.drop l.length).length = 0 + l.length + 1 + 0 := by simp
            rw [hlen]
            simpa [itEnc] using h3
          go_wp2_with fail
          go_ret
          exact ⟨v3, F3, rfl, RItems.of_fix hfx0, hfr, hcz⟩
end Go.Proofs.Ytlbkjhfnpjbjlaa
/- AgendaPlays: what is put in goes to the same place; the law's same. -/
namespace Go.Proofs.Ytlbkjhfnpjbjlaa
open Go.RowKit Go.Vx
set_option linter.unusedVariables false
set_option linter.unusedSimpArgs false

theorem slLt_ahead {y : Slot} {x : Item} {m : Int} (h : y.2.2.2 < m) : slLt y (slot x m) = ahead (item y) x := by
  rw [Bool.eq_iff_iff]
  unfold ahead itLt
  rw [Bool.not_eq_true', slLt_iff, slLt_no]
  simp only [slot, item]
  omega
theorem place_cons (y : Item) (l : List Item) (x : Item) : place (y :: l) x = if ahead y x then y :: place l x else x :: y :: l := by
  unfold place
  cases h : ahead y x <;> simp [h]
theorem ins_place {x : Item} {m : Int} : ∀ {S : List Slot}, (∀ y ∈ S, y.2.2.2 < m) → (ins slLt (slot x m) S).map item = place (S.map item) x
  | [], _ => rfl
  | y :: S, h => by
    rw [ins, List.map_cons, place_cons, slLt_ahead (h y (by simp))]
    split
    · rw [List.map_cons, ins_place fun z hz => h z (by simp [hz])]
    · rfl
end Go.Proofs.Ytlbkjhfnpjbjlaa
/- Plan: what is due, in plain words; the reference's run. -/
namespace Go.Proofs.Ytlbkjhfnpjbjlaa
open Go.RowKit Go.Vx
set_option linter.unusedVariables false
set_option linter.unusedSimpArgs false

def dueL (l : List Item) : List Item := l.foldl place []
theorem dueL_snoc (l : List Item) (x : Item) : dueL (l ++ [x]) = place (dueL l) x := by
  unfold dueL
  rw [List.foldl_append]
  rfl
theorem place_len (l : List Item) (x : Item) : (place l x).length = l.length + 1 := by
  unfold place
  have h : l.length = (l.takeWhile fun y => ahead y x).length + (l.dropWhile fun y => ahead y x).length := by
    rw [← List.length_append, List.takeWhile_append_dropWhile]
  rw [List.length_append, List.length_cons, h]
  omega
theorem foldl_len : ∀ (l : List Item) (D : List Item), (l.foldl place D).length = D.length + l.length
  | [], D => rfl
  | x :: l, D => by rw [List.foldl_cons, foldl_len l, place_len, List.length_cons]; omega
theorem dueL_len (l : List Item) : (dueL l).length = l.length := by unfold dueL; rw [foldl_len]; simp
theorem puts_due : ∀ (l : List Item) (S : List Slot) (m : Int), (∀ y ∈ S, y.2.2.2 < m) → S.length + l.length ≤ 1000 → (puts (S, m) l).1.map item = l.foldl place (S.map item)
  | [], S, m, _, _ => rfl
  | x :: l, S, m, h, hl => by
    rw [List.length_cons] at hl
    rw [puts, List.foldl_cons]
    have e : put1 (S, m) x = (ins slLt (slot x m) S, m + 1) := by unfold put1; rw [if_pos (by show S.length < 1000; omega)]
    have hlen : (ins slLt (slot x m) S).length = S.length + 1 := by rw [(ins_perm _ _).length_eq, List.length_cons]
    rw [e, puts_due l _ _ (fun y hy => by
      rcases List.mem_cons.1 ((ins_perm _ _).mem_iff.1 hy) with h2 | h2
      · rw [h2]; show m < m + 1; omega
      · have := h y h2; omega) (by omega), ins_place h]
def runI (T : List TV) : List Item → Int → Option (List Jn)
  | [], _ => some []
  | x :: D, f => if makeL (T.getD x.2.2.toNat default).t x.1 f = [] then none else (runI T D (f + (makeL (T.getD x.2.2.toNat default).t x.1 f).length)).map (makeL (T.getD x.2.2.toNat default).t x.1 f ++ ·)
theorem runN_I (T : List TV) : ∀ (S : List Slot) (f : Int), runN T S f = runI T (S.map item) f
  | [], f => rfl
  | x :: S, f => by
    rw [List.map_cons, runN, runI]
    have e : makeL (T.getD (item x).2.2.toNat default).t (item x).1 f = mkS T x f := rfl
    rw [e, runN_I T S]
theorem run_due (T : List TV) (n : Nat) (f : Int) (h : (itsN T n).length ≤ 1000) : runN T (puts ([], 0) (itsN T n)).1 f = runI T (dueL (itsN T n)) f := by
  rw [runN_I, puts_due _ _ _ (by simp) (by simpa using h)]
  rfl
theorem dueL_mem : ∀ (l D : List Item) (x : Item), x ∈ l.foldl place D → x ∈ D ∨ x ∈ l
  | [], D, x, h => .inl h
  | y :: l, D, x, h => by
    rw [List.foldl_cons] at h
    rcases dueL_mem l _ x h with h | h
    · unfold place at h
      rcases List.mem_append.1 h with h | h
      · exact .inl (List.takeWhile_sublist _ |>.mem h)
      · rcases List.mem_cons.1 h with h | h
        · exact .inr (by simp [h])
        · exact .inl (List.dropWhile_sublist _ |>.mem h)
    · exact .inr (by simp [h])
theorem due_in (T : List TV) (n : Nat) : ∀ x ∈ dueL (itsN T n), ∃ k : Nat, k < n ∧ x.2.2 = (k : Int) := fun x hx => by
  rcases dueL_mem _ _ _ hx with h | h
  · cases h
  · obtain ⟨k, hk, h, -⟩ := its_mem T n _ h
    exact ⟨k, hk, h⟩
def RRunPost (w : World) (o : Option (List Jn)) (e : Ending) (w' : World) : Prop := ∃ (X : List JV) (v : Value) (F : List Nat), e = .returned (.tuple #[v, .bool o.isSome]) ∧ Fix w' 38 6 v X.length (X.flatMap jvEnc) F ∧ jns X = o.getD [] ∧ (∀ x ∈ X, Fix w' 40 3 x.pv x.j.lines.length (x.j.lines.flatMap lnEnc) x.pF) ∧ (∀ g ∈ F, w.heap.size ≤ g) ∧ (∀ x ∈ X, ∀ g ∈ x.pF, w.heap.size ≤ g) ∧ Chg [] w w'
theorem RItems.nil (w : World) : RItems w (.slice none 0 0) [] [] := ⟨none, 0, rfl, by simp, by simp [maxLen], ⟨by simp, fun h => absurd h (by simp)⟩, fun ad h => absurd h (by simp)⟩
theorem RItems.keep {w w' : World} {v : Value} {l : List Item} {F : List Nat} (h : RItems w v l F) (k : Chg [] w w') : RItems w' v l F := h.chg k (by simp)
theorem RItems.slice {w : World} {v : Value} {l : List Item} {F : List Nat} (h : RItems w v l F) : ∃ A c, v = .slice A l.length c := by obtain ⟨A, c, h, -⟩ := h; exact ⟨A, c, h⟩
end Go.Proofs.Ytlbkjhfnpjbjlaa
/- Plan: the reference's RunPlan. -/
namespace Go.Proofs.Ytlbkjhfnpjbjlaa
open Go.RowKit Go.Vx
set_option linter.unusedVariables false
set_option linter.unusedSimpArgs false

set_option maxRecDepth 100000 in
set_option maxHeartbeats 16000000 in
theorem r1_runPlan {T : List TV} {A : Option Addr} {n c : Nat} {w : World} (h : TRow w A n T) (hn : n ≤ 50) (hits : (itsN T n).length ≤ 900) (first : Int) (h1 : -1000000000000 ≤ first) (h2 : first ≤ 2000000000000) :
    Calls Try.prog 18 #[.int .i64 first, .slice A n c] w (RRunPost w (runI T (dueL (itsN T n)) first)) := by
  obtain ⟨i0, hi0, z0, z1, z2⟩ := info_parts journalInfo
  obtain ⟨PP, hPP⟩ : ∃ PP, PP = RRunPost w (runI T (dueL (itsN T n)) first) := ⟨_, rfl⟩
  rw [← hPP]
  have hcell := fun W (z : Chg [] w W) k (hk : k < n) => (h.keep z).cells hk
  have hit := its_succ T
  have hmono : ∀ k, k ≤ n → (itsN T k).length ≤ 900 := fun k hk => by
    have : ∀ d, (itsN T k).length ≤ (itsN T (k + d)).length := fun d => by
      induction d with
      | zero => exact Nat.le_refl _
      | succ d ih => rw [← Nat.add_assoc, its_succ, List.length_append]; omega
    have := this (n - k)
    rw [show k + (n - k) = n by omega] at this
    omega
  have hits0 : itsN T 0 = [] := rfl
  have hdin := due_in T n
  have hdl := dueL_len (itsN T n)
  have hmk : ∀ W, Chg [] w W → ∀ (k : Nat) (per f : Int), k < n → ∃ ad, A = some ad ∧ W.cell? (ad.add (k * 12)) = some (.int .i64 (T.getD k default).t.kind) ∧
      (∀ j u, 0 < j → j < 12 → (tvEnc (T.getD k default))[j]? = some u → W.cell? ⟨(ad.add (k * 12)).block, (ad.add (k * 12)).off + j, none⟩ = some u) ∧
      ∀ W2, Chg [] w W2 → Calls Try.prog 34 #[tpV (T.getD k default).t (.slice (T.getD k default).tA (T.getD k default).t.tg.length (T.getD k default).tc) (.slice (T.getD k default).wA (T.getD k default).t.wt.length (T.getD k default).wc), .int .i64 per, .int .i64 f] W2 (RMkPost W2 (makeL (T.getD k default).t per f)) := by
    intro W z k per f hx
    obtain ⟨ad, hA, -, c0, hcj⟩ := (h.keep z).cells hx
    refine ⟨ad, hA, c0, hcj, fun W2 z2 => ?_⟩
    obtain ⟨_, _, hk2, -⟩ := (h.keep z2).cells hx
    exact r1_makePlan _ per f hk2.1 hk2.2.1 hk2.2.2.1 hk2.2.2.2
  replace hPP := Lib.hid hPP
  replace hmk := Lib.hid hmk
  replace hcell := Lib.hid hcell
  replace hit := Lib.hid hit
  replace hmono := Lib.hid hmono
  replace hits0 := Lib.hid hits0
  replace hdin := Lib.hid hdin
  replace hdl := Lib.hid hdl
  clear h
  go_enter Try.func18, Try.ntmps18
  go_wp2_with fail
  go_loopw [6, 7] (fun dv iv wr => ∃ (k : Nat) (F : List Nat), k ≤ n ∧ iv = .int .i64 k ∧ RItems wr dv (dueL (itsN T k)) F ∧ Chg [] w wr) (fun _ iv _ => n - (intOf iv).toNat)
  case atStart => exact ⟨0, [], by omega, rfl, by rw [hits0.out]; exact RItems.nil _, Chg.refl _ _⟩
  case round =>
    obtain ⟨k, F, hk, rfl, hdue, hzr⟩ := hrel
    obtain ⟨dA, dc, rfl⟩ := hdue.slice
    have hkw : IntKind.i64.wrap ((k : Int) + 1) = (k : Int) + 1 := by rw [IntKind.wrap_i64]; omega
    by_cases hlt : k < n
    · obtain ⟨ad, rfl, hok, c0, hcj⟩ := hcell.out _ hzr k hlt
      have hlt2 : (k : Int) < (n : Int) := by omega
      have hitk := hit.out k
      have hmk1 := hmono.out (k + 1) (by omega)
      rw [hitk] at hmk1
      have hrk : ∀ W, Chg [] w W → W.cell? ⟨(ad.add (k * 12)).block, (ad.add (k * 12)).off + 11, none⟩ = some (.int .i64 (T.getD k default).t.rank) := fun W z => by
        obtain ⟨ad', h1, -, -, h4⟩ := hcell.out W z k hlt
        cases h1
        exact h4 11 _ (by omega) (by omega) rfl
      generalize T.getD k default = x at *
      have c1 := hcj 1 _ (by omega) (by omega) rfl
      have c2 := hcj 2 _ (by omega) (by omega) rfl
      have c3 := hcj 3 _ (by omega) (by omega) rfl
      have c4 := hcj 4 _ (by omega) (by omega) rfl
      have c5 := hcj 5 _ (by omega) (by omega) rfl
      have c6 := hcj 6 _ (by omega) (by omega) rfl
      have c7 := hcj 7 _ (by omega) (by omega) rfl
      have c8 := hcj 8 _ (by omega) (by omega) rfl
      have c9 := hcj 9 _ (by omega) (by omega) rfl
      have c10 := hcj 10 _ (by omega) (by omega) rfl
      have c11 := hcj 11 _ (by omega) (by omega) rfl
      clear hcj
      obtain ⟨t, tA, tc, wA, wc⟩ := x
      unfold TOk at hok
      dsimp only at *
      have hpr := r1_periods t (tc := tc) (wc := wc) hok.1 hok.2.1 hok.2.2.1 hok.2.2.2
      have hsu := fun j => @per_it_succ t k j
      have hp0 : (perIt t k).take 0 = [] := rfl
      have hpe : (perIt t k).take (perL t).length = perIt t k := List.take_of_length_le (by unfold perIt; rw [List.length_map]; exact Nat.le_refl _)
      have hpil : (perIt t k).length = (perL t).length := by unfold perIt; rw [List.length_map]
      have hpn := perL_len t
      generalize perIt t k = PI at *
      generalize perL t = PL at *
      obtain ⟨kind, id', ent, frm, til, every, amt, deb, cred, tg, wt, rank⟩ := t
      unfold tpV at hpr
      dsimp only at *
      generalize tg.length = tn at *
      generalize wt.length = wn at *
      replace hsu := Lib.hid hsu
      replace hp0 := Lib.hid hp0
      replace hpe := Lib.hid hpe
      replace hitk := Lib.hid hitk
      replace hmk1 := Lib.hid hmk1
      replace hpil := Lib.hid hpil
      replace hdue := Lib.hid hdue
      replace hrk := Lib.hid hrk
      replace hpn := Lib.hid hpn
      clear hok
      go_wp2_with fail
      refine hpr.mono ?_
      rintro e w2 ⟨pv, pF, rfl, hpf, hpF, hz2⟩
      obtain ⟨pA, pc, rfl, -, hpl, hpm, -⟩ := _root_.id hpf
      have hzr2 := hzr.trans' hz2
      have hdue2 := hdue.out.keep hz2
      have hPn : PL.length ≤ 1200 := hpn.out
      have hpcell : ∀ W, Chg [] w2 W → ∀ j, j < PL.length → ∃ ad, pA = some ad ∧ W.cell? (ad.add j) = some (.int .i64 (PL.getD j 0)) := fun W z j hj => by
        obtain ⟨ad, rfl, hc⟩ := (Fix.src (hpf.chg z (by simp))).2 (by omega)
        refine ⟨ad, rfl, hc j _ ?_⟩
        rw [List.getElem?_map, List.getElem?_eq_getElem hj]
        simp [List.getD, List.getElem?_eq_getElem hj]
      generalize hPm : PL.length = m at *
      replace hPm := Lib.hid hPm
      replace hpcell := Lib.hid hpcell
      clear hpr c0 c1 c2 c3 c4 c5 c6 c7 c8 c9 c10 c11 hpl hpm hpf hpF
      go_wp2_with fail
      go_loopw [6, 9] (fun dv jv wr => ∃ (j : Nat) (F : List Nat), j ≤ m ∧ jv = .int .i64 j ∧ RItems wr dv (dueL (itsN T k ++ PI.take j)) F ∧ Chg [] w2 wr) (fun _ jv _ => m - (intOf jv).toNat)
      case atStart => exact ⟨0, F, by omega, rfl, by rw [hp0.out, List.append_nil]; exact hdue2, Chg.refl _ _⟩
      case round =>
        obtain ⟨j, F2, hj, rfl, hdue3, hz3⟩ := hrel
        obtain ⟨dA2, dc2, rfl⟩ := hdue3.slice
        have hjw : IntKind.i64.wrap ((j : Int) + 1) = (j : Int) + 1 := by rw [IntKind.wrap_i64]; omega
        by_cases hjl : j < m
        · obtain ⟨qa, rfl, q0⟩ := hpcell.out _ hz3 j hjl
          have hjl2 : (j : Int) < (m : Int) := by omega
          have hsj := hsu.out j (by have := hPm.out; omega)
          have r11 := hrk.out _ (hzr2.trans' hz3)
          have hlen : (dueL (itsN T k ++ PI.take j)).length < 1000 := by
            rw [dueL_len, List.length_append, List.length_take]
            have := hmk1.out
            rw [List.length_append] at this
            omega
          have hnext : dueL (itsN T k ++ PI.take (j + 1)) = place (dueL (itsN T k ++ PI.take j)) (PL.getD j 0, rank, (k : Int)) := by rw [hsj, ← List.append_assoc, dueL_snoc]
          have hput := r_putItem (hdue3.keep (Chg.refl [] _).drew) hlen (PL.getD j 0, rank, (k : Int))
          generalize PL.getD j 0 = y at *
          have q0' : wr.drew.cell? (qa.add j) = some (.int .i64 y) := q0
          have r11' : wr.drew.cell? ⟨(ad.add (k * 12)).block, (ad.add (k * 12)).off + 11, none⟩ = some (.int .i64 rank) := r11
          generalize (dueL (itsN T k ++ PI.take j)).length = dl at *
          replace hnext := Lib.hid hnext
          replace hput := Lib.hid hput
          clear hsj hdue3 hlen
          go_wp2_with fail
          go_region_law (go_simp; go_at_call 17; refine hput.out.mono ?_; rintro e w4 ⟨v4, F4, rfl, hd4, -, hz4⟩)
          all_goals
            go_wp2_with fail
            exact ⟨⟨j + 1, F4, by omega, by go_num, by rw [hnext.out]; exact hd4, hz3.drew.trans' hz4⟩, by simp [intOf]; omega⟩
        · obtain rfl : j = m := by omega
          rw [hpe.out, ← hitk.out] at hdue3
          have hzz := hzr2.trans' hz3
          generalize hdl5 : (dueL (itsN T k ++ PI.take j)).length = dl at *
          replace hdl5 := Lib.hid hdl5
          clear hjl
          go_wp2_with fail
          have e := hdl5.out
          rw [hpe.out, ← hitk.out] at e
          rw [e] at hdue3
          exact ⟨⟨k + 1, F2, by omega, by go_num, hdue3, hzz⟩, by simp [intOf]; omega⟩
    · obtain rfl : k = n := by omega
      have hdn : (dueL (itsN T k)).length ≤ 900 := by rw [hdl.out]; exact hits
      have hdc : ∀ W, Chg [] wr W → ∀ i, i < (dueL (itsN T k)).length → ∃ (ad : Addr) (q : Nat) (per rk : Int), dA = some ad ∧ q < k ∧ (dueL (itsN T k)).drop i = (per, rk, (q : Int)) :: (dueL (itsN T k)).drop (i + 1) ∧ W.cell? (ad.add (i * 3)) = some (.int .i64 per) ∧ W.cell? ⟨(ad.add (i * 3)).block, (ad.add (i * 3)).off + 2, none⟩ = some (.int .i64 (q : Int)) := fun W z i hi => by
        obtain ⟨ad, c', e, x1, -, x3⟩ := (hdue.keep z).at_ hi
        injection e with e
        obtain ⟨q, hq, hqe⟩ := hdin.out _ (List.getElem_mem hi)
        have hn : nth (dueL (itsN T k)) i = (dueL (itsN T k))[i] := at_eq hi
        rw [hn] at x1 x3
        rw [hqe] at x3
        refine ⟨ad, q, (dueL (itsN T k))[i].1, (dueL (itsN T k))[i].2.1, e, hq, ?_, x1, x3⟩
        rw [List.drop_eq_getElem_cons hi]
        congr 1
        rw [← hqe]
      have hzwr := hzr
      have hd0 : (dueL (itsN T k)).drop 0 = dueL (itsN T k) := rfl
      have hdN : (dueL (itsN T k)).drop (dueL (itsN T k)).length = [] := List.drop_length
      generalize hD : dueL (itsN T k) = D at *
      generalize hdN2 : D.length = dn at *
      obtain ⟨w3, hw3⟩ : ∃ w3, w3 = wr := ⟨_, rfl⟩
      rw [← hw3] at hdc hzwr ⊢
      replace hdc := Lib.hid hdc
      replace hd0 := Lib.hid hd0
      replace hdN := Lib.hid hdN
      replace hD := Lib.hid hD
      replace hdN2 := Lib.hid hdN2
      clear hw3 hdue hlt hzr hk hkw hdin hdl hit hmono hits0 hcell
      clear wr
      go_wp2_with fail
      go_loopw [10, 11, 12] (fun ov fv iv wr => ∃ (i : Nat) (X : List JV) (xF : List Nat) (f : Int), i ≤ dn ∧ iv = .int .i64 i ∧ fv = .int .i64 f ∧ Outs wr w3.heap.size ov X xF ∧ Hid (runI T D first = (runI T (D.drop i) f).map (jns X ++ ·)) ∧ X.length ≤ 2 * i ∧ first ≤ f ∧ f ≤ first + 2 * i ∧ Chg [] w3 wr) (fun _ _ iv _ => dn - (intOf iv).toNat)
      case atStart =>
        refine ⟨0, [], [], first, by omega, rfl, rfl, Outs.nil _ _, Lib.hid ?_, by simp, by omega, by omega, Chg.refl _ _⟩
        rw [hd0.out]
        cases runI T D first <;> simp [jns]
      case round =>
        obtain ⟨i, X, xF, f, hi, rfl, rfl, hout, hrun, hXl, hf1, hf2, hz3⟩ := hrel
        have hiw : IntKind.i64.wrap ((i : Int) + 1) = (i : Int) + 1 := by rw [IntKind.wrap_i64]; omega
        have hzw := hzwr.trans' hz3
        by_cases hil : i < dn
        · obtain ⟨da, q, per, rk, rfl, hq, hdr, x1, x3⟩ := hdc.out _ hz3 i hil
          obtain ⟨ad, rfl, c0, hcj, hmk2⟩ := hmk.out wr hzw q per f hq
          have hrn : runI T (D.drop i) f = if makeL (T.getD q default).t per f = [] then none else (runI T (D.drop (i + 1)) (f + (makeL (T.getD q default).t per f).length)).map (makeL (T.getD q default).t per f ++ ·) := by rw [hdr]; rfl
          have hml := makeL_len (T.getD q default).t per f
          have hql : (q : Int) < (k : Int) := by omega
          have hil2 : (i : Int) < (dn : Int) := by omega
          have hmd := hmk2 wr.drew hzw.drew
          generalize makeL (T.getD q default).t per f = ML at *
          generalize T.getD q default = x at *
          have c1 := hcj 1 _ (by omega) (by omega) rfl
          have c2 := hcj 2 _ (by omega) (by omega) rfl
          have c3 := hcj 3 _ (by omega) (by omega) rfl
          have c4 := hcj 4 _ (by omega) (by omega) rfl
          have c5 := hcj 5 _ (by omega) (by omega) rfl
          have c6 := hcj 6 _ (by omega) (by omega) rfl
          have c7 := hcj 7 _ (by omega) (by omega) rfl
          have c8 := hcj 8 _ (by omega) (by omega) rfl
          have c9 := hcj 9 _ (by omega) (by omega) rfl
          have c10 := hcj 10 _ (by omega) (by omega) rfl
          have c11 := hcj 11 _ (by omega) (by omega) rfl
          clear hcj hmk2 hdr
          obtain ⟨t, tA, tc, wA, wc⟩ := x
          dsimp only at *
          obtain ⟨kind, id', ent, frm, til, every, amt, deb, cred, tg, wt, rank⟩ := t
          unfold tpV at hmd
          dsimp only at *
          generalize tg.length = tn at *
          generalize wt.length = wn at *
          replace hmd := Lib.hid hmd
          replace hrn := Lib.hid hrn
          replace hout := Lib.hid hout
          replace hXl := Lib.hid hXl
          replace hf1 := Lib.hid hf1
          replace hf2 := Lib.hid hf2
          replace hml := Lib.hid hml
          have a0 : wr.drew.cell? (ad.add (q * 12)) = _ := c0
          have a1 : wr.drew.cell? ⟨(ad.add (q * 12)).block, (ad.add (q * 12)).off + 1, none⟩ = _ := c1
          have a2 : wr.drew.cell? ⟨(ad.add (q * 12)).block, (ad.add (q * 12)).off + 2, none⟩ = _ := c2
          have a3 : wr.drew.cell? ⟨(ad.add (q * 12)).block, (ad.add (q * 12)).off + 3, none⟩ = _ := c3
          have a4 : wr.drew.cell? ⟨(ad.add (q * 12)).block, (ad.add (q * 12)).off + 4, none⟩ = _ := c4
          have a5 : wr.drew.cell? ⟨(ad.add (q * 12)).block, (ad.add (q * 12)).off + 5, none⟩ = _ := c5
          have a6 : wr.drew.cell? ⟨(ad.add (q * 12)).block, (ad.add (q * 12)).off + 6, none⟩ = _ := c6
          have a7 : wr.drew.cell? ⟨(ad.add (q * 12)).block, (ad.add (q * 12)).off + 7, none⟩ = _ := c7
          have a8 : wr.drew.cell? ⟨(ad.add (q * 12)).block, (ad.add (q * 12)).off + 8, none⟩ = _ := c8
          have a9 : wr.drew.cell? ⟨(ad.add (q * 12)).block, (ad.add (q * 12)).off + 9, none⟩ = _ := c9
          have a10 : wr.drew.cell? ⟨(ad.add (q * 12)).block, (ad.add (q * 12)).off + 10, none⟩ = _ := c10
          have a11 : wr.drew.cell? ⟨(ad.add (q * 12)).block, (ad.add (q * 12)).off + 11, none⟩ = _ := c11
          have b1 : wr.drew.cell? (da.add (i * 3)) = _ := x1
          have b3 : wr.drew.cell? ⟨(da.add (i * 3)).block, (da.add (i * 3)).off + 2, none⟩ = _ := x3
          go_wp2_with fail
          go_region_law (go_simp; go_at_call 34; refine hmd.out.mono ?_; rintro e' w5 ⟨Y, yv, yF, rfl, hy, hyj, hyl, hyF, hypF, hz5⟩)
          all_goals
            have hz15 := (Chg.refl [] wr).drew.trans' hz5
            have hout5 := hout.out.chg hz15 (by simp)
            have hsr := hz3.size
            have hs5 := hz15.size
            have hYF : ∀ x ∈ Y, ∀ g ∈ x.pF, w3.heap.size ≤ g ∧ g ∉ xF := fun x hx g hg => by
              have h9 : wr.heap.size ≤ g := hypF x hx g hg
              exact ⟨by omega, fun hh => by have := hout.out.1.lt g hh; omega⟩
            have hYn : Y.length = ML.length := by rw [← hyj, List.length_map]
            obtain ⟨oA, oc, rfl, -⟩ := _root_.id hout5.1
            obtain ⟨yA, yc, rfl, -⟩ := _root_.id hy
            replace hYF := Lib.hid hYF
            replace hyl := Lib.hid hyl
            replace hout5 := Lib.hid hout5
            replace hy := Lib.hid hy
            clear c0 c1 c2 c3 c4 c5 c6 c7 c8 c9 c10 c11 a0 a1 a2 a3 a4 a5 a6 a7 a8 a9 a10 a11 b1 b3 x1 x3 hyF hypF hmd
            by_cases h0 : ML = []
            · have hb : (!ML.isEmpty) = false := by rw [h0]; rfl
              rw [hb]
              have ho : Hid (runI T D first = none) := Lib.hid (by rw [hrun.out, hrn.out, if_pos h0]; rfl)
              clear h0 hb
              go_wp2_with fail
              rw [hPP.out]
              exact ⟨[], _, [], by rw [ho.out]; rfl, Fix.nil _ _ _, by rw [ho.out]; rfl, by simp, by simp, by simp, hzw.trans' hz15⟩
            · have hb : (!ML.isEmpty) = true := by cases ML with | nil => exact absurd rfl h0 | cons a l => rfl
              rw [hb]
              have hYl : Y.length ≤ 2 := by have := hml.out; omega
              have hXn : X.length + Y.length ≤ 2000 := by have := hXl.out; omega
              have hfw : IntKind.i64.wrap (f + (Y.length : Int)) = f + (Y.length : Int) := by have := hf1.out; have := hf2.out; rw [IntKind.wrap_i64]; omega
              have hone := Lib.hid (jv_one hyl.out)
              have hrun2 : Hid (runI T D first = (runI T (D.drop (i + 1)) (f + (Y.length : Int))).map (jns (X ++ Y) ++ ·)) := Lib.hid (by
                rw [hrun.out, hrn.out, if_neg h0, hYn]
                unfold jns
                rw [List.map_append]
                unfold jns at hyj
                rw [hyj]
                cases runI T (D.drop (i + 1)) (f + (ML.length : Int)) <;> simp)
              have hfx5 := Lib.hid hout5.out.1
              generalize hn1 : X.length = xn at *
              generalize hn2 : Y.length = yn at *
              replace hn1 := Lib.hid hn1
              replace hn2 := Lib.hid hn2
              replace h0 := Lib.hid h0
              replace hYn := Lib.hid hYn
              clear hb
              go_wp2_with (
                at_builtin
                refine wpList_append_fix rfl (.tmp 72) (.tmp 73) 30 rfl Try.underlying30 hi0 z0 z1 z2 rfl (by omega) rfl hfx5.out rfl (Fix.src hy.out) hone.out (by unfold maxLen; omega) (by omega) ?_
                intro v6 w6 F6 hA6
                replace hA6 := Lib.hid hA6)
              have hA6' : Appended w5 w6 38 6 (.slice oA xn oc) v6 X.length Y.length (X.flatMap jvEnc) (Y.flatMap jvEnc) xF F6 := by rw [hn1.out, hn2.out]; exact hA6.out
              refine ⟨⟨i + 1, X ++ Y, F6, f + (yn : Int), by omega, by go_num, rfl, hout5.out.app hyl.out hYF.out (by omega) hA6', hrun2, by rw [List.length_append, hn1.out, hn2.out]; have := hXl.out; omega, by have := hf1.out; omega, by have := hf2.out; push_cast at this ⊢; omega, ?_⟩, by simp [intOf]; omega⟩
              exact (hz3.trans' hz15).trans hA6'.chg (fun g hg => .inr (hout5.out.2.2.1 g hg))
        · obtain rfl : i = dn := by omega
          rw [hdN.out] at hrun
          have ho : Hid (runI T D first = some (jns X)) := Lib.hid (by rw [hrun.out]; simp [runI])
          have hb2 := hzwr.size
          replace hb2 := Lib.hid hb2
          replace hout := Lib.hid hout
          clear hrun hXl hil
          go_wp2_with fail
          rw [hPP.out]
          refine ⟨X, _, xF, by rw [ho.out]; rfl, hout.out.1, by rw [ho.out]; rfl, hout.out.2.1, fun g hg => ?_, fun x hx g hg => ?_, hzw⟩
          · have := hout.out.2.2.1 g hg; have := hb2.out; omega
          · have := (hout.out.2.2.2 x hx g hg).1; have := hb2.out; omega
end Go.Proofs.Ytlbkjhfnpjbjlaa
/- PlanNumbers: plain laws. -/
namespace Go.Proofs.Ytlbkjhfnpjbjlaa
open Go.RowKit Go.Vx
set_option linter.unusedVariables false
set_option linter.unusedSimpArgs false

instance : Inhabited Ln := ⟨⟨0, 0, 0⟩⟩
def turnedN (a b : Jn) : Bool := decide (b.lines.length = 2) && ((b.per == a.per + 1) && (((b.lines.getD 0 default).amt == -(a.lines.getD 0 default).amt) && ((b.lines.getD 0 default).acct == (a.lines.getD 0 default).acct)))
def turnAt (L : List Jn) (i : Nat) : Bool := decide (0 < i) && turnedN (L.getD (i - 1) default) (L.getD i default)
theorem check_front2 {j : Jn} (h : checkE j = 0) : 1 ≤ j.id ∧ j.id ≤ 999999 ∧ 0 ≤ j.per ∧ j.per ≤ 1199 ∧ 2 ≤ j.lines.length ∧ j.lines.length ≤ 8 ∧ (∀ x ∈ j.lines, -1000000000000000 ≤ x.amt ∧ x.amt ≤ 1000000000000000) := by
  have h8 := check_fits h
  unfold checkE at h
  cases hf : frontB j with
  | false => rw [hf] at h; simp at h
  | true =>
    unfold frontB perB at hf
    simp only [Bool.and_eq_true, decide_eq_true_eq] at hf
    exact ⟨hf.1.1.1.1.1.1, hf.1.1.1.1.1.2, hf.1.1.1.2.1, hf.1.1.1.2.2, hf.1.2, hf.2, h8.2⟩
theorem onC_one {p : Int} (h : (onC p 1).2 = 0) : (onC p 1).1 = p + 1 := by
  unfold onC at h ⊢
  split at h
  · rename_i hc
    rw [if_pos hc]
  · cases h
/-- What Make makes. -/
theorem makeL_is {t : Tp} {per id : Int} (h : makeL t per id ≠ []) : (∀ j ∈ makeL t per id, checkE j = 0) ∧ ∃ a, a.id = id ∧ a.per = per ∧ (makeL t per id = [a] ∨ ∃ b, makeL t per id = [a, b] ∧ b.id = IntKind.i64.wrap (id + 1) ∧ turnedN a b = true) := by
  unfold makeL at h ⊢
  split
  · rename_i hc
    rw [if_pos hc] at h
    split
    · rename_i hp
      rw [if_pos hp] at h
      split
      · rename_i hg
        rw [if_pos hg] at h
        refine ⟨fun j hj => by have := List.all_eq_true.1 hg j hj; simpa using this, ?_⟩
        unfold rawL at h ⊢
        split
        · rename_i hk
          rw [if_pos hk] at h
          unfold accL at h ⊢
          split
          · exact ⟨_, rfl, rfl, .inl rfl⟩
          · rename_i ho
            rw [if_neg ho] at h
            split
            · rename_i hr
              rw [if_pos hr] at h
              exact absurd rfl h
            · refine ⟨_, rfl, rfl, .inr ⟨_, rfl, rfl, ?_⟩⟩
              have hn : (onC per 1).1 = per + 1 := onC_one (by have := ho; simp only [ne_eq, Decidable.not_not] at this; exact this)
              unfold turnedN revJ accJ j0T
              dsimp only
              rw [hn]
              simp [negLn]
        · exact ⟨_, rfl, rfl, .inl rfl⟩
      · rename_i hg
        rw [if_neg hg] at h
        exact absurd rfl h
    · rename_i hp
      rw [if_neg hp] at h
      exact absurd rfl h
  · rename_i hc
    rw [if_neg hc] at h
    exact absurd rfl h
theorem puts_srt : ∀ (l : List Item) (st : List Slot × Int), Srt slLt st.1 → Srt slLt (puts st l).1
  | [], st, h => h
  | x :: l, st, h => by
    rw [puts]
    refine puts_srt l _ ?_
    unfold put1
    split
    · exact ins_srt slLin _ _ h
    · exact h
theorem srt_first {D : List Slot} (h : Srt slLt D) : D.Pairwise fun x y => x.1 ≤ y.1 := by
  unfold Srt at h
  refine h.imp fun {x y} h => ?_
  rw [slLt_no] at h
  omega
def NumOk (L : List Jn) (f : Int) : Prop := ∀ i, i < L.length → (L.getD i default).id = f + (i : Int) ∧ checkE (L.getD i default) = 0 ∧ (turnAt L i = true ∨ ∀ j, j < i → turnAt L j = true ∨ (L.getD j default).per ≤ (L.getD i default).per)
theorem getD_app_l {α : Type} [Inhabited α] (l m : List α) {i : Nat} (h : i < l.length) : (l ++ m).getD i default = l.getD i default := by simp [List.getD, List.getElem?_append_left h]
theorem getD_app_r {α : Type} [Inhabited α] (l m : List α) (i : Nat) : (l ++ m).getD (l.length + i) default = m.getD i default := by simp [List.getD, List.getElem?_append_right]
theorem turnAt_r (l m : List Jn) {i : Nat} (h : turnAt m i = true) : turnAt (l ++ m) (l.length + i) = true := by
  unfold turnAt at h ⊢
  rw [Bool.and_eq_true, decide_eq_true_eq] at h
  rw [getD_app_r, show l.length + i - 1 = l.length + (i - 1) by omega, getD_app_r, h.2, decide_eq_true (show 0 < l.length + i by omega)]
  rfl
theorem numbers (T : List TV) : ∀ (D : List Slot) (f : Int) (L : List Jn), runN T D f = some L → D.Pairwise (fun x y => x.1 ≤ y.1) → 0 ≤ f → f + 2 * D.length ≤ 2000000 →
    ∀ i, i < L.length → (L.getD i default).id = f + (i : Int) ∧ checkE (L.getD i default) = 0 ∧ (turnAt L i = true ∨ ((∀ j, j < i → turnAt L j = true ∨ (L.getD j default).per ≤ (L.getD i default).per) ∧ ∃ x ∈ D, (L.getD i default).per = x.1))
  | [], f, L, h, _, _, _, i, hi => by
    unfold runN at h
    cases h
    simp at hi
  | x :: D, f, L, h, hs, h0, hf, i, hi => by
    unfold runN at h
    by_cases hm : mkS T x f = []
    · rw [if_pos hm] at h; cases h
    rw [if_neg hm] at h
    obtain ⟨L', hL', rfl⟩ : ∃ L', runN T D (f + (mkS T x f).length) = some L' ∧ L = mkS T x f ++ L' := by
      cases hr : runN T D (f + (mkS T x f).length) with
      | none => rw [hr] at h; cases h
      | some L' => rw [hr] at h; cases h; exact ⟨L', rfl, rfl⟩
    obtain ⟨hck, a, ha1, ha2, hab⟩ := makeL_is hm
    change makeL (T.getD x.2.2.1.toNat default).t x.1 f ≠ [] at hm
    have hl2 : (mkS T x f).length ≤ 2 := makeL_len _ _ _
    have hl0 : 0 < (mkS T x f).length := List.length_pos_iff.2 hm
    rw [List.length_cons] at hf
    obtain ⟨hx, hD⟩ := List.pairwise_cons.1 hs
    have ih := numbers T D (f + (mkS T x f).length) L' hL' hD (by omega) (by omega)
    have hM : (mkS T x f).getD 0 default = a ∧ (1 < (mkS T x f).length → ((mkS T x f).getD 1 default).id = f + 1 ∧ turnAt (mkS T x f) 1 = true) := by
      rcases hab with e | ⟨b, e, hb1, hb2⟩
      · have e' : mkS T x f = [a] := e
        rw [e']
        exact ⟨rfl, fun h => absurd h (by simp)⟩
      · have e' : mkS T x f = [a, b] := e
        rw [e']
        refine ⟨rfl, fun _ => ⟨?_, ?_⟩⟩
        · show b.id = f + 1
          rw [hb1, IntKind.wrap_i64]; omega
        · unfold turnAt
          show (decide (0 < 1) && turnedN a b) = true
          rw [hb2]; rfl
    have hMc : ∀ k, k < (mkS T x f).length → checkE ((mkS T x f).getD k default) = 0 := fun k hk => by
      have : (mkS T x f).getD k default = (mkS T x f)[k] := by simp [List.getD, List.getElem?_eq_getElem hk]
      rw [this]
      exact hck _ (List.getElem_mem hk)
    generalize mkS T x f = M at *
    by_cases hiM : i < M.length
    · rw [getD_app_l _ _ hiM]
      have hlow : ∀ k, k < M.length → turnAt (M ++ L') k = turnAt M k := fun k hk => by
        unfold turnAt
        rw [getD_app_l _ _ hk, getD_app_l _ _ (show k - 1 < M.length by omega)]
      by_cases hi0 : i = 0
      · subst hi0
        refine ⟨by rw [hM.1, ha1]; simp, hMc 0 hiM, .inr ⟨fun j hj => by omega, x, by simp, by rw [hM.1, ha2]⟩⟩
      · obtain rfl : i = 1 := by omega
        exact ⟨by rw [(hM.2 hiM).1]; simp, hMc 1 hiM, .inl (by rw [hlow 1 hiM]; exact (hM.2 hiM).2)⟩
    · obtain ⟨k, rfl⟩ : ∃ k, i = M.length + k := ⟨i - M.length, by omega⟩
      rw [List.length_append] at hi
      obtain ⟨q1, q2, q3⟩ := ih k (by omega)
      rw [getD_app_r]
      refine ⟨by rw [q1]; push_cast; omega, q2, ?_⟩
      rcases q3 with q3 | ⟨q3, y, hy, q4⟩
      · exact .inl (turnAt_r _ _ q3)
      · refine .inr ⟨fun j hj => ?_, y, by simp [hy], q4⟩
        by_cases hjM : j < M.length
        · rw [getD_app_l _ _ hjM]
          by_cases hj0 : j = 0
          · subst hj0
            right
            rw [hM.1, ha2, q4]
            exact hx y hy
          · obtain rfl : j = 1 := by omega
            left
            have := (hM.2 hjM).2
            unfold turnAt at this ⊢
            rw [getD_app_l _ _ hjM, getD_app_l _ _ (show 1 - 1 < M.length by omega)]
            exact this
        · obtain ⟨k', rfl⟩ : ∃ k, j = M.length + k := ⟨j - M.length, by omega⟩
          rw [getD_app_r]
          exact (q3 k' (by omega)).imp (turnAt_r _ _) (fun h => h)
/-- The region's operations behind a letter: its guards are read off the facts on it. -/
theorem wpQuiet_gen {P : Program} {ops : Array Oper} {C : World → Prop} {Q : Act → Prop} {l : List Oper} {a : Act} (h : ∀ ops' : Array Oper, ops' = ops → wpQuiet P ops' C Q l a) : wpQuiet P ops C Q l a := h ops rfl
end Go.Proofs.Ytlbkjhfnpjbjlaa
/- PlanRuns: what is compared item by item; the journals' rows. -/
namespace Go.Proofs.Ytlbkjhfnpjbjlaa
open Go.RowKit Go.Vx
set_option linter.unusedVariables false
set_option linter.unusedSimpArgs false

noncomputable def prReg25 : Code := (Try.f6.body.bind (regAt 25)).getD .skip
set_option maxRecDepth 100000 in
set_option maxHeartbeats 8000000 in
theorem pr_same {w : World} {g n c d i : Nat} {ad : Addr} {a b e : Int}
    (x0 : w.cell? ⟨g, i * 3, none⟩ = some (.int .i64 a)) (x1 : w.cell? ⟨g, i * 3 + 1, none⟩ = some (.int .i64 b)) (x2 : w.cell? ⟨g, i * 3 + 2, none⟩ = some (.int .i64 e))
    (y0 : w.cell? (ad.add (i * 3)) = some (.int .i64 a)) (y1 : w.cell? ⟨(ad.add (i * 3)).block, (ad.add (i * 3)).off + 1, none⟩ = some (.int .i64 b)) (y2 : w.cell? ⟨(ad.add (i * 3)).block, (ad.add (i * 3)).off + 2, none⟩ = some (.int .i64 e))
    (hin : i < n)
    (x0 x1 x2 x3 x4 x5 x6 x7 x9 x10 x11 x12 x13 x14 x17 x18 x19 x20 x21 x22 x23 x24 x25 x26 x27 x28 x29 x30 x31 x32 x33 x34 x35 x36 x37 x38 x39 x40 x41 x42 x43 x44 x45 x46 x47 x48 x49 x50 x51 x52 x53 x54 x55 x56 x57 x58 x59 x60 x61 x62 x63 x64 x65 x66 x67 x68 x69 x70 x71 x72 x73 x74 x75 x76 x77 x78 x79 x80 x81 x82 x83 x84 x85 x86 x87 x88 x89 x90 x91 x92 x93 x94 x95 x96 x97 x98 x99 x100 x101 x102 x103 x104 x105 x106 x107 x108 x109 x110 x111 x112 x113 x114 x115 x116 x117 x118 x119 x120 x121 x122 x123 x124 x125 x126 x127 x128 x129 x130 x131 x132 x133 x134 x135 x136 x137 x138 x139 x140 x141 x142 x143 x144 x145 x146 x147 x148 x149 x150 x151 x152 x153 x154 x155 x156 x157 x158 x159 x160 x161 x162 x163 x164 x165 x166 x167 x168 x169 x170 x171 x172 x173 x174 x175 : Value) (Q : Exit → Act → World → Prop)
    (hQ : ∀ (nn : Nat) (y134 y135 y136 y137 y138 y139 y140 y141 y142 y143 y144 y145 y146 y147 y148 y149 y150 y151 y152 y153 y154 y155 y156 y157 y158 y159 y160 y161 y162 y163 y164 y165 y166 y167 y168 y169 : Value), Q .normal ⟨#[x0, x1, x2, x3, x4, x5, x6, x7, .slice (some ad) n d, x9, x10, x11, x12, x13, x14, .slice (some ⟨g, 0, none⟩) n c, .int .i64 i, x17, x18, x19, x20, x21, x22, x23, x24, x25, x26, x27, x28, x29, x30, x31, x32, x33, x34, x35, x36, x37, x38, x39, x40, x41, x42, x43, x44, x45, x46, x47, x48, x49, x50, x51, x52, x53, x54, x55, x56, x57, x58, x59, x60, x61, x62, x63, x64, x65, x66, x67, x68, x69, x70, x71, x72, x73, x74, x75, x76, x77, x78, x79, x80, x81, x82, x83, x84, x85, x86, x87, x88, x89, x90, x91, x92, x93, x94, x95, x96, x97, x98, x99, x100, x101, x102, x103, x104, x105, x106, x107, x108, x109, x110, x111, x112, x113, x114, x115, x116, x117, x118, x119, x120, x121, x122, x123, x124, x125, x126, x127, x128, x129, x130, x131, x132, x133, y134, y135, y136, y137, y138, y139, y140, y141, y142, y143, y144, y145, y146, y147, y148, y149, y150, y151, y152, y153, y154, y155, y156, y157, y158, y159, y160, y161, y162, y163, y164, y165, y166, y167, y168, y169, .bool false, x171, x172, x173, x174, x175], []⟩ (w.drewN nn)) :
    Code.wp Try.prog prReg25 Q ⟨#[x0, x1, x2, x3, x4, x5, x6, x7, .slice (some ad) n d, x9, x10, x11, x12, x13, x14, .slice (some ⟨g, 0, none⟩) n c, .int .i64 i, x17, x18, x19, x20, x21, x22, x23, x24, x25, x26, x27, x28, x29, x30, x31, x32, x33, x34, x35, x36, x37, x38, x39, x40, x41, x42, x43, x44, x45, x46, x47, x48, x49, x50, x51, x52, x53, x54, x55, x56, x57, x58, x59, x60, x61, x62, x63, x64, x65, x66, x67, x68, x69, x70, x71, x72, x73, x74, x75, x76, x77, x78, x79, x80, x81, x82, x83, x84, x85, x86, x87, x88, x89, x90, x91, x92, x93, x94, x95, x96, x97, x98, x99, x100, x101, x102, x103, x104, x105, x106, x107, x108, x109, x110, x111, x112, x113, x114, x115, x116, x117, x118, x119, x120, x121, x122, x123, x124, x125, x126, x127, x128, x129, x130, x131, x132, x133, x134, x135, x136, x137, x138, x139, x140, x141, x142, x143, x144, x145, x146, x147, x148, x149, x150, x151, x152, x153, x154, x155, x156, x157, x158, x159, x160, x161, x162, x163, x164, x165, x166, x167, x168, x169, x170, x171, x172, x173, x174, x175], []⟩ w := by
  conv => arg 2; whnf
  conv => arg 4; dsimp only
  dsimp only at hQ
  replace hQ := Lib.hid hQ
  have h1 : (i : Int) < (n : Int) := by omega
  refine wp_region_quiet_lit (by kernel_rfl) (by kernel_rfl) ?_
  refine wpQuiet_gen (fun ops' ho => ?_)
  have hy11 : (ops'[11]?).bind (·.dst) = some 145 := by rw [ho]; kernel_rfl
  have hy24 : (ops'[24]?).bind (·.dst) = some 158 := by rw [ho]; kernel_rfl
  clear ho
  repeat (quiet_step (fail))
  refine wpQuiet_nil ?_
  intro _ hw'
  obtain ⟨nq, hw''⟩ := hw'
  subst hw''
  exact hQ.out _ _ _ _ _ _ _ _ _ _ _ _ _ _ _ _ _ _ _ _ _ _ _ _ _ _ _ _ _ _ _ _ _ _ _ _ _
noncomputable def prReg16 : Code := (Try.f6.body.bind (regAt 16)).getD .skip
set_option maxRecDepth 100000 in
set_option maxHeartbeats 8000000 in
theorem pr_asked {w : World} {vA sA : Option Addr} {xn sn vc sc : Nat} {RO : Option (List Jn)} {X Y : List JV} (hno : RO = none → xn = 0) (hyes : ∀ L, RO = some L → sn = xn ∧ RowOk w vA xn X ∧ RowOk w sA xn Y ∧ jns X = jns Y) (hxn : xn ≤ 1000000)
    (x0 x1 x2 x3 x4 x7 x8 x9 x10 x11 x14 x15 x16 x17 x18 x19 x20 x21 x22 x23 x24 x25 x26 x27 x28 x29 x30 x31 x32 x33 x34 x35 x36 x37 x38 x39 x40 x41 x42 x43 x44 x45 x46 x47 x48 x49 x50 x51 x52 x53 x54 x55 x56 x57 x58 x59 x60 x61 x62 x63 x64 x65 x66 x67 x68 x69 x70 x71 x72 x73 x74 x75 x76 x77 x78 x79 x80 x81 x82 x83 x84 x85 x86 x87 x88 x89 x90 x91 x92 x93 x94 x95 x96 x97 x98 x99 x100 x101 x102 x103 x104 x105 x106 x107 x108 x109 x110 x111 x112 x113 x114 x115 x116 x117 x118 x119 x120 x121 x122 x123 x124 x125 x126 x127 x128 x129 x130 x131 x132 x133 x134 x135 x136 x137 x138 x139 x140 x141 x142 x143 x144 x145 x146 x147 x148 x149 x150 x151 x152 x153 x154 x155 x156 x157 x158 x159 x160 x161 x162 x163 x164 x165 x166 x167 x168 x169 x170 x171 x172 x173 x174 x175 : Value) (Q : Exit → Act → World → Prop)
    (hQ : ∀ (w' : World) (y83 y84 y85 y86 y87 y88 y89 y90 y91 y92 y93 y94 y95 y96 y97 y98 y99 y100 y101 y102 y103 y104 y105 y106 y107 : Value), Chg [] w w' → Q .normal ⟨#[x0, x1, x2, x3, x4, .slice vA xn vc, .int .i64 (runE RO), x7, x8, x9, x10, x11, .slice sA sn sc, .bool RO.isSome, x14, x15, x16, x17, x18, x19, x20, x21, x22, x23, x24, x25, x26, x27, x28, x29, x30, x31, x32, x33, x34, x35, x36, x37, x38, x39, x40, x41, x42, x43, x44, x45, x46, x47, x48, x49, x50, x51, x52, x53, x54, x55, x56, x57, x58, x59, x60, x61, x62, x63, x64, x65, x66, x67, x68, x69, x70, x71, x72, x73, x74, x75, x76, x77, x78, x79, x80, x81, x82, y83, y84, y85, y86, y87, y88, y89, y90, y91, y92, y93, y94, y95, y96, y97, y98, y99, y100, y101, y102, y103, y104, y105, y106, y107, .bool false, x109, x110, x111, x112, x113, x114, x115, x116, x117, x118, x119, x120, x121, x122, x123, x124, x125, x126, x127, x128, x129, x130, x131, x132, x133, x134, x135, x136, x137, x138, x139, x140, x141, x142, x143, x144, x145, x146, x147, x148, x149, x150, x151, x152, x153, x154, x155, x156, x157, x158, x159, x160, x161, x162, x163, x164, x165, x166, x167, x168, x169, x170, x171, x172, x173, x174, x175], []⟩ w') :
    Code.wp Try.prog prReg16 Q ⟨#[x0, x1, x2, x3, x4, .slice vA xn vc, .int .i64 (runE RO), x7, x8, x9, x10, x11, .slice sA sn sc, .bool RO.isSome, x14, x15, x16, x17, x18, x19, x20, x21, x22, x23, x24, x25, x26, x27, x28, x29, x30, x31, x32, x33, x34, x35, x36, x37, x38, x39, x40, x41, x42, x43, x44, x45, x46, x47, x48, x49, x50, x51, x52, x53, x54, x55, x56, x57, x58, x59, x60, x61, x62, x63, x64, x65, x66, x67, x68, x69, x70, x71, x72, x73, x74, x75, x76, x77, x78, x79, x80, x81, x82, x83, x84, x85, x86, x87, x88, x89, x90, x91, x92, x93, x94, x95, x96, x97, x98, x99, x100, x101, x102, x103, x104, x105, x106, x107, x108, x109, x110, x111, x112, x113, x114, x115, x116, x117, x118, x119, x120, x121, x122, x123, x124, x125, x126, x127, x128, x129, x130, x131, x132, x133, x134, x135, x136, x137, x138, x139, x140, x141, x142, x143, x144, x145, x146, x147, x148, x149, x150, x151, x152, x153, x154, x155, x156, x157, x158, x159, x160, x161, x162, x163, x164, x165, x166, x167, x168, x169, x170, x171, x172, x173, x174, x175], []⟩ w := by
  conv => arg 2; whnf
  conv => arg 4; dsimp only
  dsimp only at hQ
  cases RO with
  | none =>
    obtain rfl := hno rfl
    rw [show runE none = 1 from rfl, show (none : Option (List Jn)).isSome = false from rfl] at hQ ⊢
    replace hQ := Lib.hid hQ
    clear hno hyes
    go_wp2_with fail
    exact hQ.out _ _ _ _ _ _ _ _ _ _ _ _ _ _ _ _ _ _ _ _ _ _ _ _ _ _ (Chg.refl _ _)
  | some L =>
    obtain ⟨rfl, h1, h2, h3⟩ := hyes L rfl
    rw [show runE (some L) = 0 from rfl, show (some L).isSome = true from rfl] at hQ ⊢
    replace hQ := Lib.hid hQ
    have hsm := bk_samej (c := vc) (d := sc) h1 h2 hxn h3
    clear hno hyes h1 h2 h3
    go_wp2_with fail
    refine hsm.mono ?_
    rintro e w2 ⟨rfl, hz⟩
    go_wp2_with fail
    exact hQ.out _ _ _ _ _ _ _ _ _ _ _ _ _ _ _ _ _ _ _ _ _ _ _ _ _ _ hz
theorem made_lines {t : Tp} {per id : Int} : ∀ j ∈ makeL t per id, j.lines.length ≤ 8 := fun j hj => by
  have hne : makeL t per id ≠ [] := fun h => by rw [h] at hj; cases hj
  have := (makeL_is hne).1 j hj
  exact (check_front2 this).2.2.2.2.2.1
theorem run_lines (T : List TV) : ∀ (D : List Slot) (f : Int) (L : List Jn), runN T D f = some L → ∀ j ∈ L, j.lines.length ≤ 8
  | [], f, L, h, j, hj => by
    unfold runN at h
    cases h
    cases hj
  | x :: D, f, L, h, j, hj => by
    unfold runN at h
    by_cases hm : mkS T x f = []
    · rw [if_pos hm] at h; cases h
    rw [if_neg hm] at h
    cases hr : runN T D (f + (mkS T x f).length) with
    | none => rw [hr] at h; cases h
    | some L' =>
      rw [hr] at h
      cases h
      rcases List.mem_append.1 hj with hj | hj
      · exact made_lines j hj
      · exact run_lines T D _ L' hr j hj
theorem row_ok {w : World} {A : Option Addr} {c : Nat} {X : List JV} {F : List Nat} (hf : Fix w 38 6 (.slice A X.length c) X.length (X.flatMap jvEnc) F) (hl : ∀ x ∈ X, Fix w 40 3 x.pv x.j.lines.length (x.j.lines.flatMap lnEnc) x.pF) (h8 : ∀ j ∈ jns X, j.lines.length ≤ 8) : RowOk w A X.length X :=
  ⟨Fix.src hf, fun x hx => by
    have h := hl x hx
    obtain ⟨B, d, hp, -⟩ := _root_.id h
    rw [hp] at h
    exact ⟨B, d, hp, Fix.src h⟩, fun x hx => by have := h8 x.j (List.mem_map.2 ⟨x, hx, rfl⟩); omega, rfl⟩
end Go.Proofs.Ytlbkjhfnpjbjlaa
/- PlanRuns. -/
namespace Go.Proofs.Ytlbkjhfnpjbjlaa
open Go.RowKit Go.Vx
set_option linter.unusedVariables false
set_option linter.unusedSimpArgs false

theorem _root_.Go.Vx.Fix.keepF {w w' : World} {e : TypeId} {size n : Nat} {v : Value} {xs : List Value} {F : List Nat} (h : Fix w e size v n xs F) (k : Chg [] w w') : Fix w' e size v n xs F := h.chg k (by simp)
/-- Only the block that holds them. -/
theorem RItems.trim {w : World} {v : Value} {l : List Item} {F : List Nat} (h : RItems w v l F) : ∃ F', RItems w v l F' ∧ ∀ g ∈ F', g ∈ F ∧ g < w.heap.size := by
  obtain ⟨A, c, rfl, h1, h2, h3, h4⟩ := h
  rcases Nat.eq_zero_or_pos l.length with h0 | h0
  · exact ⟨[], ⟨A, c, rfl, h1, h2, h3, fun ad h => absurd h (by omega)⟩, by simp⟩
  · obtain ⟨ad, rfl, hc⟩ := h3.2 h0
    refine ⟨[ad.block], ⟨_, c, rfl, h1, h2, h3, fun ad' _ e => by cases e; simp⟩, fun g hg => ?_⟩
    rw [List.mem_singleton.1 hg]
    refine ⟨h4 ad h0 rfl, ?_⟩
    have hl : 0 < (l.flatMap itEnc).length := by rw [flatMap_len (e' := itEnc) (size := 3) (fun _ => rfl)]; omega
    have := hc 0 _ (List.getElem?_eq_getElem hl)
    have := World.block_lt_of_cell? w _ this
    rwa [add_block] at this
theorem runI_len (T : List TV) : ∀ (D : List Item) (f : Int) (L : List Jn), runI T D f = some L → L.length ≤ 2 * D.length
  | [], f, L, h => by unfold runI at h; cases h; simp
  | x :: D, f, L, h => by
    unfold runI at h
    have h2 := makeL_len (T.getD x.2.2.toNat default).t x.1 f
    by_cases hm : makeL (T.getD x.2.2.toNat default).t x.1 f = []
    · rw [if_pos hm] at h; cases h
    rw [if_neg hm] at h
    cases hr : runI T D (f + (makeL (T.getD x.2.2.toNat default).t x.1 f).length) with
    | none => rw [hr] at h; cases h
    | some L' =>
      rw [hr] at h
      cases h
      have := runI_len T D _ L' hr
      rw [List.length_append, List.length_cons]
      omega
theorem rtpInfo : (Try.prog.info? 27).map (fun i => (i.zero, i.size, i.bytes)) = some (some (.agg #[.int .i64 0, .int .i64 0, .int .i64 0, .int .i64 0, .int .i64 0, .int .i64 0, .int .i64 0, .int .i64 0, .int .i64 0, .slice none 0 0, .slice none 0 0, .int .i64 0]), 12, 128) := by kernel_rfl
theorem tv_one (T : List TV) : ∀ u ∈ T.flatMap tvEnc, u.oneCell' = true := fun u hu => by
  obtain ⟨x, -, hu⟩ := List.mem_flatMap.1 hu
  simp only [tvEnc, List.mem_cons, List.not_mem_nil, or_false] at hu
  rcases hu with rfl | rfl | rfl | rfl | rfl | rfl | rfl | rfl | rfl | rfl | rfl | rfl <;> rfl
theorem tv_take (T : List TV) {k : Nat} (hk : k < T.length) : T.take (k + 1) = T.take k ++ [T.getD k default] := by
  rw [List.take_succ_eq_append_getElem hk]
  simp [List.getD, List.getElem?_eq_getElem hk]
theorem tv_getD (T : List TV) {k : Nat} (hk : k < T.length) : (T.take (k + 1)).getD k default = T.getD k default := by
  simp [List.getD, List.getElem?_take]
set_option maxRecDepth 100000 in
set_option maxHeartbeats 16000000 in
theorem planRuns_walk (w : World) (first : Int) (hfw : (Lit.int .i64 first).wf = true) (A : Option Addr) (n c : Nat) (T : List TV) (x : T.length = n ∧ n ≤ c ∧ c ≤ maxLen ∧ Src w 12 A n (T.flatMap tvEnc) ∧ ∀ x ∈ T, TArg w x) (y : n * 128 ≤ 140737488351232) :
    Calls Try.prog 6 #[.int .i64 first, .slice A n c] w fun e w' => e = .returned (.bool true) ∧ Chg [] w w' := by
  obtain ⟨i0, hi0, z0, z1, z2⟩ := info_parts rtpInfo
  have hrow := TArg.row x.1 x.2.2.2.1 x.2.2.2.2
  have hTn := x.1
  have hsm := pl_small (c := c) hrow (by omega)
  have hal := pl_alive
  have hsy := @small_yes T
  have hrun := fun W (z : Chg [] w W) (hl : ∀ x ∈ T, x.t.tg.length ≤ 20 ∧ x.t.wt.length ≤ 20) (hn : n ≤ 50) (h1 : -1000000000000 ≤ first) (h2 : first ≤ 2000000000000) => pl_run (c := c) ((hrow.keep z).row hl) hn first h1 h2
  clear x
  generalize smallN T = sb at *
  replace hsy := Lib.hid hsy
  replace hrun := Lib.hid hrun
  replace hTn := Lib.hid hTn
  go_enter Try.func6, Try.ntmps6
  go_wp2_with fail
  refine hsm.mono ?_
  rintro e w1 ⟨rfl, hz1⟩
  clear hsm
  cases sb with
  | false =>
    go_wp2_with fail
    refine (hal _).mono ?_
    rintro e w2 ⟨rfl, hz2⟩
    go_wp2_with fail
    go_ret
    exact ⟨rfl, hz1.trans' hz2⟩
  | true =>
  by_cases h1 : first < -1000
  · have b1 : decide (first < -1000) = true := by simpa using h1
    clear h1
    go_wp2_with fail
    refine (hal _).mono ?_
    rintro e w2 ⟨rfl, hz2⟩
    go_wp2_with fail
    go_ret
    exact ⟨rfl, hz1.trans' hz2⟩
  have b1 : decide (first < -1000) = false := by simp; omega
  by_cases h2 : 1099511627776 < first
  · have b2 : decide (1099511627776 < first) = true := by simpa using h2
    clear h1 h2
    go_wp2_with fail
    refine (hal _).mono ?_
    rintro e w2 ⟨rfl, hz2⟩
    go_wp2_with fail
    go_ret
    exact ⟨rfl, hz1.trans' hz2⟩
  have b2 : decide (1099511627776 < first) = false := by simp; omega
  obtain ⟨q1, q2, q3⟩ := hsy.out rfl
  rw [hTn.out] at q1 q3
  have hrowT : ∀ W, Chg [] w W → TRow W A n T := fun W z => (hrow.keep z).row q2
  have hrd := run_due T n first (by omega)
  have hrl := run_lines T (puts ([], 0) (itsN T n)).1 first
  rw [hrd] at hrl
  have hrun1 := fun W z => hrun.out W z q2 (by omega) (by omega) (by omega)
  rw [hrd] at hrun1
  have hcell := fun W (z : Chg [] w W) k (hk : k < n) => (hrowT W z).cells hk
  have hit := its_succ T
  have hmono : ∀ k, k ≤ n → (itsN T k).length ≤ 120 := fun k hk => by
    have : ∀ d, (itsN T k).length ≤ (itsN T (k + d)).length := fun d => by
      induction d with
      | zero => exact Nat.le_refl _
      | succ d ih => rw [← Nat.add_assoc, its_succ, List.length_append]; omega
    have := this (n - k)
    rw [show k + (n - k) = n by omega] at this
    omega
  have hits0 : itsN T 0 = [] := rfl
  have hdl := dueL_len (itsN T n)
  have hitems := fun W (z : Chg [] w W) => pl_items (c := c) (hrowT W z) (by omega)
  have hrp := fun W B d (hr : TRow W B n T) => r1_runPlan (c := d) hr (by omega) (by omega) first (by omega) (by omega)
  have hpd := puts_due (itsN T n) [] 0 (by simp) (by simp; omega)
  have hpl := (puts_len (itsN T n) ([], 0) (by simp; omega)).1
  replace hrun1 := Lib.hid hrun1
  replace hrowT := Lib.hid hrowT
  replace hcell := Lib.hid hcell
  replace hit := Lib.hid hit
  replace hmono := Lib.hid hmono
  replace hits0 := Lib.hid hits0
  replace hdl := Lib.hid hdl
  replace hitems := Lib.hid hitems
  replace hrp := Lib.hid hrp
  replace hpd := Lib.hid hpd
  replace hpl := Lib.hid hpl
  replace hrl := Lib.hid hrl
  replace q2 := Lib.hid q2
  replace q3 := Lib.hid q3
  clear hrun hrd hsy hrow
  go_wp2_with fail
  refine (hal _).mono ?_
  rintro e w2 ⟨rfl, hz2⟩
  have hzw2 := hz1.trans' hz2
  have hrun2 := hrun1.out _ hzw2
  clear hal hrun1
  go_wp2_with fail
  refine hrun2.mono ?_
  rintro e w3 ⟨X, v, F, rfl, hf, hj, hl, -, -, hz3⟩
  clear hrun2
  have hzw3 := hzw2.trans' hz3
  obtain ⟨vA, vc, rfl, -⟩ := _root_.id hf
  have hXr : Hid (∀ W, Chg [] w3 W → (∀ j ∈ jns X, j.lines.length ≤ 8) → RowOk W vA X.length X) := Lib.hid fun W z h8 => row_ok (hf.chg z (by simp)) (fun x hx => (hl x hx).chg z (by simp)) h8
  clear hf hl hz3 hzw2 hz1 hz2
  generalize hXn : X.length = xn at *
  generalize hRO : runI T (dueL (itsN T n)) first = RO at *
  replace hXn := Lib.hid hXn
  replace hj := Lib.hid hj
  replace hRO := Lib.hid hRO
  go_wp2_with fail
  go_loopw [7, 8, 9] (fun rv dv iv wr => ∃ (k : Nat) (rF dF : List Nat), k ≤ n ∧ iv = .int .i64 k ∧ Fix wr 27 12 rv k ((T.take k).flatMap tvEnc) rF ∧ (∀ g ∈ rF, w3.heap.size ≤ g) ∧ RItems wr dv (dueL (itsN T k)) dF ∧ (∀ g ∈ dF, w3.heap.size ≤ g ∧ g ∉ rF) ∧ (∀ g ∈ dF, g < wr.heap.size) ∧ Chg [] w3 wr) (fun _ _ iv _ => n - (intOf iv).toNat)
  case atStart => exact ⟨0, [], [], by omega, rfl, Fix.nil _ _ _, by simp, by rw [hits0.out]; exact RItems.nil _, by simp, by simp, Chg.refl _ _⟩
  case round =>
    obtain ⟨k, rF, dF, hk, rfl, hfr, hrF, hdue, hdF, hdls, hzr⟩ := hrel
    obtain ⟨rA, rc, rfl, -⟩ := _root_.id hfr
    obtain ⟨dA, dc, rfl⟩ := hdue.slice
    have hkw : IntKind.i64.wrap ((k : Int) + 1) = (k : Int) + 1 := by rw [IntKind.wrap_i64]; omega
    have hzw := hzw3.trans' hzr
    by_cases hlt : k < n
    · obtain ⟨ad, rfl, hok, c0, hcj⟩ := hcell.out _ hzw k hlt
      have hlt2 : (k : Int) < (n : Int) := by omega
      have hitk := hit.out k
      have hmk1 := hmono.out (k + 1) (by omega)
      rw [hitk] at hmk1
      have hrk : ∀ W, Chg [] w W → W.cell? ⟨(ad.add (k * 12)).block, (ad.add (k * 12)).off + 11, none⟩ = some (.int .i64 (T.getD k default).t.rank) := fun W z => by
        obtain ⟨ad', h1, -, -, h4⟩ := hcell.out W z k hlt
        cases h1
        exact h4 11 _ (by omega) (by omega) rfl
      have htt := tv_take T (k := k) (by rw [hTn.out]; exact hlt)
      have hokW : ∀ W, Chg [] w W → TOk W (T.getD k default) := fun W z => by
        obtain ⟨_, _, h3, -⟩ := hcell.out W z k hlt
        exact h3
      have hxk : ∀ j, j < 12 → ((T.take (k + 1)).flatMap tvEnc)[k * 12 + j]? = (tvEnc (T.getD k default))[j]? := fun j hj => by
        have hkt : k < (T.take (k + 1)).length := by rw [List.length_take, hTn.out]; omega
        rw [flatMap_at tvEnc_len (T.take (k + 1)) k hkt j hj, at_eq hkt]
        have := tv_getD T (k := k) (by rw [hTn.out]; exact hlt)
        simp only [List.getD, List.getElem?_eq_getElem hkt, Option.getD_some] at this
        rw [this]
        rfl
      generalize T.getD k default = x at *
      have c1 := hcj 1 _ (by omega) (by omega) rfl
      have c2 := hcj 2 _ (by omega) (by omega) rfl
      have c3 := hcj 3 _ (by omega) (by omega) rfl
      have c4 := hcj 4 _ (by omega) (by omega) rfl
      have c5 := hcj 5 _ (by omega) (by omega) rfl
      have c6 := hcj 6 _ (by omega) (by omega) rfl
      have c7 := hcj 7 _ (by omega) (by omega) rfl
      have c8 := hcj 8 _ (by omega) (by omega) rfl
      have c9 := hcj 9 _ (by omega) (by omega) rfl
      have c10 := hcj 10 _ (by omega) (by omega) rfl
      have c11 := hcj 11 _ (by omega) (by omega) rfl
      clear hcj hok
      obtain ⟨t, tA, tc, wA, wc⟩ := x
      unfold TOk at hokW
      dsimp only at *
      have hrf := fun W => pl_ref t tA wA t.tg.length t.wt.length tc wc W
      have hpr := fun W (z : Chg [] w W) => r1_periods t (tc := tc) (wc := wc) (hokW W z).1 (hokW W z).2.1 (hokW W z).2.2.1 (hokW W z).2.2.2
      have hsu := fun j => @per_it_succ t k j
      have hp0 : (perIt t k).take 0 = [] := rfl
      have hpe : (perIt t k).take (perL t).length = perIt t k := List.take_of_length_le (by unfold perIt; rw [List.length_map]; exact Nat.le_refl _)
      have hpil : (perIt t k).length = (perL t).length := by unfold perIt; rw [List.length_map]
      have hpn := perL_len t
      generalize perIt t k = PI at *
      generalize perL t = PL at *
      obtain ⟨kind, id', ent, frm, til, every, amt, deb, cred, tg, wt, rank⟩ := t
      unfold tpV at hpr hrf
      dsimp only at *
      replace hxk : ∀ j, j < 12 → ((T.take (k + 1)).flatMap tvEnc)[k * 12 + j]? = [Value.int .i64 kind, .int .i64 id', .int .i64 ent, .int .i64 frm, .int .i64 til, .int .i64 every, .int .i64 amt, .int .i64 deb, .int .i64 cred, .slice tA tg.length tc, .slice wA wt.length wc, .int .i64 rank][j]? := hxk
      have hten : [(⟨⟨kind, id', ent, frm, til, every, amt, deb, cred, tg, wt, rank⟩, tA, tc, wA, wc⟩ : TV)].flatMap tvEnc = [.int .i64 kind, .int .i64 id', .int .i64 ent, .int .i64 frm, .int .i64 til, .int .i64 every, .int .i64 amt, .int .i64 deb, .int .i64 cred, .slice tA tg.length tc, .slice wA wt.length wc, .int .i64 rank] := rfl
      have htf : (T.take (k + 1)).flatMap tvEnc = (T.take k).flatMap tvEnc ++ [.int .i64 kind, .int .i64 id', .int .i64 ent, .int .i64 frm, .int .i64 til, .int .i64 every, .int .i64 amt, .int .i64 deb, .int .i64 cred, .slice tA tg.length tc, .slice wA wt.length wc, .int .i64 rank] := by rw [htt, List.flatMap_append, hten]
      generalize tg.length = tn at *
      generalize wt.length = wn at *
      replace hsu := Lib.hid hsu
      replace hp0 := Lib.hid hp0
      replace hpe := Lib.hid hpe
      replace hitk := Lib.hid hitk
      replace hmk1 := Lib.hid hmk1
      replace hpil := Lib.hid hpil
      replace hdue := Lib.hid hdue
      replace hdF := Lib.hid hdF
      replace hdls := Lib.hid hdls
      replace hrF := Lib.hid hrF
      replace hfr := Lib.hid hfr
      replace hrk := Lib.hid hrk
      replace hpn := Lib.hid hpn
      replace hpr := Lib.hid hpr
      replace htf := Lib.hid htf
      replace hxk := Lib.hid hxk
      generalize hdln : (dueL (itsN T k)).length = dn at *
      replace hdln := Lib.hid hdln
      clear htt hten hokW
      go_wp2_with fail
      refine (hrf _).mono ?_
      rintro e w4 ⟨rfl, hz4⟩
      clear hrf c0 c1 c2 c3 c4 c5 c6 c7 c8 c9 c10 c11
      have hzr4 := hzr.trans' hz4
      have hfr4 := Lib.hid ((hfr.out.chg hz4 (by simp)).alloc (.cells #[.int .i64 kind, .int .i64 id', .int .i64 ent, .int .i64 frm, .int .i64 til, .int .i64 every, .int .i64 amt, .int .i64 deb, .int .i64 cred, .slice tA tn tc, .slice wA wn wc, .int .i64 rank] 27))
      have hsrc := Lib.hid (Src.one_ (w := w4) (t := 27) (cs := #[.int .i64 kind, .int .i64 id', .int .i64 ent, .int .i64 frm, .int .i64 til, .int .i64 every, .int .i64 amt, .int .i64 deb, .int .i64 cred, .slice tA tn tc, .slice wA wn wc, .int .i64 rank]) (size := 12) (B := w4.heap.size) rfl rfl)
      have hs4 := hzr4.size
      have hdl9 : ∀ g ∈ dF, g < w4.heap.size := fun g hg => by have := hdls.out g hg; have := hz4.size; omega
      have hmade : ∀ (v6 : Value) (w6 : World) (F6 : List Nat), Appended (w4.alloc (.cells #[.int .i64 kind, .int .i64 id', .int .i64 ent, .int .i64 frm, .int .i64 til, .int .i64 every, .int .i64 amt, .int .i64 deb, .int .i64 cred, .slice tA tn tc, .slice wA wn wc, .int .i64 rank] 27)) w6 27 12 (.slice rA k rc) v6 k 1 ((T.take k).flatMap tvEnc) [.int .i64 kind, .int .i64 id', .int .i64 ent, .int .i64 frm, .int .i64 til, .int .i64 every, .int .i64 amt, .int .i64 deb, .int .i64 cred, .slice tA tn tc, .slice wA wn wc, .int .i64 rank] rF F6 →
          ∃ g1 k1, v6 = .slice (some ⟨g1, 0, none⟩) (k + 1) k1 ∧ Fix w6 27 12 (.slice (some ⟨g1, 0, none⟩) (k + 1) k1) (k + 1) ((T.take (k + 1)).flatMap tvEnc) [g1] ∧ w3.heap.size ≤ g1 ∧ Chg [] w3 w6 ∧ RItems w6 (.slice dA dn dc) (dueL (itsN T k)) dF ∧ (∀ g ∈ dF, g ≠ g1) ∧ w4.heap.size ≤ w6.heap.size ∧
          w6.cell? ⟨g1, k * 12, none⟩ = some (.int .i64 kind) ∧ w6.cell? ⟨g1, k * 12 + 1, none⟩ = some (.int .i64 id') ∧ w6.cell? ⟨g1, k * 12 + 2, none⟩ = some (.int .i64 ent) ∧ w6.cell? ⟨g1, k * 12 + 3, none⟩ = some (.int .i64 frm) ∧ w6.cell? ⟨g1, k * 12 + 4, none⟩ = some (.int .i64 til) ∧ w6.cell? ⟨g1, k * 12 + 5, none⟩ = some (.int .i64 every) ∧ w6.cell? ⟨g1, k * 12 + 6, none⟩ = some (.int .i64 amt) ∧ w6.cell? ⟨g1, k * 12 + 7, none⟩ = some (.int .i64 deb) ∧ w6.cell? ⟨g1, k * 12 + 8, none⟩ = some (.int .i64 cred) ∧ w6.cell? ⟨g1, k * 12 + 9, none⟩ = some (.slice tA tn tc) ∧ w6.cell? ⟨g1, k * 12 + 10, none⟩ = some (.slice wA wn wc) ∧ w6.cell? ⟨g1, k * 12 + 11, none⟩ = some (.int .i64 rank) := fun v6 w6 F6 hA6 => by
        obtain ⟨g1, k1, rfl, rfl⟩ := hA6.head (by omega)
        have hfx6 : Fix w6 27 12 (.slice (some ⟨g1, 0, none⟩) (k + 1) k1) (k + 1) ((T.take (k + 1)).flatMap tvEnc) [g1] := by rw [htf.out]; exact hA6.fix
        have hcc : ∀ j, j < 12 → ∀ u, [Value.int .i64 kind, .int .i64 id', .int .i64 ent, .int .i64 frm, .int .i64 til, .int .i64 every, .int .i64 amt, .int .i64 deb, .int .i64 cred, .slice tA tn tc, .slice wA wn wc, .int .i64 rank][j]? = some u → w6.cell? ⟨g1, k * 12 + j, none⟩ = some u := fun j hj u hu => by
          obtain ⟨g', c', e', -, -, -, s, -⟩ := hfx6.at_ (k := k) (j := j) (by omega) hj
          cases e'
          rw [s, hxk.out j hj]
          exact hu
        refine ⟨g1, k1, rfl, hfx6, ?_, (hzr4.alloc _).trans hA6.chg (fun g hg => .inr (hrF.out g hg)), ((hdue.out.keep hz4).keep ((Chg.refl [] w4).alloc _)).chg hA6.chg (fun g hg => (hdF.out g hg).2), ?_, by have := hA6.chg.size; rw [World.size_alloc] at this; omega, hcc 0 (by omega) _ rfl, hcc 1 (by omega) _ rfl, hcc 2 (by omega) _ rfl, hcc 3 (by omega) _ rfl, hcc 4 (by omega) _ rfl, hcc 5 (by omega) _ rfl, hcc 6 (by omega) _ rfl, hcc 7 (by omega) _ rfl, hcc 8 (by omega) _ rfl, hcc 9 (by omega) _ rfl, hcc 10 (by omega) _ rfl, hcc 11 (by omega) _ rfl⟩
        · rcases hA6.foot with h | h
          · exact hrF.out g1 (by rw [← h]; simp)
          · rw [List.singleton_inj.1 h, World.size_alloc]; omega
        · intro g hg he
          rcases hA6.foot with h | h
          · exact (hdF.out g hg).2 (by rw [he, ← h]; simp)
          · have h7 := List.singleton_inj.1 h
            rw [World.size_alloc] at h7
            have := hdl9 g hg
            omega
      replace hmade := Lib.hid hmade
      have hk8 : k ≤ 8 := by omega
      go_wp2_with (
        at_builtin
        refine wpList_append_fix rfl (.tmp 45) (.tmp 51) 48 rfl Try.underlying48 hi0 z0 z1 z2 rfl (by omega) rfl hfr4.out rfl hsrc.out (by simp [Value.oneCell']) (by unfold maxLen; omega) (by omega) ?_
        intro v6 w6 F6 hA6
        obtain ⟨g1, k1, rfl, hfx6, hg16, hz36, hdue6, hdn1, hs46, e0, e1, e2, e3, e4, e5, e6, e7, e8, e9, e10, e11⟩ := hmade.out v6 w6 F6 hA6
        clear hA6
        replace hdn1 := Lib.hid hdn1
        replace hfx6 := Lib.hid hfx6
        replace hdue6 := Lib.hid hdue6)
      have hzw6 := hzw3.trans' hz36
      refine (hpr.out _ hzw6).mono ?_
      rintro e w7 ⟨pv, pF, rfl, hpf, hpF, hz7⟩
      obtain ⟨pA, pc, rfl, -, hpl', hpm, -⟩ := _root_.id hpf
      have hz37 := hz36.trans' hz7
      have hdue7 := hdue6.out.keep hz7
      have hfx7 := hfx6.out.keepF hz7
      have hPn : PL.length ≤ 1200 := hpn.out
      have hpcell : ∀ W, Chg [] w7 W → ∀ j, j < PL.length → ∃ ad, pA = some ad ∧ W.cell? (ad.add j) = some (.int .i64 (PL.getD j 0)) := fun W z j hj => by
        obtain ⟨ad, rfl, hc⟩ := (Fix.src (hpf.chg z (by simp))).2 (by omega)
        refine ⟨ad, rfl, hc j _ ?_⟩
        rw [List.getElem?_map, List.getElem?_eq_getElem hj]
        simp [List.getD, List.getElem?_eq_getElem hj]
      have hdF7 : ∀ g ∈ dF, w3.heap.size ≤ g ∧ g ∉ [g1] := fun g hg => ⟨(hdF.out g hg).1, fun hh => (hdn1.out g hg) (List.mem_singleton.1 hh)⟩
      generalize hPm : PL.length = m at *
      replace hPm := Lib.hid hPm
      replace hpcell := Lib.hid hpcell
      replace hfx7 := Lib.hid hfx7
      clear hpr e0 e1 e2 e3 e4 e5 e6 e7 e8 e9 e10 e11 hpl' hpm hpf hpF hmade hfr4 hsrc hdue6 hfx6
      go_wp2_with fail
      go_loopw [8, 11] (fun dv jv wr => ∃ (j : Nat) (F : List Nat), j ≤ m ∧ jv = .int .i64 j ∧ RItems wr dv (dueL (itsN T k ++ PI.take j)) F ∧ (∀ g ∈ F, w3.heap.size ≤ g ∧ g ∉ [g1]) ∧ (∀ g ∈ F, g < wr.heap.size) ∧ Chg [] w7 wr) (fun _ jv _ => m - (intOf jv).toNat)
      case atStart => exact ⟨0, dF, by omega, rfl, by rw [hp0.out, List.append_nil]; exact hdue7, hdF7, fun g hg => by have := hdl9 g hg; have := hz7.size; omega, Chg.refl _ _⟩
      case round =>
        obtain ⟨j, F2, hj, rfl, hdue3, hdF3, hdl3, hz8⟩ := hrel
        obtain ⟨dA2, dc2, rfl⟩ := hdue3.slice
        have hjw : IntKind.i64.wrap ((j : Int) + 1) = (j : Int) + 1 := by rw [IntKind.wrap_i64]; omega
        by_cases hjl : j < m
        · obtain ⟨qa, rfl, q0⟩ := hpcell.out _ hz8 j hjl
          have hjl2 : (j : Int) < (m : Int) := by omega
          have hsj := hsu.out j (by have := hPm.out; omega)
          have r11 := hrk.out _ (hzw3.trans' (hz37.trans' hz8))
          have hlen : (dueL (itsN T k ++ PI.take j)).length < 1000 := by
            rw [dueL_len, List.length_append, List.length_take]
            have := hmk1.out
            rw [List.length_append] at this
            omega
          have hnext : dueL (itsN T k ++ PI.take (j + 1)) = place (dueL (itsN T k ++ PI.take j)) (PL.getD j 0, rank, (k : Int)) := by rw [hsj, ← List.append_assoc, dueL_snoc]
          have hput := r_putItem (hdue3.keep (Chg.refl [] _).drew) hlen (PL.getD j 0, rank, (k : Int))
          generalize PL.getD j 0 = y at *
          have q0' : wr.drew.cell? (qa.add j) = some (.int .i64 y) := q0
          have r11' : wr.drew.cell? ⟨(ad.add (k * 12)).block, (ad.add (k * 12)).off + 11, none⟩ = some (.int .i64 rank) := r11
          generalize (dueL (itsN T k ++ PI.take j)).length = dl at *
          have hgl : g1 < wr.heap.size := by have := hfx7.out.lt g1 (by simp); have := hz8.size; omega
          have h3l : w3.heap.size ≤ wr.heap.size := (hz37.trans' hz8).size
          replace hnext := Lib.hid hnext
          replace hput := Lib.hid hput
          clear hsj hdue3 hlen
          go_wp2_with fail
          go_region_law (go_simp; go_at_call 17; refine hput.out.mono ?_; rintro e w9 ⟨v9, F9, rfl, hd9, hF9, hz9⟩)
          all_goals
            go_wp2_with fail
            obtain ⟨F10, hd10, hF10⟩ := hd9.trim
            have hlt9 : ∀ g ∈ F10, g < w9.heap.size := fun g hg => (hF10 g hg).2
            exact ⟨⟨j + 1, F10, by omega, by go_num, by rw [hnext.out]; exact hd10, fun g hg => by have h9 : wr.heap.size ≤ g := hF9 g (hF10 g hg).1; exact ⟨by omega, fun hh => by have := List.mem_singleton.1 hh; omega⟩, hlt9, hz8.drew.trans' hz9⟩, by simp [intOf]; omega⟩
        · obtain rfl : j = m := by omega
          rw [hpe.out, ← hitk.out] at hdue3
          have hzz := hz37.trans' hz8
          have hfx8 := hfx7.out.keepF hz8
          generalize hdl5 : (dueL (itsN T k ++ PI.take j)).length = dl at *
          replace hdl5 := Lib.hid hdl5
          clear hjl
          go_wp2_with fail
          have e := hdl5.out
          rw [hpe.out, ← hitk.out] at e
          rw [e] at hdue3
          exact ⟨⟨k + 1, [g1], F2, by omega, by go_num, hfx8, fun g hg => by rw [List.mem_singleton.1 hg]; exact hg16, hdue3, hdF3, hdl3, hzz⟩, by simp [intOf]; omega⟩
    · obtain rfl : k = n := by omega
      have htT : T.take k = T := List.take_of_length_le (by rw [hTn.out]; exact Nat.le_refl _)
      rw [htT] at hfr
      have hrowr : TRow wr rA k T := ⟨Fix.src hfr, (hrowT.out _ hzw).2.1, hTn.out⟩
      have hrp1 := hrp.out wr rA rc hrowr
      have hz3r := hzr
      have hdls' : (dueL (itsN T k)).length ≤ 120 := by rw [dueL_len]; exact q3.out
      generalize hdn : (dueL (itsN T k)).length = dn at *
      replace hdn := Lib.hid hdn
      replace hdue := Lib.hid hdue
      clear hfr hrF hdF hdls hlt htT hrowr hrp hkw
      go_wp2_with fail
      refine hrp1.mono ?_
      rintro e w10 ⟨Y, yv, yF, rfl, hfy, hjy, hly, -, -, hz10⟩
      clear hrp1
      obtain ⟨sA, sc, rfl, -⟩ := _root_.id hfy
      have hz310 := hz3r.trans' hz10
      have hzw10 := hzw3.trans' hz310
      have hYr := fun h8 => row_ok hfy hly h8
      have hno : RO = none → xn = 0 := fun h => by
        have := hj.out
        rw [h] at this
        have := congrArg List.length this
        rw [List.length_map, hXn.out] at this
        exact this
      have hyes : ∀ L, RO = some L → Y.length = xn ∧ RowOk w10 vA xn X ∧ RowOk w10 sA xn Y ∧ jns X = jns Y := fun L h => by
        have e1 := hj.out
        rw [h] at e1
        have e2 := hjy
        rw [h] at e2
        have e3 : jns X = jns Y := by rw [e1, e2]
        have e4 : Y.length = xn := by rw [← hXn.out]; have := congrArg List.length e3; rw [List.length_map, List.length_map] at this; exact this.symm
        have h8 : ∀ j ∈ L, j.lines.length ≤ 8 := hrl.out L h
        have hx := hXr.out w10 hz310 (by rw [e1]; exact h8)
        have hy := hYr (by rw [e2]; exact h8)
        rw [e4] at hy
        exact ⟨e4, hx, hy, e3⟩
      have hxn2 : xn ≤ 1000000 := by
        cases hro : RO with
        | none => have := hno hro; omega
        | some L =>
          have e1 := hj.out
          rw [hro] at e1
          have := runI_len T (dueL (itsN T k)) first L (by rw [hRO.out]; exact hro)
          have e5 : xn = L.length := by rw [← hXn.out]; have := congrArg List.length e1; rw [List.length_map] at this; exact this
          have := hdn.out
          omega
      generalize hYn : Y.length = yn at *
      replace hno := Lib.hid hno
      replace hyes := Lib.hid hyes
      clear hfy hjy hly hYr hYn
      go_upto_region 16 with fail
      refine pr_asked (RO := RO) hno.out hyes.out hxn2 _ _ _ _ _ _ _ _ _ _ _ _ _ _ _ _ _ _ _ _ _ _ _ _ _ _ _ _ _ _ _ _ _ _ _ _ _ _ _ _ _ _ _ _ _ _ _ _ _ _ _ _ _ _ _ _ _ _ _ _ _ _ _ _ _ _ _ _ _ _ _ _ _ _ _ _ _ _ _ _ _ _ _ _ _ _ _ _ _ _ _ _ _ _ _ _ _ _ _ _ _ _ _ _ _ _ _ _ _ _ _ _ _ _ _ _ _ _ _ _ _ _ _ _ _ _ _ _ _ _ _ _ _ _ _ _ _ _ _ _ _ _ _ _ _ _ _ _ _ _ _ _ _ _ _ _ _ _ _ _ _ _ _ _ _ _ _ _ _ _ _ _ _ ?_
      intro w11 y83 y84 y85 y86 y87 y88 y89 y90 y91 y92 y93 y94 y95 y96 y97 y98 y99 y100 y101 y102 y103 y104 y105 y106 y107 hz11
      have hz311 := hz310.trans' hz11
      have hzw11 := hzw3.trans' hz311
      have hit1 := hitems.out _ hzw11
      have hdue11 := (hdue.out.keep hz10).keep hz11
      unfold AgIs at hit1
      obtain ⟨S, hS⟩ : ∃ S, (puts ([], 0) (itsN T k)).1 = S := ⟨_, rfl⟩
      obtain ⟨m, hm⟩ : ∃ m, (puts ([], 0) (itsN T k)).2 = m := ⟨_, rfl⟩
      have hSd : S.map item = dueL (itsN T k) := by rw [← hS]; exact hpd.out
      have hSn : S.length = dn := by rw [← hdn.out, ← hSd, List.length_map]
      rw [hS, hm] at hit1
      replace hdue11 := Lib.hid hdue11
      replace hSd := Lib.hid hSd
      clear hS hm hno hyes hdue
      go_wp2_with fail
      refine hit1.mono ?_
      rintro e w12 ⟨p, aF, rfl, hag, -, hz12⟩
      have hln := ag_len hag
      have haa := ag_all hag (by omega)
      rw [hSn] at hln
      have bne : ((dn : Int) != (dn : Int)) = false := by simp
      have hdue12 := hdue11.out.keep hz12
      replace hag := Lib.hid hag
      replace hdue12 := Lib.hid hdue12
      replace haa := Lib.hid haa
      replace hSn := Lib.hid hSn
      clear hit1
      go_wp2_with fail
      refine hln.mono ?_
      rintro e w13 ⟨rfl, rfl⟩
      clear hln
      go_wp2_with fail
      refine haa.out.mono ?_
      rintro e w14 ⟨av, aO, rfl, hitm, -, hz14⟩
      obtain ⟨tA, tc, rfl, -⟩ := hitm.nilv
      have hdue14 := hdue12.out.keep hz14
      have hzw14 := (hzw11.trans' hz12).trans' hz14
      have hcells : ∀ W, Chg [] w14 W → ∀ i, i < dn → ∃ (g : Nat) (ad : Addr) (a b e : Int), tA = some ⟨g, 0, none⟩ ∧ dA = some ad ∧ W.cell? ⟨g, i * 3, none⟩ = some (.int .i64 a) ∧ W.cell? ⟨g, i * 3 + 1, none⟩ = some (.int .i64 b) ∧ W.cell? ⟨g, i * 3 + 2, none⟩ = some (.int .i64 e) ∧ W.cell? (ad.add (i * 3)) = some (.int .i64 a) ∧ W.cell? ⟨(ad.add (i * 3)).block, (ad.add (i * 3)).off + 1, none⟩ = some (.int .i64 b) ∧ W.cell? ⟨(ad.add (i * 3)).block, (ad.add (i * 3)).off + 2, none⟩ = some (.int .i64 e) := fun W z i hi => by
        have his : i < S.length := by rw [hSn.out]; exact hi
        obtain ⟨g, c', e1, -, -, -, x0, x1, x2⟩ := (hitm.chg z (by simp)).cells (k := i) his
        obtain ⟨ad, c2, e2, y0, y1, y2⟩ := (hdue14.keep z).at_ (k := i) (by rw [hdn.out]; exact hi)
        injection e1 with e1
        injection e2 with e2
        have hn : nth (dueL (itsN T k)) i = item (nth S i) := by
          rw [← hSd.out, at_eq (by rw [List.length_map]; exact his), at_eq his, List.getElem_map]
        rw [hn] at y0 y1 y2
        exact ⟨g, ad, _, _, _, e1, e2, x0, x1, x2, y0, y1, y2⟩
      rw [hSn.out]
      replace hcells := Lib.hid hcells
      clear hitm hdue14 haa hdue12 hag
      go_wp2_with fail
      go_loopw [16] (fun iv wr => ∃ i : Nat, i ≤ dn ∧ iv = .int .i64 i ∧ Chg [] w14 wr) (fun iv _ => dn - (intOf iv).toNat)
      case atStart => exact ⟨0, by omega, rfl, Chg.refl _ _⟩
      case round =>
        obtain ⟨i, hi, rfl, hz15⟩ := hrel
        have hiw : IntKind.i64.wrap ((i : Int) + 1) = (i : Int) + 1 := by rw [IntKind.wrap_i64]; omega
        by_cases hil : i < dn
        · obtain ⟨g, ad, a, b, e, rfl, rfl, x0, x1, x2, y0, y1, y2⟩ := hcells.out _ hz15 i hil
          have b1 : decide ((i : Int) < (dn : Int)) = true := by simp; omega
          go_wp2_with fail
          refine pr_same x0 x1 x2 y0 y1 y2 hil _ _ _ _ _ _ _ _ _ _ _ _ _ _ _ _ _ _ _ _ _ _ _ _ _ _ _ _ _ _ _ _ _ _ _ _ _ _ _ _ _ _ _ _ _ _ _ _ _ _ _ _ _ _ _ _ _ _ _ _ _ _ _ _ _ _ _ _ _ _ _ _ _ _ _ _ _ _ _ _ _ _ _ _ _ _ _ _ _ _ _ _ _ _ _ _ _ _ _ _ _ _ _ _ _ _ _ _ _ _ _ _ _ _ _ _ _ _ _ _ _ _ _ _ _ _ _ _ _ _ _ _ _ _ _ _ _ _ _ _ _ _ _ _ _ _ _ _ _ _ _ _ _ _ _ _ _ _ _ _ _ _ _ _ _ _ _ _ _ _ _ _ _ _ ?_
          intro nn y134 y135 y136 y137 y138 y139 y140 y141 y142 y143 y144 y145 y146 y147 y148 y149 y150 y151 y152 y153 y154 y155 y156 y157 y158 y159 y160 y161 y162 y163 y164 y165 y166 y167 y168 y169
          clear x0 x1 x2 y0 y1 y2
          go_wp2_with fail
          exact ⟨⟨i + 1, by omega, by go_num, hz15.drewN _⟩, by simp [intOf]; omega⟩
        · obtain rfl : i = dn := by omega
          have b1 : decide ((i : Int) < (i : Int)) = false := by simp
          clear hil
          go_wp2_with fail
          go_ret
          exact ⟨rfl, hzw14.trans' hz15⟩
end Go.Proofs.Ytlbkjhfnpjbjlaa
