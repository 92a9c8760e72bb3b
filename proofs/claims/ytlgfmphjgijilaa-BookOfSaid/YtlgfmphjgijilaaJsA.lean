/- Journals: alike ones (entry.Same, slices.EqualFunc, SameJournals), where they are alike. -/
import Derived.Test.YtlgfmphjgijilaaJrL
namespace Go.Proofs.Ytlgfmphjgijilaa
open Go.RowKit Go.Vx
set_option linter.unusedVariables false
set_option linter.unusedSimpArgs false

set_option maxRecDepth 100000 in
set_option maxHeartbeats 4000000 in
theorem eq_lines {w : World} {A B : Option Addr} {n c d : Nat} {l : List Ln} (ha : Go.Vx.Src w 3 A n (l.flatMap lnEnc)) (hb : Go.Vx.Src w 3 B n (l.flatMap lnEnc)) (hn : n ≤ 1000000) :
    Calls Try.prog 54 #[.slice A n c, .slice B n d] w fun e w' => e = .returned (.bool true) ∧ Chg [] w w' := by
  have hl : l.length = n := by have := ha.1; rw [flatMap_len lnEnc_len] at this; omega
  replace hl := Lib.hid hl
  go_enter Try.func54, Try.ntmps54
  go_wp2_with fail
  go_loopw [13] (fun iv wr => ∃ k : Nat, k ≤ n ∧ iv = .int .i64 k ∧ Chg [] w wr) (fun iv _ => n - (intOf iv).toNat)
  case atStart => exact ⟨0, by omega, rfl, Chg.refl _ _⟩
  case round =>
    obtain ⟨k, hk, rfl, hzr⟩ := hrel
    by_cases hlt : k < n
    · have hkl : k < l.length := by rw [hl.out]; exact hlt
      obtain ⟨ad, rfl, c0, c1, c2⟩ := line_cells (ha.chg hzr (by simp)) hkl
      obtain ⟨bd, rfl, d0, d1, d2⟩ := line_cells (hb.chg hzr (by simp)) hkl
      have hlt2 : (k : Int) < (n : Int) := by omega
      have hkw : IntKind.i64.wrap ((k : Int) + 1) = (k : Int) + 1 := by rw [IntKind.wrap_i64]; omega
      have hne := line_neq l[k] l[k]
      rw [decide_eq_true rfl] at hne
      generalize l[k] = x at *
      obtain ⟨xa, xm, xp⟩ := x
      dsimp only at *
      have c0' : wr.drew.cell? (ad.add (k * 3)) = _ := c0
      have c1' : wr.drew.cell? ⟨(ad.add (k * 3)).block, (ad.add (k * 3)).off + 1, none⟩ = _ := c1
      have c2' : wr.drew.cell? ⟨(ad.add (k * 3)).block, (ad.add (k * 3)).off + 2, none⟩ = _ := c2
      have d0' : wr.drew.cell? (bd.add (k * 3)) = _ := d0
      have d1' : wr.drew.cell? ⟨(bd.add (k * 3)).block, (bd.add (k * 3)).off + 1, none⟩ = _ := d1
      have d2' : wr.drew.cell? ⟨(bd.add (k * 3)).block, (bd.add (k * 3)).off + 2, none⟩ = _ := d2
      go_wp2_with fail
      go_region
      go_wp2_with fail
      exact ⟨⟨k + 1, by omega, by go_num, hzr.drew⟩, by simp [intOf]; omega⟩
    · obtain rfl : k = n := by omega
      go_wp2_with fail
      go_ret
      exact ⟨rfl, hzr⟩
set_option maxRecDepth 100000 in
set_option maxHeartbeats 4000000 in
theorem en_same (j : Jn) {w : World} {A B : Option Addr} {c d : Nat} (ha : Go.Vx.Src w 3 A j.lines.length (j.lines.flatMap lnEnc)) (hb : Go.Vx.Src w 3 B j.lines.length (j.lines.flatMap lnEnc)) (hm : j.lines.length ≤ 1000000) :
    Calls Try.prog 40 #[jnV j (.slice A j.lines.length c), jnV j (.slice B j.lines.length d)] w fun e w' => e = .returned (.bool true) ∧ Chg [] w w' := by
  obtain ⟨i1, e1, r1, s1, l1, v1⟩ := j
  unfold jnV
  dsimp only at *
  have heq := fun W (z : Chg [] w W) => eq_lines (c := c) (d := d) (ha.chg z (by simp)) (hb.chg z (by simp)) hm
  have hz := ((Chg.refl [] w).alloc (.cells #[.int .i64 i1, .int .i64 e1, .int .i64 r1, .string s1, .slice A l1.length c, .bool v1] 31)).alloc (.cells #[.int .i64 i1, .int .i64 e1, .int .i64 r1, .string s1, .slice B l1.length d, .bool v1] 31)
  have heq2 := heq _ hz
  have p0 : (i1 == i1) = true := beq_self_eq_true _
  have p1 : (e1 == e1) = true := beq_self_eq_true _
  have p2 : (r1 == r1) = true := beq_self_eq_true _
  have p3 : (s1.toList == s1.toList) = true := beq_self_eq_true _
  have p4 : (v1 == v1) = true := beq_self_eq_true _
  clear heq ha hb hm
  go_enter Try.func40, Try.ntmps40
  go_wp2_with fail
  refine heq2.mono ?_
  rintro e w2 ⟨rfl, hz2⟩
  go_wp2_with fail
  go_ret
  exact ⟨rfl, hz.trans' hz2⟩
/-- The journals of a row, each with its lines. -/
def RowOk (w : World) (A : Option Addr) (n : Nat) (X : List JV) : Prop := Go.Vx.Src w 6 A n (X.flatMap jvEnc) ∧ (∀ x ∈ X, JOk w x) ∧ (∀ x ∈ X, x.j.lines.length ≤ 1000000) ∧ X.length = n
theorem RowOk.keep {w w' : World} {A : Option Addr} {n : Nat} {X : List JV} (h : RowOk w A n X) (k : Chg [] w w') : RowOk w' A n X := ⟨h.1.chg k (by simp), fun x hx => (h.2.1 x hx).keep k, h.2.2⟩
theorem RowOk.cells {w : World} {A : Option Addr} {n : Nat} {X : List JV} (h : RowOk w A n X) {i : Nat} (hi : i < X.length) : ∃ ad Ap cp, A = some ad ∧ w.cell? (ad.add (i * 6)) = some (.int .i64 X[i].j.id) ∧ w.cell? ⟨(ad.add (i * 6)).block, (ad.add (i * 6)).off + 1, none⟩ = some (.int .i64 X[i].j.ent) ∧ w.cell? ⟨(ad.add (i * 6)).block, (ad.add (i * 6)).off + 2, none⟩ = some (.int .i64 X[i].j.per) ∧
    w.cell? ⟨(ad.add (i * 6)).block, (ad.add (i * 6)).off + 3, none⟩ = some (.string X[i].j.ref) ∧ w.cell? ⟨(ad.add (i * 6)).block, (ad.add (i * 6)).off + 4, none⟩ = some (.slice Ap X[i].j.lines.length cp) ∧ w.cell? ⟨(ad.add (i * 6)).block, (ad.add (i * 6)).off + 5, none⟩ = some (.bool X[i].j.void) ∧
    Go.Vx.Src w 3 Ap X[i].j.lines.length (X[i].j.lines.flatMap lnEnc) ∧ X[i].j.lines.length ≤ 1000000 := by
  obtain ⟨ad, ha, c0, c1, c2, c3, c4, c5⟩ := jv_cells h.1 hi
  obtain ⟨Ap, cp, hp, hs⟩ := h.2.1 _ (List.getElem_mem hi)
  rw [hp] at c4
  exact ⟨ad, Ap, cp, ha, c0, c1, c2, c3, c4, c5, hs, h.2.2.1 _ (List.getElem_mem hi)⟩
set_option maxRecDepth 100000 in
set_option maxHeartbeats 4000000 in
theorem jb_eqf {w : World} {A B : Option Addr} {n c d : Nat} {X Y : List JV} (ha : RowOk w A n X) (hb : RowOk w B n Y) (hn : n ≤ 1000000) (hxy : jns X = jns Y) :
    Calls Try.prog 39 #[.slice A n c, .slice B n d, .func (.func 40) #[] #[]] w fun e w' => e = .returned (.bool true) ∧ Chg [] w w' := by
  have hlX := Lib.hid ha.2.2.2
  have hlY := Lib.hid hb.2.2.2
  replace hxy := Lib.hid hxy
  replace ha := Lib.hid ha
  replace hb := Lib.hid hb
  go_enter Try.func39, Try.ntmps39
  go_wp2_with fail
  go_loopw [17] (fun iv wr => ∃ k : Nat, k ≤ n ∧ iv = .int .i64 k ∧ Chg [] w wr) (fun iv _ => n - (intOf iv).toNat)
  case atStart => exact ⟨0, by omega, rfl, Chg.refl _ _⟩
  case round =>
    obtain ⟨k, hk, rfl, hzr⟩ := hrel
    by_cases hlt : k < n
    · have hkx : k < X.length := by rw [hlX.out]; exact hlt
      have hky : k < Y.length := by rw [hlY.out]; exact hlt
      have hjj : Y[k].j = X[k].j := by
        have h1 : (jns X)[k]'(by rw [List.length_map]; exact hkx) = X[k].j := List.getElem_map _
        have h2 : (jns Y)[k]'(by rw [List.length_map]; exact hky) = Y[k].j := List.getElem_map _
        rw [← h1, ← h2]
        congr 1
        exact hxy.out.symm
      obtain ⟨ad, Ap, cp, rfl, c0, c1, c2, c3, c4, c5, hsa, hma⟩ := (ha.out.keep hzr).cells hkx
      obtain ⟨bd, Bp, dp, rfl, d0, d1, d2, d3, d4, d5, hsb, hmb⟩ := (hb.out.keep hzr).cells hky
      rw [hjj] at d0 d1 d2 d3 d4 d5 hsb hmb
      have hlt2 : (k : Int) < (n : Int) := by omega
      have hkw : IntKind.i64.wrap ((k : Int) + 1) = (k : Int) + 1 := by rw [IntKind.wrap_i64]; omega
      have hsm := fun W (z : Chg [] wr W) => en_same X[k].j (c := cp) (d := dp) (hsa.chg z (by simp)) (hsb.chg z (by simp)) hma
      clear hjj hsa hsb
      generalize X[k].j = j at *
      obtain ⟨i, e, r, s, l, v⟩ := j
      unfold jnV at hsm
      dsimp only at *
      have hz2 := ((Chg.refl [] wr).alloc (.cells #[.int .i64 i, .int .i64 e, .int .i64 r, .string s, .slice Ap l.length cp, .bool v] 31)).alloc (.cells #[.int .i64 i, .int .i64 e, .int .i64 r, .string s, .slice Bp l.length dp, .bool v] 31)
      have hsm2 := hsm _ hz2
      have e0 := cell_al d0 (.cells #[.int .i64 i, .int .i64 e, .int .i64 r, .string s, .slice Ap l.length cp, .bool v] 31)
      have e1 := cell_al d1 (.cells #[.int .i64 i, .int .i64 e, .int .i64 r, .string s, .slice Ap l.length cp, .bool v] 31)
      have e2 := cell_al d2 (.cells #[.int .i64 i, .int .i64 e, .int .i64 r, .string s, .slice Ap l.length cp, .bool v] 31)
      have e3 := cell_al d3 (.cells #[.int .i64 i, .int .i64 e, .int .i64 r, .string s, .slice Ap l.length cp, .bool v] 31)
      have e4 := cell_al d4 (.cells #[.int .i64 i, .int .i64 e, .int .i64 r, .string s, .slice Ap l.length cp, .bool v] 31)
      have e5 := cell_al d5 (.cells #[.int .i64 i, .int .i64 e, .int .i64 r, .string s, .slice Ap l.length cp, .bool v] 31)
      clear hsm
      go_wp2_with fail
      refine hsm2.mono ?_
      rintro e' w2 ⟨rfl, hz3⟩
      clear hsm2
      go_wp2_with fail
      exact ⟨⟨k + 1, by omega, by go_num, (hzr.trans' hz2).trans' hz3⟩, by simp [intOf]; omega⟩
    · obtain rfl : k = n := by omega
      go_wp2_with fail
      go_ret
      exact ⟨rfl, hzr⟩
set_option maxRecDepth 100000 in
set_option maxHeartbeats 4000000 in
theorem bk_samej {w : World} {A B : Option Addr} {n c d : Nat} {X Y : List JV} (ha : RowOk w A n X) (hb : RowOk w B n Y) (hn : n ≤ 1000000) (hxy : jns X = jns Y) :
    Calls Try.prog 25 #[.slice A n c, .slice B n d] w fun e w' => e = .returned (.bool true) ∧ Chg [] w w' := by
  have hlX := Lib.hid ha.2.2.2
  have hlY := Lib.hid hb.2.2.2
  replace hxy := Lib.hid hxy
  replace ha := Lib.hid ha
  replace hb := Lib.hid hb
  go_enter Try.func25, Try.ntmps25
  go_wp2_with fail
  go_loopw [5] (fun iv wr => ∃ k : Nat, k ≤ n ∧ iv = .int .i64 k ∧ Chg [] w wr) (fun iv _ => n - (intOf iv).toNat)
  case atStart => exact ⟨0, by omega, rfl, Chg.refl _ _⟩
  case round =>
    obtain ⟨k, hk, rfl, hzr⟩ := hrel
    by_cases hlt : k < n
    · have hkx : k < X.length := by rw [hlX.out]; exact hlt
      have hky : k < Y.length := by rw [hlY.out]; exact hlt
      have hjj : Y[k].j = X[k].j := by
        have h1 : (jns X)[k]'(by rw [List.length_map]; exact hkx) = X[k].j := List.getElem_map _
        have h2 : (jns Y)[k]'(by rw [List.length_map]; exact hky) = Y[k].j := List.getElem_map _
        rw [← h1, ← h2]
        congr 1
        exact hxy.out.symm
      obtain ⟨ad, Ap, cp, rfl, c0, c1, c2, c3, c4, c5, hsa, hma⟩ := (ha.out.keep hzr).cells hkx
      obtain ⟨bd, Bp, dp, rfl, d0, d1, d2, d3, d4, d5, hsb, hmb⟩ := (hb.out.keep hzr).cells hky
      rw [hjj] at d0 d1 d2 d3 d4 d5 hsb hmb
      have hlt2 : (k : Int) < (n : Int) := by omega
      have hkw : IntKind.i64.wrap ((k : Int) + 1) = (k : Int) + 1 := by rw [IntKind.wrap_i64]; omega
      have hsm := r1_same X[k].j X[k].j (c := cp) (d := dp) (hsa.chg (Chg.refl [] wr).drew (by simp)) (hsb.chg (Chg.refl [] wr).drew (by simp)) hma hma
      have hself : sameN X[k].j X[k].j = true := by simp [sameN]
      rw [hself] at hsm
      clear hjj hsa hsb hself
      generalize X[k].j = j at *
      obtain ⟨i, e, r, s, l, v⟩ := j
      unfold jnV at hsm
      dsimp only at *
      have f0 : wr.drew.cell? (ad.add (k * 6)) = _ := c0
      have f1 : wr.drew.cell? ⟨(ad.add (k * 6)).block, (ad.add (k * 6)).off + 1, none⟩ = _ := c1
      have f2 : wr.drew.cell? ⟨(ad.add (k * 6)).block, (ad.add (k * 6)).off + 2, none⟩ = _ := c2
      have f3 : wr.drew.cell? ⟨(ad.add (k * 6)).block, (ad.add (k * 6)).off + 3, none⟩ = _ := c3
      have f4 : wr.drew.cell? ⟨(ad.add (k * 6)).block, (ad.add (k * 6)).off + 4, none⟩ = _ := c4
      have f5 : wr.drew.cell? ⟨(ad.add (k * 6)).block, (ad.add (k * 6)).off + 5, none⟩ = _ := c5
      have g0 : wr.drew.cell? (bd.add (k * 6)) = _ := d0
      have g1 : wr.drew.cell? ⟨(bd.add (k * 6)).block, (bd.add (k * 6)).off + 1, none⟩ = _ := d1
      have g2 : wr.drew.cell? ⟨(bd.add (k * 6)).block, (bd.add (k * 6)).off + 2, none⟩ = _ := d2
      have g3 : wr.drew.cell? ⟨(bd.add (k * 6)).block, (bd.add (k * 6)).off + 3, none⟩ = _ := d3
      have g4 : wr.drew.cell? ⟨(bd.add (k * 6)).block, (bd.add (k * 6)).off + 4, none⟩ = _ := d4
      have g5 : wr.drew.cell? ⟨(bd.add (k * 6)).block, (bd.add (k * 6)).off + 5, none⟩ = _ := d5
      replace hsm := Lib.hid hsm
      go_wp2_with fail
      go_region_law (go_simp; go_at_call 18; refine hsm.out.mono ?_; rintro e' w2 ⟨rfl, hz3⟩)
      all_goals
        go_wp2_with fail
        exact ⟨⟨k + 1, by omega, by go_num, hzr.drew.trans' hz3⟩, by simp [intOf]; omega⟩
    · obtain rfl : k = n := by omega
      go_wp2_with fail
      go_ret
      exact ⟨rfl, hzr⟩
end Go.Proofs.Ytlgfmphjgijilaa
