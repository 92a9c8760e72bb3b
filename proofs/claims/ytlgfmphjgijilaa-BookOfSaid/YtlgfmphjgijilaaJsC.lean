/- Journals: lists that are lent. -/
import Derived.Test.YtlgfmphjgijilaaJsB
namespace Go.Proofs.Ytlgfmphjgijilaa
open Go.RowKit Go.Vx
set_option linter.unusedVariables false
set_option linter.unusedSimpArgs false

set_option maxRecDepth 100000 in
set_option maxHeartbeats 4000000 in
theorem bk_copyj {w : World} {A : Option Addr} {n c : Nat} {Q : List JV} (ha : RowOk w A n Q) (hn : n ≤ 100000) :
    Calls Try.prog 36 #[.slice A n c] w (FitPost w (jns Q)) := by
  obtain ⟨i1, hi1, k0, k1, k2⟩ := info_parts jnInfo
  obtain ⟨hs, hok, hll, hl⟩ := ha
  have hone : ∀ u ∈ Q.flatMap jvEnc, u.oneCell' = true := fun u hu => by
    obtain ⟨x, hx, hu⟩ := List.mem_flatMap.1 hu
    exact ((hok x hx).ap (F := []) (by simp)).one u hu
  obtain ⟨PP, hPP⟩ : ∃ PP, PP = FitPost w (jns Q) := ⟨_, rfl⟩
  rw [← hPP]
  replace hPP := Lib.hid hPP
  replace hl := Lib.hid hl
  replace hok := Lib.hid hok
  replace hll := Lib.hid hll
  go_enter Try.func36, Try.ntmps36
  go_wp2_with (
    at_builtin
    refine wpList_append_fix rfl (.const (.slice none 0 0)) (.tmp 4) 24 rfl Try.underlying24 hi1 k0 k1 k2 rfl (by omega) (n := 0) (xs := []) (F := []) rfl (Fix.nil _ _ _) rfl hs hone (by unfold maxLen; omega) (by omega) ?_
    intro v w1 F hA
    have hf := hA.fix
    rw [Nat.zero_add, List.nil_append] at hf
    have hz1 := hA.chg
    have hF : ∀ g ∈ F, w.heap.size ≤ g := fun g hg => by
      rcases hA.foot with h | h
      · rw [h] at hg; simp at hg
      · rw [h, List.mem_singleton] at hg; omega
    have hJ : ∀ x ∈ Q, JAp w1 F x := fun x hx => ((hok.out x hx).ap hF).keep hz1
    obtain ⟨A1, c1, rfl, -, hnc, hcm, -⟩ := _root_.id hf
    unfold maxLen at hcm
    replace hf := Lib.hid hf
    replace hF := Lib.hid hF
    replace hJ := Lib.hid hJ
    clear hA)
  go_loopw [3] (fun iv wr => ∃ (k : Nat) (X : List JV), k ≤ n ∧ iv = .int .i64 k ∧ Fix wr 31 6 (.slice A1 n c1) n (X.flatMap jvEnc) F ∧ jns X = jns Q ∧ (∀ x ∈ X, JAp wr F x) ∧ Chg [] w wr) (fun iv _ => n - (intOf iv).toNat)
  case atStart => exact ⟨0, Q, by omega, rfl, hf.out, rfl, hJ.out, hz1⟩
  case round =>
    clear hf hJ hz1
    obtain ⟨k, X, hk, rfl, hf, hX, hJ, hz⟩ := hrel
    have hXl : X.length = n := by
      have := congrArg List.length hX
      rw [List.length_map, List.length_map, hl.out] at this
      exact this
    by_cases hlt : k < n
    · have hkl : k < X.length := by rw [hXl]; exact hlt
      have hlt2 : (k : Int) < (n : Int) := by omega
      have hkw : IntKind.i64.wrap ((k : Int) + 1) = (k : Int) + 1 := by rw [IntKind.wrap_i64]; omega
      obtain ⟨B, c', hv, -, -, -, h4⟩ := _root_.id hf
      injection hv with ha _ hcc
      subst ha hcc
      rcases h4 with ⟨h0, -⟩ | ⟨g, cur, rfl, rfl, -⟩
      · omega
      obtain ⟨Ap, cp, hpp, hsp⟩ := (hJ _ (List.getElem_mem hkl)).ok
      have hm := hll.out
      have hcl := book_cells hf hkl hXl.symm
      have hset := set_six hkl
      have hjk : ∃ q ∈ Q, q.j = X[k].j := by
        have : X[k].j ∈ jns X := List.mem_map.2 ⟨_, List.getElem_mem hkl, rfl⟩
        rw [hX] at this
        obtain ⟨q, hq, he⟩ := List.mem_map.1 this
        exact ⟨q, hq, he⟩
      have hm : X[k].j.lines.length ≤ 1000000 := by
        obtain ⟨q, hq, he⟩ := hjk
        rw [← he]
        exact hll.out q hq
      have hcp := r1_copy X[k].j (c := cp) hsp hm
      have q0 : wr.cell? ⟨g, k * 6, none⟩ = some (.int .i64 X[k].j.id) := (hcl 0 (by omega)).1
      have q1 : wr.cell? ⟨g, k * 6 + 1, none⟩ = some (.int .i64 X[k].j.ent) := (hcl 1 (by omega)).1
      have q2 : wr.cell? ⟨g, k * 6 + 2, none⟩ = some (.int .i64 X[k].j.per) := (hcl 2 (by omega)).1
      have q3 : wr.cell? ⟨g, k * 6 + 3, none⟩ = some (.string X[k].j.ref) := (hcl 3 (by omega)).1
      have q4 : wr.cell? ⟨g, k * 6 + 4, none⟩ = some X[k].pv := (hcl 4 (by omega)).1
      have q5 : wr.cell? ⟨g, k * 6 + 5, none⟩ = some (.bool X[k].j.void) := (hcl 5 (by omega)).1
      rw [hpp] at q4
      have hgl : g < wr.heap.size := hf.lt g (by simp)
      have hgF := hF.out g (by simp)
      have hmj : ∀ (v : Value) (F' : List Nat), jns (X.set k ⟨X[k].j, v, F'⟩) = jns Q := fun v F' => by
        rw [← hX]
        refine List.ext_getElem (by simp) (fun i h1 h2 => ?_)
        simp only [List.getElem_map, List.getElem_set]
        split
        · rename_i h; subst h; rfl
        · rfl
      replace hf := Lib.hid hf
      replace hX := Lib.hid hX
      replace hJ := Lib.hid hJ
      replace hXl := Lib.hid hXl
      replace hset := Lib.hid hset
      replace hmj := Lib.hid hmj
      replace hcl := Lib.hid hcl
      clear hjk hm hsp hpp
      generalize X[k].j = j at *
      obtain ⟨i, e, r, s, l, v⟩ := j
      unfold jnV at hcp
      dsimp only at *
      go_wp2_with fail
      refine hcp.mono ?_
      rintro e' w2 ⟨vj, Fj, rfl, hfj, hFj, hz2⟩
      obtain ⟨Aj, cj, rfl, -⟩ := _root_.id hfj
      clear hcp
      have r0 : w2.cell? ⟨g, k * 6, none⟩ = some (.int .i64 i) := (hz2.cell hgl (by simp)).trans q0
      have r1 : w2.cell? ⟨g, k * 6 + 1, none⟩ = some (.int .i64 e) := (hz2.cell hgl (by simp)).trans q1
      have r2 : w2.cell? ⟨g, k * 6 + 2, none⟩ = some (.int .i64 r) := (hz2.cell hgl (by simp)).trans q2
      have r3 : w2.cell? ⟨g, k * 6 + 3, none⟩ = some (.string s) := (hz2.cell hgl (by simp)).trans q3
      have r4 : w2.cell? ⟨g, k * 6 + 4, none⟩ = some (.slice Ap l.length cp) := (hz2.cell hgl (by simp)).trans q4
      have r5 : w2.cell? ⟨g, k * 6 + 5, none⟩ = some (.bool v) := (hz2.cell hgl (by simp)).trans q5
      have s0 : w2.frozen? ⟨g, k * 6, none⟩ = false := (hz2.frozen hgl (by simp)).trans (hcl.out 0 (by omega)).2
      have s1 : w2.frozen? ⟨g, k * 6 + 1, none⟩ = false := (hz2.frozen hgl (by simp)).trans (hcl.out 1 (by omega)).2
      have s2 : w2.frozen? ⟨g, k * 6 + 2, none⟩ = false := (hz2.frozen hgl (by simp)).trans (hcl.out 2 (by omega)).2
      have s3 : w2.frozen? ⟨g, k * 6 + 3, none⟩ = false := (hz2.frozen hgl (by simp)).trans (hcl.out 3 (by omega)).2
      have s4 : w2.frozen? ⟨g, k * 6 + 4, none⟩ = false := (hz2.frozen hgl (by simp)).trans (hcl.out 4 (by omega)).2
      have s5 : w2.frozen? ⟨g, k * 6 + 5, none⟩ = false := (hz2.frozen hgl (by simp)).trans (hcl.out 5 (by omega)).2
      have hf2 := hf.out.chg hz2 (by simp)
      have hyj := fix_jap (j := ⟨i, e, r, s, l, v⟩) hfj hf2
      have hJ2 : ∀ x ∈ X.set k ⟨⟨i, e, r, s, l, v⟩, .slice Aj l.length cj, Fj⟩, JAp w2 [g] x := fun x hx => by
        rcases List.mem_or_eq_of_mem_set hx with h | h
        · exact (hJ.out x h).keep hz2
        · rw [h]; exact hyj
      have hfs := (((((((hf2).store rfl (k * 6) (.int .i64 i)).store rfl (k * 6 + 1) (.int .i64 e)).store rfl (k * 6 + 2) (.int .i64 r)).store rfl (k * 6 + 3) (.string s)).store rfl (k * 6 + 4) (.slice Aj l.length cj)).store rfl (k * 6 + 5) (.bool v))
      rw [hset.out ⟨⟨i, e, r, s, l, v⟩, .slice Aj l.length cj, Fj⟩] at hfs
      have hgm : g ∈ [g] ∨ w2.heap.size ≤ g := .inl (by simp)
      have hch := (((((((Chg.refl [g] w2).setCell (p := ⟨g, k * 6, none⟩) hgm (.int .i64 i)).setCell (p := ⟨g, k * 6 + 1, none⟩) hgm (.int .i64 e)).setCell (p := ⟨g, k * 6 + 2, none⟩) hgm (.int .i64 r)).setCell (p := ⟨g, k * 6 + 3, none⟩) hgm (.string s)).setCell (p := ⟨g, k * 6 + 4, none⟩) hgm (.slice Aj l.length cj)).setCell (p := ⟨g, k * 6 + 5, none⟩) hgm (.bool v))
      have hzz := (hz.trans' hz2).trans hch (fun x hx => .inr (by rw [List.mem_singleton.1 hx]; exact hgF))
      have hJ3 := fun x hx => (hJ2 x hx).chg hch (fun y hy => .inl hy)
      replace hfs := Lib.hid hfs
      replace hzz := Lib.hid hzz
      replace hJ3 := Lib.hid hJ3
      clear hch hgm hf2 hyj hJ2 hfj hFj hz2 q0 q1 q2 q3 q4 q5
      go_wp2_with fail
      exact ⟨⟨k + 1, _, by omega, by go_num, hfs.out, hmj.out _ _, hJ3.out, hzz.out⟩, by simp [intOf]; omega⟩
    · obtain rfl : k = n := by omega
      replace hX := Lib.hid hX
      replace hXl := Lib.hid hXl
      replace hf := Lib.hid hf
      replace hJ := Lib.hid hJ
      go_wp2_with fail
      rw [hPP.out]
      refine ⟨X, _, F, rfl, ?_, hX.out, hJ.out, hF.out, hz⟩
      rw [hXl.out]
      exact hf.out
end Go.Proofs.Ytlgfmphjgijilaa
