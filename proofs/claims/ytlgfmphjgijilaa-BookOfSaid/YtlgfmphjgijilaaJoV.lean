/- Journals: Get. -/
import Derived.Test.YtlgfmphjgijilaaJoU
namespace Go.Proofs.Ytlgfmphjgijilaa
open Go.RowKit Go.Vx
set_option linter.unusedVariables false
set_option linter.unusedSimpArgs false

def noJn : Jn := ⟨0, 0, 0, ⟨#[]⟩, [], false⟩
/-- What Get answers. -/
def GetPost (w : World) (Q : List JV) (id : Int) (e : Ending) (w' : World) : Prop := ∃ v F, e = .returned (.tuple #[jnV (((getJ Q id).map (·.j)).getD noJn) v, .bool (foundB Q id)]) ∧ Fix w' 28 3 v (((getJ Q id).map (·.j)).getD noJn).lines.length ((((getJ Q id).map (·.j)).getD noJn).lines.flatMap lnEnc) F ∧ (∀ g ∈ F, w.heap.size ≤ g) ∧ Chg [] w w'
set_option maxRecDepth 100000 in
set_option maxHeartbeats 4000000 in
theorem jb_get {w : World} {p : Nat} {Q : List JV} {R : List Nat} (hb : BAt w p Q R) (hn : Q.length ≤ 1000) (hQ : SrtJ Q) (hid : Ids Q) {id : Int} (hI : -9223372036854775808 ≤ id ∧ id ≤ 9223372036854775807) (hll : ∀ q ∈ Q, q.j.lines.length ≤ 1000000) :
    Calls Try.prog 15 #[.pointer (some ⟨p, 0, none⟩), .int .i64 id] w (GetPost w Q id) := by
  have hz0 := (Chg.refl [] w).alloc (.cells #[.int .i64 0, .int .i64 0, .int .i64 0, .string ⟨#[]⟩, .slice none 0 0, .bool false] 31)
  have hfd := jb_find_any (hb.keep hz0) hn hQ hid hI
  have hB := Blk.new w 31 #[.int .i64 0, .int .i64 0, .int .i64 0, .string ⟨#[]⟩, .slice none 0 0, .bool false]
  obtain ⟨PP, hPP⟩ : ∃ PP, PP = GetPost w Q id := ⟨_, rfl⟩
  rw [← hPP]
  replace hPP := Lib.hid hPP
  go_enter Try.func15, Try.ntmps15
  go_wp2_with fail
  refine hfd.mono ?_
  rintro e w2 ⟨i, hi, rfl, hat, hz1⟩
  clear hfd
  have hB2 := hB.chg hz1 (by simp)
  have hz := hz0.trans' hz1
  have hs0 := hz.size
  clear hz0 hz1 hB
  have hb2 := hb.keep hz
  obtain ⟨A, c, Ft, ca, hbb, hfx, hFR, hpF, hle, hcm⟩ := hb2.head
  have d0 : w2.cell? ⟨w.heap.size, 0, none⟩ = some (.int .i64 0) := hB2.cell 0
  have d1 : w2.cell? ⟨w.heap.size, 1, none⟩ = some (.int .i64 0) := hB2.cell 1
  have d2 : w2.cell? ⟨w.heap.size, 2, none⟩ = some (.int .i64 0) := hB2.cell 2
  have d3 : w2.cell? ⟨w.heap.size, 3, none⟩ = some (.string ⟨#[]⟩) := hB2.cell 3
  have d4 : w2.cell? ⟨w.heap.size, 4, none⟩ = some (.slice none 0 0) := hB2.cell 4
  have d5 : w2.cell? ⟨w.heap.size, 5, none⟩ = some (.bool false) := hB2.cell 5
  have f0 : w2.frozen? ⟨w.heap.size, 0, none⟩ = false := hB2.frozen 0
  have f1 : w2.frozen? ⟨w.heap.size, 1, none⟩ = false := hB2.frozen 1
  have f2 : w2.frozen? ⟨w.heap.size, 2, none⟩ = false := hB2.frozen 2
  have f3 : w2.frozen? ⟨w.heap.size, 3, none⟩ = false := hB2.frozen 3
  have f4 : w2.frozen? ⟨w.heap.size, 4, none⟩ = false := hB2.frozen 4
  have f5 : w2.frozen? ⟨w.heap.size, 5, none⟩ = false := hB2.frozen 5
  have hlp : w.heap.size ∉ ([] : List Nat) := by simp
  cases hf : foundB Q id with
  | false =>
    have hg : getJ Q id = none := by
      cases h : getJ Q id with
      | none => rfl
      | some q => rw [getJ_found, h] at hf; cases hf
    replace hz := Lib.hid hz
    clear hat hfx hbb hb2
    go_wp2_with fail
    refine bodyPost_ret (v := .tuple #[.agg #[.int .i64 0, .int .i64 0, .int .i64 0, .string ⟨#[]⟩, .slice none 0 0, .bool false], .bool false]) (by rw [results_cell_tmp rfl]; go_simp) rfl ?_
    rw [hPP.out]
    unfold GetPost
    rw [hg, hf]
    exact ⟨_, [], rfl, Fix.nil _ _ _, by simp, hz.out.trans ((((((((Chg.refl [w.heap.size] w2).setCell (.inl (by simp)) _).setCell (.inl (by simp)) _).setCell (.inl (by simp)) _).setCell (.inl (by simp)) _).setCell (.inl (by simp)) _).setCell (.inl (by simp)) _)) (by simp)⟩
  | true =>
    obtain ⟨hil, hie⟩ := hat hf
    have hg := getJ_at hQ hil hie
    obtain ⟨B, c', hv, -, -, -, h4⟩ := _root_.id hfx
    injection hv with ha _ hcc
    subst ha hcc
    rcases h4 with ⟨h0, -⟩ | ⟨g, cur, rfl, hF0, -⟩
    · omega
    have hcl := book_cells hfx hil rfl
    have hea := hb2.each _ (List.getElem_mem hil)
    have hl1 := hll _ (List.getElem_mem hil)
    have hi2 : (i : Int) < (Q.length : Int) := by omega
    obtain ⟨q, hq⟩ : ∃ q, Q[i] = q := ⟨_, rfl⟩
    rw [hq] at hcl hea hl1 hg
    obtain ⟨⟨id', ent, per, ref, l, void⟩, pv, pF⟩ := q
    dsimp only at hea hl1
    obtain ⟨A1, c1, rfl, -⟩ := _root_.id hea
    have q0 : w2.cell? ⟨g, i * 6, none⟩ = some (.int .i64 id') := (hcl 0 (by omega)).1
    have q1 : w2.cell? ⟨g, i * 6 + 1, none⟩ = some (.int .i64 ent) := (hcl 1 (by omega)).1
    have q2 : w2.cell? ⟨g, i * 6 + 2, none⟩ = some (.int .i64 per) := (hcl 2 (by omega)).1
    have q3 : w2.cell? ⟨g, i * 6 + 3, none⟩ = some (.string ref) := (hcl 3 (by omega)).1
    have q4 : w2.cell? ⟨g, i * 6 + 4, none⟩ = some (.slice A1 l.length c1) := (hcl 4 (by omega)).1
    have q5 : w2.cell? ⟨g, i * 6 + 5, none⟩ = some (.bool void) := (hcl 5 (by omega)).1
    have hcp := jo_copy ⟨id', ent, per, ref, l, void⟩ (c := c1) (Fix.src hea) hl1
    unfold jnV at hcp
    dsimp only at hcp
    replace hz := Lib.hid hz
    clear hat hfx hbb hb2 hea hq hie hcl
    replace hg := Lib.hid hg
    replace hf := Lib.hid hf
    replace hB2 := Lib.hid hB2
    clear d0 d1 d2 d3 d4 d5 f0 f1 f2 f3 f4 f5
    go_wp2_with fail
    refine hcp.mono ?_
    rintro e w3 ⟨v, F, rfl, hfv, hF, hz3⟩
    obtain ⟨A3, c3, rfl, -⟩ := _root_.id hfv
    have hB3 := hB2.out.chg hz3 (by simp)
    have d0 : w3.cell? ⟨w.heap.size, 0, none⟩ = some (.int .i64 0) := hB3.cell 0
    have d1 : w3.cell? ⟨w.heap.size, 1, none⟩ = some (.int .i64 0) := hB3.cell 1
    have d2 : w3.cell? ⟨w.heap.size, 2, none⟩ = some (.int .i64 0) := hB3.cell 2
    have d3 : w3.cell? ⟨w.heap.size, 3, none⟩ = some (.string ⟨#[]⟩) := hB3.cell 3
    have d4 : w3.cell? ⟨w.heap.size, 4, none⟩ = some (.slice none 0 0) := hB3.cell 4
    have d5 : w3.cell? ⟨w.heap.size, 5, none⟩ = some (.bool false) := hB3.cell 5
    have f0 : w3.frozen? ⟨w.heap.size, 0, none⟩ = false := hB3.frozen 0
    have f1 : w3.frozen? ⟨w.heap.size, 1, none⟩ = false := hB3.frozen 1
    have f2 : w3.frozen? ⟨w.heap.size, 2, none⟩ = false := hB3.frozen 2
    have f3 : w3.frozen? ⟨w.heap.size, 3, none⟩ = false := hB3.frozen 3
    have f4 : w3.frozen? ⟨w.heap.size, 4, none⟩ = false := hB3.frozen 4
    have f5 : w3.frozen? ⟨w.heap.size, 5, none⟩ = false := hB3.frozen 5
    have hFn : ∀ g ∈ F, g ∉ [w.heap.size] := fun g hg => by
      have := hF g hg
      have := hB2.out.lt
      simp
      omega
    replace hfv := Lib.hid hfv
    replace hF := Lib.hid hF
    replace hFn := Lib.hid hFn
    replace hz3 := Lib.hid hz3
    clear hcp hB3
    go_wp2_with fail
    refine bodyPost_ret (v := .tuple #[.agg #[.int .i64 id', .int .i64 ent, .int .i64 per, .string ref, .slice A3 l.length c3, .bool void], .bool true]) (by rw [results_cell_tmp rfl]; go_simp) rfl ?_
    rw [hPP.out]
    unfold GetPost
    rw [hg.out, hf.out]
    have hch : Chg [w.heap.size] w3 ((((((w3.setCell ⟨w.heap.size, 0, none⟩ (.int .i64 id')).setCell ⟨w.heap.size, 1, none⟩ (.int .i64 ent)).setCell ⟨w.heap.size, 2, none⟩ (.int .i64 per)).setCell ⟨w.heap.size, 3, none⟩ (.string ref)).setCell ⟨w.heap.size, 4, none⟩ (.slice A3 l.length c3)).setCell ⟨w.heap.size, 5, none⟩ (.bool void)) :=
      ((((((Chg.refl [w.heap.size] w3).setCell (.inl (by simp)) _).setCell (.inl (by simp)) _).setCell (.inl (by simp)) _).setCell (.inl (by simp)) _).setCell (.inl (by simp)) _).setCell (.inl (by simp)) _
    exact ⟨_, F, rfl, hfv.out.chg hch hFn.out, fun g hg => by have := hF.out g hg; omega, (hz.out.trans' hz3.out).trans hch (by simp)⟩
end Go.Proofs.Ytlgfmphjgijilaa
