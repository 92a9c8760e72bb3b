/- Journals: Amend. -/
import Derived.Test.YtlgfmphjgijilaaJoT
namespace Go.Proofs.Ytlgfmphjgijilaa
open Go.RowKit Go.Vx
set_option linter.unusedVariables false
set_option linter.unusedSimpArgs false

def amendE (Q : List JV) (j : Jn) : Int := if checkE j ≠ 0 then checkE j else match getJ Q j.id with | none => 9 | some q => if q.j.void = true then 11 else if takenB Q j = true then 8 else 0
/-- What Amend leaves. -/
def AmendPost (w : World) (p : Nat) (Q : List JV) (R : List Nat) (j : Jn) (e : Ending) (w' : World) : Prop := e = .returned (.int .i64 (amendE Q j)) ∧ (amendE Q j ≠ 0 → Chg [] w w') ∧ (amendE Q j = 0 → ∃ v F R', BAt w' p (putJ Q ⟨j, v, F⟩) R' ∧ (∀ g ∈ R', g ∈ R ∨ w.heap.size ≤ g) ∧ Chg (p :: R) w w')
theorem set_six {Q : List JV} {i : Nat} (hi : i < Q.length) (x : JV) : ((((((Q.flatMap jvEnc).set (i * 6) (.int .i64 x.j.id)).set (i * 6 + 1) (.int .i64 x.j.ent)).set (i * 6 + 2) (.int .i64 x.j.per)).set (i * 6 + 3) (.string x.j.ref)).set (i * 6 + 4) x.pv).set (i * 6 + 5) (.bool x.j.void) = (Q.set i x).flatMap jvEnc := by
  obtain ⟨q, hq⟩ : ∃ q, Q[i] = q := ⟨_, rfl⟩
  have h0 := set_flat1 jvEnc_len Q i hi 0 (by omega) (.int .i64 x.j.id) ⟨⟨x.j.id, q.j.ent, q.j.per, q.j.ref, q.j.lines, q.j.void⟩, q.pv, q.pF⟩ (by rw [hq]; rfl)
  have h1 := set_flat1 jvEnc_len (Q.set i ⟨⟨x.j.id, q.j.ent, q.j.per, q.j.ref, q.j.lines, q.j.void⟩, q.pv, q.pF⟩) i (by simpa using hi) 1 (by omega) (.int .i64 x.j.ent) ⟨⟨x.j.id, x.j.ent, q.j.per, q.j.ref, q.j.lines, q.j.void⟩, q.pv, q.pF⟩ (by rw [List.getElem_set_self]; rfl)
  rw [List.set_set] at h1
  have h2 := set_flat1 jvEnc_len (Q.set i ⟨⟨x.j.id, x.j.ent, q.j.per, q.j.ref, q.j.lines, q.j.void⟩, q.pv, q.pF⟩) i (by simpa using hi) 2 (by omega) (.int .i64 x.j.per) ⟨⟨x.j.id, x.j.ent, x.j.per, q.j.ref, q.j.lines, q.j.void⟩, q.pv, q.pF⟩ (by rw [List.getElem_set_self]; rfl)
  rw [List.set_set] at h2
  have h3 := set_flat1 jvEnc_len (Q.set i ⟨⟨x.j.id, x.j.ent, x.j.per, q.j.ref, q.j.lines, q.j.void⟩, q.pv, q.pF⟩) i (by simpa using hi) 3 (by omega) (.string x.j.ref) ⟨⟨x.j.id, x.j.ent, x.j.per, x.j.ref, q.j.lines, q.j.void⟩, q.pv, q.pF⟩ (by rw [List.getElem_set_self]; rfl)
  rw [List.set_set] at h3
  have h4 := set_flat1 jvEnc_len (Q.set i ⟨⟨x.j.id, x.j.ent, x.j.per, x.j.ref, q.j.lines, q.j.void⟩, q.pv, q.pF⟩) i (by simpa using hi) 4 (by omega) x.pv ⟨⟨x.j.id, x.j.ent, x.j.per, x.j.ref, q.j.lines, q.j.void⟩, x.pv, q.pF⟩ (by rw [List.getElem_set_self]; rfl)
  rw [List.set_set] at h4
  have h5 := set_flat1 jvEnc_len (Q.set i ⟨⟨x.j.id, x.j.ent, x.j.per, x.j.ref, q.j.lines, q.j.void⟩, x.pv, q.pF⟩) i (by simpa using hi) 5 (by omega) (.bool x.j.void) x (by rw [List.getElem_set_self]; rfl)
  rw [List.set_set] at h5
  rw [Nat.add_zero] at h0
  rw [h0, h1, h2, h3, h4, h5]
set_option maxRecDepth 100000 in
set_option maxHeartbeats 4000000 in
theorem jb_amend {w : World} {p : Nat} {Q : List JV} {R : List Nat} (hb : BAt w p Q R) (hn : Q.length ≤ 1000) (hQ : SrtJ Q) (hid : Ids Q) (j : Jn) {A : Option Addr} {n c : Nat} (hs : Go.Vx.Src w 3 A n (j.lines.flatMap lnEnc)) (hln : n ≤ 1000000) (hr : j.ref.size ≤ maxLen) :
    Calls Try.prog 14 #[.pointer (some ⟨p, 0, none⟩), jnV j (.slice A n c)] w (AmendPost w p Q R j) := by
  have hck := fun W (hz : Chg [] w W) => jo_check (c := c) j (hs.chg hz (by simp)) hln hr
  have hfd := fun (hc : checkE j = 0) W (hz : Chg [] w W) => jb_find_any (hb.keep hz) hn hQ hid (id := j.id) (by have := checkE_id hc; omega)
  have htk := fun W (hz : Chg [] w W) => jb_taken (hb.keep hz) hn j (.slice A n c)
  have hcp := fun W (hz : Chg [] w W) => jo_copy (c := c) j (hs.chg hz (by simp)) hln
  have key : ∀ x, amendE Q j = x → Hid (amendE Q j = x) := fun x h => Lib.hid h
  generalize hPP : AmendPost w p Q R j = PP
  have hno : ∀ (x : Int) w', amendE Q j = x → x ≠ 0 → Chg [] w w' → PP (.returned (.int .i64 x)) w' := fun x w' hx h0 hz => by
    rw [← hPP]
    exact ⟨by rw [hx], fun _ => hz, fun h => absurd (hx.symm.trans h) h0⟩
  obtain rfl : n = j.lines.length := by have := hs.1; rw [flatMap_len lnEnc_len] at this; omega
  obtain ⟨id, ent, per, ref, l, void⟩ := j
  unfold jnV at hck htk hcp ⊢
  dsimp only at *
  have hz := (Chg.refl [] w).alloc (.cells #[.int .i64 id, .int .i64 ent, .int .i64 per, .string ref, .slice A l.length c, .bool void] 31)
  have hB := Blk.new w 31 #[.int .i64 id, .int .i64 ent, .int .i64 per, .string ref, .slice A l.length c, .bool void]
  have hck' := hck _ hz
  cases hc : (checkE ⟨id, ent, per, ref, l, void⟩ == 0) with
  | false =>
    have hc0 : checkE ⟨id, ent, per, ref, l, void⟩ ≠ 0 := by simpa using hc
    have hk := key _ (by unfold amendE; rw [if_pos hc0])
    have hno' := fun w' => hno _ w' hk.out hc0
    have hne : (checkE ⟨id, ent, per, ref, l, void⟩ != 0) = true := by simpa using hc0
    clear hck hfd htk hcp key hno hPP hk
    generalize checkE ⟨id, ent, per, ref, l, void⟩ = E at *
    replace hno' := Lib.hid hno'
    clear hs hb hQ hid hc hc0
    go_enter Try.func14, Try.ntmps14
    go_wp2_with fail
    refine hck'.mono ?_
    rintro e w2 ⟨rfl, hz2⟩
    go_wp2_with fail
    exact hno'.out _ (hz.trans' hz2)
  | true =>
    have hc0 : checkE ⟨id, ent, per, ref, l, void⟩ = 0 := by simpa using hc
    have hfd' := hfd hc0
    rw [hc0] at hck'
    have hBc := fun W (hz2 : Chg [] (w.alloc (.cells #[.int .i64 id, .int .i64 ent, .int .i64 per, .string ref, .slice A l.length c, .bool void] 31)) W) => hB.chg hz2 (by simp)
    have hkey2 : ∀ x, (match getJ Q id with | none => 9 | some q => if q.j.void = true then 11 else if takenB Q ⟨id, ent, per, ref, l, void⟩ = true then 8 else 0) = x → Hid (amendE Q ⟨id, ent, per, ref, l, void⟩ = x) := fun x h => Lib.hid (by unfold amendE; rw [if_neg (by simp [hc0])]; exact h)
    replace hno := Lib.hid hno
    replace hkey2 := Lib.hid hkey2
    replace hPP := Lib.hid hPP
    replace htk := Lib.hid htk
    replace hcp := Lib.hid hcp
    replace hBc := Lib.hid hBc
    replace hb := Lib.hid hb
    replace hfd' := Lib.hid hfd'
    replace hz := Lib.hid hz
    replace hQ := Lib.hid hQ
    clear hck hfd key hc hc0 hs hid hB
    go_enter Try.func14, Try.ntmps14
    go_wp2_with fail
    refine hck'.mono ?_
    rintro e w2 ⟨rfl, hz2⟩
    have d0 : w2.cell? ⟨w.heap.size, 0, none⟩ = some (.int .i64 id) := (hBc.out _ hz2).cell 0
    have hz2' := hz.out.trans' hz2
    clear hck'
    replace hz2 := Lib.hid hz2
    replace hz2' := Lib.hid hz2'
    go_wp2_with fail
    refine (hfd'.out _ hz2'.out).mono ?_
    rintro e w3 ⟨i, hi, rfl, hat, hz3⟩
    replace hat := Lib.hid hat
    have hz3' := hz2'.out.trans' hz3
    have hz13 := hz2.out.trans' hz3
    have hB3 := hBc.out _ hz13
    have e0 : w3.cell? ⟨w.heap.size, 0, none⟩ = some (.int .i64 id) := hB3.cell 0
    have e1 : w3.cell? ⟨w.heap.size, 1, none⟩ = some (.int .i64 ent) := hB3.cell 1
    have e2 : w3.cell? ⟨w.heap.size, 2, none⟩ = some (.int .i64 per) := hB3.cell 2
    have e3 : w3.cell? ⟨w.heap.size, 3, none⟩ = some (.string ref) := hB3.cell 3
    have e4 : w3.cell? ⟨w.heap.size, 4, none⟩ = some (.slice A l.length c) := hB3.cell 4
    have e5 : w3.cell? ⟨w.heap.size, 5, none⟩ = some (.bool void) := hB3.cell 5
    replace hz3' := Lib.hid hz3'
    replace hz13 := Lib.hid hz13
    replace hz3 := Lib.hid hz3
    replace hB3 := Lib.hid hB3
    clear d0
    cases hf : foundB Q id with
    | false =>
      have hg : getJ Q id = none := by
        cases h : getJ Q id with
        | none => rfl
        | some q => rw [getJ_found, h] at hf; cases hf
      go_wp2_with fail
      exact hno.out _ _ (hkey2.out _ (by rw [hg])).out (by decide) hz3'.out
    | true =>
    obtain ⟨hil, hie⟩ := hat.out hf
    have hg := getJ_at hQ.out hil hie
    rw [hg] at hkey2
    have hb3 := hb.out.keep hz3'.out
    obtain ⟨A3, c3, Ft3, ca3, hbb3, hfx3, hFR3, hpF3, hle3, hcm3⟩ := hb3.head
    obtain ⟨B, c', hv, -, -, -, h4⟩ := _root_.id hfx3
    injection hv with ha _ hcc
    subst ha hcc
    rcases h4 with ⟨h0, -⟩ | ⟨g, cur, rfl, hF0, -⟩
    · omega
    have hcl3 := book_cells hfx3 hil rfl
    have q5 : w3.cell? ⟨g, i * 6 + 5, none⟩ = some (.bool Q[i].j.void) := (hcl3 5 (by omega)).1
    have hi2 : (i : Int) < (Q.length : Int) := by omega
    have hset := set_six hil
    have hst := fun v F => putJ_at hQ.out hil (x := ⟨⟨id, ent, per, ref, l, void⟩, v, F⟩) hie
    replace hset := Lib.hid hset
    replace hst := Lib.hid hst
    replace hcl3 := Lib.hid hcl3
    replace hb3 := Lib.hid hb3
    replace hbb3 := Lib.hid hbb3
    replace hfx3 := Lib.hid hfx3
    replace hFR3 := Lib.hid hFR3
    replace hpF3 := Lib.hid hpF3
    replace hF0 := Lib.hid hF0
    clear hat hie hg hf
    cases hvd : Q[i].j.void with
    | true =>
      have hk11 := hkey2.out 11 (by dsimp only; rw [if_pos hvd])
      rw [hvd] at q5
      clear hvd
      go_wp2_with fail
      exact hno.out _ _ hk11.out (by decide) hz3'.out
    | false =>
    rw [hvd] at q5
    have hkey3 : ∀ x, (if takenB Q ⟨id, ent, per, ref, l, void⟩ = true then 8 else 0) = x → Hid (amendE Q ⟨id, ent, per, ref, l, void⟩ = x) := fun x h => hkey2.out x (by dsimp only; rw [if_neg (by rw [hvd]; simp)]; exact h)
    replace hkey3 := Lib.hid hkey3
    clear hvd hkey2
    go_wp2_with fail
    refine (htk.out _ hz3'.out).mono ?_
    rintro e w4 ⟨rfl, hz4⟩
    have hz4' := hz3'.out.trans' hz4
    have hB4 := hBc.out _ (hz13.out.trans' hz4)
    have hb4 := hb3.out.keep hz4
    have hbb := hbb3.out.chg hz4 (by simp)
    have hfx := hfx3.out.chg hz4 (by simp)
    have ca : w4.cell? ⟨p, 0, none⟩ = some (.slice (some ⟨g, 0, none⟩) Q.length c3) := hbb.cell 0
    have hpl := hbb.lt
    have hgl : g < w4.heap.size := hfx.lt g (by rw [hF0.out]; simp)
    have hcl4 := book_cells hfx hil rfl
    replace hb4 := Lib.hid hb4
    replace hbb := Lib.hid hbb
    replace hfx := Lib.hid hfx
    replace hz4' := Lib.hid hz4'
    replace hz4 := Lib.hid hz4
    replace hcl4 := Lib.hid hcl4
    clear e0 e1 e2 e3 e4 e5 hfd' htk ca3 q5
    cases htb : takenB Q ⟨id, ent, per, ref, l, void⟩ with
    | true =>
      go_wp2_with fail
      exact hno.out _ _ (hkey3.out _ (by rw [htb]; rfl)).out (by decide) hz4'.out
    | false =>
      have hk0 := hkey3.out 0 (by rw [htb]; rfl)
      have e0 : w4.drew.cell? ⟨w.heap.size, 0, none⟩ = some (.int .i64 id) := hB4.cell 0
      have e1 : w4.drew.cell? ⟨w.heap.size, 1, none⟩ = some (.int .i64 ent) := hB4.cell 1
      have e2 : w4.drew.cell? ⟨w.heap.size, 2, none⟩ = some (.int .i64 per) := hB4.cell 2
      have e3 : w4.drew.cell? ⟨w.heap.size, 3, none⟩ = some (.string ref) := hB4.cell 3
      have e4 : w4.drew.cell? ⟨w.heap.size, 4, none⟩ = some (.slice A l.length c) := hB4.cell 4
      have e5 : w4.drew.cell? ⟨w.heap.size, 5, none⟩ = some (.bool void) := hB4.cell 5
      have ca' : w4.drew.cell? ⟨p, 0, none⟩ = some (.slice (some ⟨g, 0, none⟩) Q.length c3) := ca
      have hcp4 := hcp.out _ hz4'.out.drew
      replace hcp4 := Lib.hid hcp4
      clear hno hkey3 hB4 htb hcp
      go_wp2_with fail
      go_region_law (go_simp; go_at_call 33; refine hcp4.out.mono ?_; rintro e w5 ⟨v, F, rfl, hfv, hF5, hz5⟩; have cp5 : w5.cell? ⟨p, 0, none⟩ = some (.slice (some ⟨g, 0, none⟩) Q.length c3) := (hz5.cell hpl (by simp)).trans ca; obtain ⟨A5, c5, rfl, -⟩ := _root_.id hfv; have r0 : w5.cell? ⟨g, i * 6, none⟩ = some (.int .i64 Q[i].j.id) := (hz5.cell hgl (by simp)).trans (hcl4.out 0 (by omega)).1; have r1 : w5.cell? ⟨g, i * 6 + 1, none⟩ = some (.int .i64 Q[i].j.ent) := (hz5.cell hgl (by simp)).trans (hcl4.out 1 (by omega)).1; have r2 : w5.cell? ⟨g, i * 6 + 2, none⟩ = some (.int .i64 Q[i].j.per) := (hz5.cell hgl (by simp)).trans (hcl4.out 2 (by omega)).1; have r3 : w5.cell? ⟨g, i * 6 + 3, none⟩ = some (.string Q[i].j.ref) := (hz5.cell hgl (by simp)).trans (hcl4.out 3 (by omega)).1; have r4 : w5.cell? ⟨g, i * 6 + 4, none⟩ = some Q[i].pv := (hz5.cell hgl (by simp)).trans (hcl4.out 4 (by omega)).1; have r5 : w5.cell? ⟨g, i * 6 + 5, none⟩ = some (.bool Q[i].j.void) := (hz5.cell hgl (by simp)).trans (hcl4.out 5 (by omega)).1; have s0 : w5.frozen? ⟨g, i * 6, none⟩ = false := (hz5.frozen hgl (by simp)).trans (hcl4.out 0 (by omega)).2; have s1 : w5.frozen? ⟨g, i * 6 + 1, none⟩ = false := (hz5.frozen hgl (by simp)).trans (hcl4.out 1 (by omega)).2; have s2 : w5.frozen? ⟨g, i * 6 + 2, none⟩ = false := (hz5.frozen hgl (by simp)).trans (hcl4.out 2 (by omega)).2; have s3 : w5.frozen? ⟨g, i * 6 + 3, none⟩ = false := (hz5.frozen hgl (by simp)).trans (hcl4.out 3 (by omega)).2; have s4 : w5.frozen? ⟨g, i * 6 + 4, none⟩ = false := (hz5.frozen hgl (by simp)).trans (hcl4.out 4 (by omega)).2; have s5 : w5.frozen? ⟨g, i * 6 + 5, none⟩ = false := (hz5.frozen hgl (by simp)).trans (hcl4.out 5 (by omega)).2)
      all_goals
        go_wp2_with fail
        rw [← hPP.out]
        have hz45 := (Chg.refl [] w4).drew.trans' hz5
        have hfs := (((((((hfx.out.chg hz45 (by simp)).store rfl (i * 6) (.int .i64 id)).store rfl (i * 6 + 1) (.int .i64 ent)).store rfl (i * 6 + 2) (.int .i64 per)).store rfl (i * 6 + 3) (.string ref)).store rfl (i * 6 + 4) (.slice A5 l.length c5)).store rfl (i * 6 + 5) (.bool void))
        rw [hset.out ⟨⟨id, ent, per, ref, l, void⟩, .slice A5 l.length c5, F⟩] at hfs
        have hgF : g ∈ Ft3 ∨ w5.heap.size ≤ g := .inl (by rw [hF0.out]; simp)
        have hI := BAt.put (q := ⟨⟨id, ent, per, ref, l, void⟩, .slice A5 l.length c5, F⟩) (i := i) (hb4.out.keep hz45) (hbb.out.chg hz45 (by simp)) (hfx.out.chg hz45 (by simp)) hFR3.out hpF3.out hfv hfs (((((((Chg.refl Ft3 w5).setCell hgF _).setCell hgF _).setCell hgF _).setCell hgF _).setCell hgF _).setCell hgF _)
        rw [hst.out] at hI
        have hs4 := hz4'.out.size
        refine ⟨by rw [hk0.out]; rfl, fun h => absurd hk0.out h, fun _ => ⟨_, F, _, hI.1, fun g hg => ?_, ((hz4'.out.trans' hz45).mono (by simp)).trans' hI.2⟩⟩
        rcases List.mem_append.1 hg with hg | hg
        · exact .inr (by have := hF5 g hg; have h9 : w4.drew.heap.size = w4.heap.size := rfl; omega)
        · exact .inl hg
end Go.Proofs.Ytlgfmphjgijilaa
