/- Journals: the reference's Get, Taken, Post. -/
import Derived.Test.YtlgfmphjgijilaaJrB
namespace Go.Proofs.Ytlgfmphjgijilaa
open Go.RowKit Go.Vx
set_option linter.unusedVariables false
set_option linter.unusedSimpArgs false

/-- A journal's lines are there. -/
def JOk (w : World) (q : JV) : Prop := ∃ A c, q.pv = .slice A q.j.lines.length c ∧ Go.Vx.Src w 3 A q.j.lines.length (q.j.lines.flatMap lnEnc)
theorem JOk.chg {w w' : World} {q : JV} {S : List Nat} (h : JOk w q) (k : Chg S w w') (hS : ∀ g ∈ S, w.heap.size ≤ g) : JOk w' q := by
  obtain ⟨A, c, h1, h2⟩ := h
  refine ⟨A, c, h1, ?_⟩
  refine h2.keep fun ad ha j v hv => ?_
  have hb := World.block_lt_of_cell? w _ hv
  rw [k.cell hb (fun hm => by have := hS _ hm; omega)]
  exact hv
theorem JOk.keep {w w' : World} {q : JV} (h : JOk w q) (k : Chg [] w w') : JOk w' q := h.chg k (by simp)
theorem src_new {w w' : World} {size m : Nat} {A : Option Addr} {news : List Value} {S : List Nat} (h : Go.Vx.Src w size A m news) (k : Chg S w w') (hS : ∀ g ∈ S, w.heap.size ≤ g) : Go.Vx.Src w' size A m news :=
  h.keep fun ad ha j v hv => by
    have hb := World.block_lt_of_cell? w _ hv
    rw [k.cell hb (fun hm => by have := hS _ hm; omega)]
    exact hv
/-- What Get tells of a journal. -/
def getV (Q : List JV) (id : Int) : Value := match getJ Q id with | some q => jnV q.j q.pv | none => jnV noJn (.slice none 0 0)
set_option maxRecDepth 100000 in
set_option maxHeartbeats 4000000 in
theorem r1_get {w : World} {A : Option Addr} {n c : Nat} {Q : List JV} (hs : Go.Vx.Src w 6 A n (Q.flatMap jvEnc)) (hn : n ≤ 1000000) (ho : ∀ q ∈ Q, ∃ A m c, q.pv = .slice A m c) (id : Int) :
    Calls Try.prog 17 #[.slice A n c, .int .i64 id] w fun e w' => e = .returned (.tuple #[getV Q id, .bool (foundB Q id)]) ∧ Chg [] w w' := by
  have hl : Q.length = n := by have := hs.1; rw [flatMap_len jvEnc_len] at this; omega
  have hz0 := (Chg.refl [] w).alloc (.cells #[.int .i64 0, .int .i64 0, .int .i64 0, .string ⟨#[]⟩, .slice none 0 0, .bool false] 31)
  have hB := Blk.new w 31 #[.int .i64 0, .int .i64 0, .int .i64 0, .string ⟨#[]⟩, .slice none 0 0, .bool false]
  obtain ⟨PP, hPP⟩ : ∃ PP : Ending → World → Prop, PP = fun e w' => e = .returned (.tuple #[getV Q id, .bool (foundB Q id)]) ∧ Chg [] w w' := ⟨_, rfl⟩
  rw [← hPP]
  replace hPP := Lib.hid hPP
  replace hl := Lib.hid hl
  replace ho := Lib.hid ho
  go_enter Try.func17, Try.ntmps17
  go_wp2_with fail
  obtain ⟨w1, hw1⟩ : ∃ w1, w1 = w.alloc (.cells #[.int .i64 0, .int .i64 0, .int .i64 0, .string ⟨#[]⟩, .slice none 0 0, .bool false] 31) := ⟨_, rfl⟩
  rw [← hw1] at hB hz0 ⊢
  clear hw1
  obtain ⟨jb, hjb⟩ : ∃ jb, w.heap.size = jb := ⟨_, rfl⟩
  rw [hjb] at hB ⊢
  replace hjb := Lib.hid hjb
  have hBc := fun W (k : Chg [] w1 W) => hB.chg k (by simp)
  replace hBc := Lib.hid hBc
  clear hB
  go_loopw [6] (fun iv wr => ∃ k : Nat, k ≤ n ∧ iv = .int .i64 k ∧ (∀ i, (hi : i < Q.length) → i < k → Q[i].j.id ≠ id) ∧ Chg [] w1 wr) (fun iv _ => n - (intOf iv).toNat)
  case atStart => exact ⟨0, by omega, rfl, fun i _ h => by omega, Chg.refl _ _⟩
  case round =>
    obtain ⟨k, hk, rfl, hj, hzr⟩ := hrel
    have hzw := hz0.trans' hzr
    have hB2 := hBc.out _ hzr
    have d0 : wr.cell? ⟨jb, 0, none⟩ = some (.int .i64 0) := hB2.cell 0
    have d1 : wr.cell? ⟨jb, 1, none⟩ = some (.int .i64 0) := hB2.cell 1
    have d2 : wr.cell? ⟨jb, 2, none⟩ = some (.int .i64 0) := hB2.cell 2
    have d3 : wr.cell? ⟨jb, 3, none⟩ = some (.string ⟨#[]⟩) := hB2.cell 3
    have d4 : wr.cell? ⟨jb, 4, none⟩ = some (.slice none 0 0) := hB2.cell 4
    have d5 : wr.cell? ⟨jb, 5, none⟩ = some (.bool false) := hB2.cell 5
    have f0 : wr.frozen? ⟨jb, 0, none⟩ = false := hB2.frozen 0
    have f1 : wr.frozen? ⟨jb, 1, none⟩ = false := hB2.frozen 1
    have f2 : wr.frozen? ⟨jb, 2, none⟩ = false := hB2.frozen 2
    have f3 : wr.frozen? ⟨jb, 3, none⟩ = false := hB2.frozen 3
    have f4 : wr.frozen? ⟨jb, 4, none⟩ = false := hB2.frozen 4
    have f5 : wr.frozen? ⟨jb, 5, none⟩ = false := hB2.frozen 5
    clear hB2
    have hch : ∀ (a b p : Int) (s : ByteArray) (v : Value) (x : Bool), Hid (Chg [] w ((((((wr.setCell ⟨jb, 0, none⟩ (.int .i64 a)).setCell ⟨jb, 1, none⟩ (.int .i64 b)).setCell ⟨jb, 2, none⟩ (.int .i64 p)).setCell ⟨jb, 3, none⟩ (.string s)).setCell ⟨jb, 4, none⟩ v).setCell ⟨jb, 5, none⟩ (.bool x))) := fun a b p s v x => Lib.hid (by
      have hj0 : jb ∈ ([] : List Nat) ∨ w.heap.size ≤ jb := .inr (by rw [hjb.out]; exact Nat.le_refl _)
      exact (((((hzw.setCell hj0 _).setCell hj0 _).setCell hj0 _).setCell hj0 _).setCell hj0 _).setCell hj0 _)
    by_cases hlt : k < n
    · have hkl : k < Q.length := by rw [hl.out]; exact hlt
      obtain ⟨ad, rfl, c0, c1, c2, c3, c4, c5⟩ := jv_cells (hs.chg hzw (by simp)) hkl
      obtain ⟨Ap, mp, cp, hpp⟩ := ho.out _ (List.getElem_mem hkl)
      rw [hpp] at c4
      have hlt2 : (k : Int) < (n : Int) := by omega
      have hkw : IntKind.i64.wrap ((k : Int) + 1) = (k : Int) + 1 := by rw [IntKind.wrap_i64]; omega
      by_cases he : Q[k].j.id = id
      · have hg : Hid (getJ Q id = some Q[k]) := Lib.hid (by
          unfold getJ
          rw [List.find?_eq_some_iff_getElem]
          exact ⟨by simp [he], k, hkl, rfl, fun i hi => by have := hj i (by omega) hi; simpa using this⟩)
        have hf : Hid (foundB Q id = true) := Lib.hid (by rw [getJ_found, hg.out]; rfl)
        have hb : (Q[k].j.id == id) = true := by simp [he]
        have hpv := Lib.hid hpp
        clear hj he hpp
        generalize Q[k] = x at *
        go_wp2_with fail
        refine bodyPost_ret (v := .tuple #[.agg #[.int .i64 x.j.id, .int .i64 x.j.ent, .int .i64 x.j.per, .string x.j.ref, .slice Ap mp cp, .bool x.j.void], .bool true]) (by rw [results_cell_tmp rfl]; go_simp) rfl ?_
        rw [hPP.out]
        unfold getV
        rw [hg.out, hf.out]
        dsimp only
        rw [hpv.out]
        exact ⟨rfl, (hch _ _ _ _ _ _).out⟩
      · have hb : (Q[k].j.id == id) = false := by simp [he]
        have hj2 : ∀ i, (hi : i < Q.length) → i < k + 1 → Q[i].j.id ≠ id := fun i hi hi2 => by
          by_cases e : i = k
          · subst e; exact he
          · exact hj i hi (by omega)
        replace hj2 := Lib.hid hj2
        clear hj he hpp hch d0 d1 d2 d3 d4 d5 f0 f1 f2 f3 f4 f5
        generalize Q[k] = x at *
        go_wp2_with fail
        exact ⟨⟨k + 1, by omega, by go_num, hj2.out, hzr⟩, by simp [intOf]; omega⟩
    · obtain rfl : k = n := by omega
      have hg : Hid (getJ Q id = none) := Lib.hid (by
        unfold getJ
        rw [List.find?_eq_none]
        intro q hq
        obtain ⟨i, hi, rfl⟩ := List.getElem_of_mem hq
        have := hj i hi (by have := hl.out; omega)
        simpa using this)
      have hf : Hid (foundB Q id = false) := Lib.hid (by rw [getJ_found, hg.out]; rfl)
      clear hj
      go_wp2_with fail
      refine bodyPost_ret (v := .tuple #[.agg #[.int .i64 0, .int .i64 0, .int .i64 0, .string ⟨#[]⟩, .slice none 0 0, .bool false], .bool false]) (by rw [results_cell_tmp rfl]; go_simp) rfl ?_
      rw [hPP.out]
      unfold getV
      rw [hg.out, hf.out]
      exact ⟨rfl, (hch _ _ _ _ _ _).out⟩
set_option maxRecDepth 100000 in
set_option maxHeartbeats 4000000 in
theorem r1_taken {w : World} {A : Option Addr} {n c : Nat} {Q : List JV} (hs : Go.Vx.Src w 6 A n (Q.flatMap jvEnc)) (hn : n ≤ 1000000) (j : Jn) (jv : Value) :
    Calls Try.prog 38 #[.slice A n c, jnV j jv] w fun e w' => e = .returned (.bool (takenB Q j)) ∧ Chg [] w w' := by
  have hl : Q.length = n := by have := hs.1; rw [flatMap_len jvEnc_len] at this; omega
  obtain ⟨R, hR⟩ : ∃ R, takenB Q j = R := ⟨_, rfl⟩
  have hRt : R = (!j.void && ((j.ref.toList != []) && Q.any fun q => holdsB j q.j)) := by rw [← hR]; rfl
  rw [hR]
  clear hR
  obtain ⟨id, ent, per, ref, ll, void⟩ := j
  unfold jnV
  dsimp only at *
  have hz0 := (Chg.refl [] w).alloc (.cells #[.int .i64 id, .int .i64 ent, .int .i64 per, .string ref, jv, .bool void] 31)
  have hB := Blk.new w 31 #[.int .i64 id, .int .i64 ent, .int .i64 per, .string ref, jv, .bool void]
  replace hl := Lib.hid hl
  have h0 : n = 0 → R = false := fun h => by
    have : Q = [] := List.eq_nil_of_length_eq_zero (by rw [hl.out]; exact h)
    rw [hRt, this]
    simp
  go_enter Try.func38, Try.ntmps38
  go_wp2_with fail
  obtain ⟨w1, hw1⟩ : ∃ w1, w1 = w.alloc (.cells #[.int .i64 id, .int .i64 ent, .int .i64 per, .string ref, jv, .bool void] 31) := ⟨_, rfl⟩
  rw [← hw1] at hB hz0 ⊢
  clear hw1
  obtain ⟨jb, hjb⟩ : ∃ jb, w.heap.size = jb := ⟨_, rfl⟩
  rw [hjb] at hB ⊢
  clear hjb
  have hBc := fun W (k : Chg [] w1 W) => hB.chg k (by simp)
  replace hBc := Lib.hid hBc
  replace h0 := Lib.hid h0
  replace hRt := Lib.hid hRt
  clear hB
  go_loopw [5] (fun iv wr => ∃ k : Nat, k ≤ n ∧ iv = .int .i64 k ∧ (∀ i, (hi : i < Q.length) → i < k → holdsB ⟨id, ent, per, ref, ll, void⟩ Q[i].j = false) ∧ Chg [] w1 wr) (fun iv _ => n - (intOf iv).toNat)
  case atStart => exact ⟨0, by omega, rfl, fun i _ h => by omega, Chg.refl _ _⟩
  case round =>
    obtain ⟨k, hk, rfl, hj, hzr⟩ := hrel
    have hzw := hz0.trans' hzr
    have hB2 := hBc.out _ hzr
    have d0 : wr.cell? ⟨jb, 0, none⟩ = some (.int .i64 id) := hB2.cell 0
    have d1 : wr.cell? ⟨jb, 1, none⟩ = some (.int .i64 ent) := hB2.cell 1
    have d3 : wr.cell? ⟨jb, 3, none⟩ = some (.string ref) := hB2.cell 3
    have d5 : wr.cell? ⟨jb, 5, none⟩ = some (.bool void) := hB2.cell 5
    clear hB2
    by_cases hlt : k < n
    · have hkl : k < Q.length := by rw [hl.out]; exact hlt
      have hlt2 : (k : Int) < (n : Int) := by omega
      by_cases hr : ref.toList = []
      · have hR : Hid (R = false) := Lib.hid (by rw [hRt.out, hr]; simp)
        have hcmp' : (ref.toList != []) = false := by rw [hr]; rfl
        have hem : ref.toList.isEmpty = true := by rw [hr]; rfl
        clear hj hr
        go_wp2_with fail
        go_ret
        exact ⟨by rw [hR.out]; rfl, hzw⟩
      have hcmp' : (ref.toList != []) = true := by simpa using hr
      have hem : ref.toList.isEmpty = false := by simpa using hr
      clear hr
      cases void with
      | true =>
        have hR : Hid (R = false) := Lib.hid (by rw [hRt.out]; rfl)
        clear hj
        go_wp2_with fail
        go_ret
        exact ⟨by rw [hR.out]; rfl, hzw⟩
      | false =>
      obtain ⟨ad, rfl, c0, c1, c2, c3, c4, c5⟩ := jv_cells (hs.chg hzw (by simp)) hkl
      have hkw : IntKind.i64.wrap ((k : Int) + 1) = (k : Int) + 1 := by rw [IntKind.wrap_i64]; omega
      have hno : holdsB ⟨id, ent, per, ref, ll, false⟩ Q[k].j = false → Hid (∀ i, (hi : i < Q.length) → i < k + 1 → holdsB ⟨id, ent, per, ref, ll, false⟩ Q[i].j = false) := fun h => Lib.hid (fun i hi hi2 => by
        by_cases e : i = k
        · subst e; exact h
        · exact hj i hi (by omega))
      have hyes : holdsB ⟨id, ent, per, ref, ll, false⟩ Q[k].j = true → Hid (R = true) := fun h => Lib.hid (by
        rw [hRt.out, hcmp']
        simp only [Bool.not_false, Bool.true_and, List.any_eq_true]
        exact ⟨Q[k], List.getElem_mem hkl, h⟩)
      have hho : holdsB ⟨id, ent, per, ref, ll, false⟩ Q[k].j = (!Q[k].j.void && ((Q[k].j.id != id) && ((Q[k].j.ent == ent) && (Q[k].j.ref.toList == ref.toList)))) := rfl
      have d0' : wr.drew.cell? ⟨jb, 0, none⟩ = some (.int .i64 id) := d0
      have d1' : wr.drew.cell? ⟨jb, 1, none⟩ = some (.int .i64 ent) := d1
      have d3' : wr.drew.cell? ⟨jb, 3, none⟩ = some (.string ref) := d3
      rw [hho] at hno hyes
      clear hj hho
      generalize Q[k] = x at *
      obtain ⟨⟨xi, xe, xp, xr, xl, xv⟩, xpv, xF⟩ := x
      dsimp only at *
      have c0' : wr.drew.cell? (ad.add (k * 6)) = _ := c0
      have c1' : wr.drew.cell? ⟨(ad.add (k * 6)).block, (ad.add (k * 6)).off + 1, none⟩ = _ := c1
      have c3' : wr.drew.cell? ⟨(ad.add (k * 6)).block, (ad.add (k * 6)).off + 3, none⟩ = _ := c3
      have c5' : wr.drew.cell? ⟨(ad.add (k * 6)).block, (ad.add (k * 6)).off + 5, none⟩ = _ := c5
      cases p0 : (xi != id) with
      | false =>
        have hx := hno (by simp [p0])
        clear hno hyes
        go_wp2_with fail
        go_region
        go_wp2_with fail
        exact ⟨⟨k + 1, by omega, by go_num, hx.out, hzr.drew⟩, by simp [intOf]; omega⟩
      | true =>
      cases xv with
      | true =>
        have hx := hno (by simp)
        clear hno hyes
        go_wp2_with fail
        go_region
        go_wp2_with fail
        exact ⟨⟨k + 1, by omega, by go_num, hx.out, hzr.drew⟩, by simp [intOf]; omega⟩
      | false =>
      cases p1 : (xr.toList == ref.toList) with
      | false =>
        have hx := hno (by simp [p1])
        clear hno hyes
        go_wp2_with fail
        go_region
        go_wp2_with fail
        exact ⟨⟨k + 1, by omega, by go_num, hx.out, hzr.drew⟩, by simp [intOf]; omega⟩
      | true =>
      cases p2 : (xe == ent) with
      | false =>
        have hx := hno (by simp [p2])
        clear hno hyes
        go_wp2_with fail
        go_region
        go_wp2_with fail
        exact ⟨⟨k + 1, by omega, by go_num, hx.out, hzr.drew⟩, by simp [intOf]; omega⟩
      | true =>
        have hx := hyes (by simp [p0, p1, p2])
        clear hno hyes
        go_wp2_with fail
        go_region
        go_wp2_with fail
        go_ret
        exact ⟨by rw [hx.out]; rfl, hzw.drew⟩
    · obtain rfl : k = n := by omega
      have hR : Hid (R = false) := Lib.hid (by
        rw [hRt.out]
        have : (Q.any fun q => holdsB ⟨id, ent, per, ref, ll, void⟩ q.j) = false := by
          rw [List.any_eq_false]
          intro q hq
          obtain ⟨i, hi, rfl⟩ := List.getElem_of_mem hq
          rw [hj i hi (by have := hl.out; omega)]
          simp
        rw [this]
        simp)
      clear hj
      go_wp2_with fail
      go_ret
      exact ⟨by rw [hR.out]; rfl, hzw⟩
end Go.Proofs.Ytlgfmphjgijilaa
