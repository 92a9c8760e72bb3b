/- Journals: the reference's Check. Printed by wip/jrb.py. -/
import Derived.Test.YtlgfmphjgijilaaJrA
namespace Go.Proofs.Ytlgfmphjgijilaa
open Go.RowKit Go.Vx
set_option linter.unusedVariables false
set_option linter.unusedSimpArgs false

/-- May a line be, to the reference? -/
theorem lineR {of : Int} (ho : 1 ≤ of) (x : Ln) : lineB of x = !(decide (x.acct < 1) || (decide (9999 < x.acct) || ((x.amt == 0) || (decide (x.part < 0) || (decide (9 < x.part) || (x.part == of)))))) := by
  unfold lineB entB
  rw [Bool.eq_iff_iff]
  simp
  omega
set_option maxRecDepth 100000 in
set_option maxHeartbeats 8000000 in
theorem r1_check (j : Jn) {w : World} {A : Option Addr} {n c : Nat} (hs : Go.Vx.Src w 3 A n (j.lines.flatMap lnEnc)) (hn : n ≤ 1000000) (hr : j.ref.size ≤ maxLen) : Calls Try.prog 37 #[jnV j (.slice A n c)] w fun e w' => e = .returned (.int .i64 (checkE j)) ∧ Chg [] w w' := by
  obtain rfl : n = j.lines.length := by have := hs.1; rw [flatMap_len lnEnc_len] at this; omega
  have hck : checkE j = if !frontB j then 1 else if !(j.lines.all (lineB j.ent)) then 1 else if !(j.lines.all fun x => fitM x.amt) then 2 else if sumL j.lines != 0 then 3 else 0 := rfl
  have hff : frontB j = (decide (1 ≤ j.id) && decide (j.id ≤ 999999) && entB j.ent && perB j.per && refB j.ref && decide (2 ≤ j.lines.length) && decide (j.lines.length ≤ 8)) := rfl
  have hrr : refB j.ref = (j.ref.data.toList.all refc && decide (j.ref.size ≤ 8)) := rfl
  generalize checkE j = R at *
  generalize frontB j = fb at *
  obtain ⟨id, ent, per, ref, l, void⟩ := j
  dsimp only at *
  unfold jnV at *
  dsimp only at *
  unfold maxLen at hr
  have h1f : fb = false → Hid (R = 1) := fun h => Lib.hid (by rw [hck, h]; rfl)
  have hB := Blk.new w 31 #[.int .i64 id, .int .i64 ent, .int .i64 per, .string ref, .slice A l.length c, .bool void]
  have hz := (Chg.refl [] w).alloc (.cells #[.int .i64 id, .int .i64 ent, .int .i64 per, .string ref, .slice A l.length c, .bool void] 31)
  have hval := r1_valid per
  by_cases q0 : id < 1
  · have b0 : decide (id < 1) = true := by simp; omega
    have hR := h1f (by rw [hff]; simp [entB, hrr]; omega)
    clear hff hrr hck h1f q0
    go_enter Try.func37, Try.ntmps37
    go_wp2_with fail
    go_ret
    exact ⟨by rw [hR.out]; rfl, hz⟩
  have b0 : decide (id < 1) = false := by simp; omega
  by_cases q1 : 999999 < id
  · have b1 : decide (999999 < id) = true := by simp; omega
    have hR := h1f (by rw [hff]; simp [entB, hrr]; omega)
    clear hff hrr hck h1f q0 q1
    go_enter Try.func37, Try.ntmps37
    go_wp2_with fail
    go_ret
    exact ⟨by rw [hR.out]; rfl, hz⟩
  have b1 : decide (999999 < id) = false := by simp; omega
  by_cases q2 : ent < 1
  · have b2 : decide (ent < 1) = true := by simp; omega
    have hR := h1f (by rw [hff]; simp [entB, hrr]; omega)
    clear hff hrr hck h1f q0 q1 q2
    go_enter Try.func37, Try.ntmps37
    go_wp2_with fail
    go_ret
    exact ⟨by rw [hR.out]; rfl, hz⟩
  have b2 : decide (ent < 1) = false := by simp; omega
  by_cases q3 : 9 < ent
  · have b3 : decide (9 < ent) = true := by simp; omega
    have hR := h1f (by rw [hff]; simp [entB, hrr]; omega)
    clear hff hrr hck h1f q0 q1 q2 q3
    go_enter Try.func37, Try.ntmps37
    go_wp2_with fail
    go_ret
    exact ⟨by rw [hR.out]; rfl, hz⟩
  have b3 : decide (9 < ent) = false := by simp; omega
  cases hp : perB per with
  | false =>
    have hR := h1f (by rw [hff, hp]; simp)
    rw [hp] at hval
    clear hff hrr hck h1f hp
    go_enter Try.func37, Try.ntmps37
    go_wp2_with fail
    refine (hval _).mono ?_
    rintro e w2 ⟨rfl, rfl⟩
    go_wp2_with fail
    go_ret
    exact ⟨by rw [hR.out]; rfl, hz⟩
  | true =>
  rw [hp] at hval hff
  clear hp
  by_cases q5 : 8 < ref.size
  · have b5 : decide (8 < (ref.size : Int)) = true := by simp; omega
    have hR := h1f (by rw [hff]; simp [entB, hrr]; omega)
    clear hff hrr hck h1f q0 q1 q2 q3 q5
    go_enter Try.func37, Try.ntmps37
    go_wp2_with fail
    refine (hval _).mono ?_
    rintro e w2 ⟨rfl, rfl⟩
    go_wp2_with fail
    go_ret
    exact ⟨by rw [hR.out]; rfl, hz⟩
  have b5 : decide (8 < (ref.size : Int)) = false := by simp; omega
  by_cases q6 : l.length < 2
  · have b6 : decide ((l.length : Int) < 2) = true := by simp; omega
    have hR := h1f (by rw [hff]; simp [entB, hrr]; omega)
    clear hff hrr hck h1f q0 q1 q2 q3 q5 q6
    go_enter Try.func37, Try.ntmps37
    go_wp2_with fail
    refine (hval _).mono ?_
    rintro e w2 ⟨rfl, rfl⟩
    go_wp2_with fail
    go_ret
    exact ⟨by rw [hR.out]; rfl, hz⟩
  have b6 : decide ((l.length : Int) < 2) = false := by simp; omega
  by_cases q7 : 8 < l.length
  · have b7 : decide (8 < (l.length : Int)) = true := by simp; omega
    have hR := h1f (by rw [hff]; simp [entB, hrr]; omega)
    clear hff hrr hck h1f q0 q1 q2 q3 q5 q6 q7
    go_enter Try.func37, Try.ntmps37
    go_wp2_with fail
    refine (hval _).mono ?_
    rintro e w2 ⟨rfl, rfl⟩
    go_wp2_with fail
    go_ret
    exact ⟨by rw [hR.out]; rfl, hz⟩
  have b7 : decide (8 < (l.length : Int)) = false := by simp; omega
  have hfb : fb = ref.data.toList.all refc := by
    rw [hff, hrr]
    generalize ref.data.toList.all refc = z
    cases z <;> simp [entB] <;> omega
  have ho : 1 ≤ ent := by omega
  have hl8 : l.length ≤ 8 := by omega
  have hr8 : ref.size ≤ 8 := by omega
  clear hff hrr q0 q1 q2 q3 q5 q6 q7
  have hbyte := r1_refByte
  have hfit := r1_fits
  replace h1f := Lib.hid h1f
  replace hfb := Lib.hid hfb
  replace hck := Lib.hid hck
  replace ho := Lib.hid ho
  replace hl8 := Lib.hid hl8
  replace hr8 := Lib.hid hr8
  go_enter Try.func37, Try.ntmps37
  go_wp2_with fail
  refine (hval _).mono ?_
  rintro e w2 ⟨rfl, rfl⟩
  go_wp2_with fail
  obtain ⟨w1, hw1⟩ : ∃ w1, w1 = w.alloc (.cells #[.int .i64 id, .int .i64 ent, .int .i64 per, .string ref, .slice A l.length c, .bool void] 31) := ⟨_, rfl⟩
  rw [← hw1] at hB hz ⊢
  clear hw1
  obtain ⟨jb, hjb⟩ : ∃ jb, w.heap.size = jb := ⟨_, rfl⟩
  rw [hjb] at hB ⊢
  clear hjb hval b0 b1 b2 b3 b5 b6 b7
  have hBc := fun W (k : Chg [] w1 W) => hB.chg k (by simp)
  replace hBc := Lib.hid hBc
  clear hB
  go_loopw [3] (fun iv wr => ∃ k : Nat, k ≤ ref.size ∧ iv = .int .i64 k ∧ (∀ j (hj : j < ref.size), j < k → refc ref[j] = true) ∧ Chg [] w1 wr) (fun iv _ => ref.size - (intOf iv).toNat)
  case atStart => exact ⟨0, by omega, rfl, fun j _ h => by omega, Chg.refl _ _⟩
  case round =>
    obtain ⟨k, hk, rfl, hj, hzr⟩ := hrel
    have hzw := hz.trans' hzr
    have g3 : wr.cell? ⟨jb, 3, none⟩ = some (.string ref) := (hBc.out _ hzr).cell 3
    have g4 : wr.cell? ⟨jb, 4, none⟩ = some (.slice A l.length c) := (hBc.out _ hzr).cell 4
    by_cases hlt : k < ref.size
    · have hb := hbyte ref[k]
      have hj2 : refc ref[k] = true → Hid (∀ j (hj : j < ref.size), j < k + 1 → refc ref[j] = true) := fun h => Lib.hid (fun j hj1 hj2 => by
        rcases Nat.lt_or_ge j k with h2 | h2
        · exact hj j hj1 h2
        · obtain rfl : j = k := by omega
          exact h)
      have hlt2 : (k : Int) < (ref.size : Int) := by omega
      cases hx : refc ref[k] with
      | false =>
        have hR := h1f.out (by
          rw [hfb.out, List.all_eq_false]
          exact ⟨ref[k], by rw [ByteArray.getElem_eq_getElem_data]; exact Array.getElem_mem_toList _, by rw [hx]; simp⟩)
        rw [hx] at hb
        clear hj hj2 hx
        go_wp2_with fail
        refine (hb _).mono ?_
        rintro e w2 ⟨rfl, rfl⟩
        go_wp2_with fail
        go_ret
        exact ⟨by rw [hR.out]; rfl, hzw⟩
      | true =>
        have hj3 := hj2 hx
        rw [hx] at hb
        clear hj hj2 hx
        go_wp2_with fail
        refine (hb _).mono ?_
        rintro e w2 ⟨rfl, rfl⟩
        go_wp2_with fail
        exact ⟨⟨k + 1, by omega, by go_num, hj3.out, hzr⟩, by simp [intOf]; omega⟩
    · obtain rfl : k = ref.size := by omega
      have hfb2 : fb = true := by
        rw [hfb.out, List.all_eq_true]
        intro x hx
        obtain ⟨i, hi, rfl⟩ := List.getElem_of_mem hx
        have := hj i (by simpa [ByteArray.size_data] using hi) (by simpa [ByteArray.size_data] using hi)
        rw [ByteArray.getElem_eq_getElem_data] at this
        simpa using this
      have hck2 : Hid (R = if !(l.all (lineB ent)) then 1 else if !(l.all fun x => fitM x.amt) then 2 else if sumL l != 0 then 3 else 0) := Lib.hid (by rw [hck.out, hfb2]; rfl)
      clear hj hck hfb2 hfb h1f hbyte
      go_wp2_with fail
      go_loopw [4] (fun iv wr => ∃ k : Nat, k ≤ l.length ∧ iv = .int .i64 k ∧ (l.take k).all (lineB ent) = true ∧ Chg [] w1 wr) (fun iv _ => l.length - (intOf iv).toNat)
      case atStart => exact ⟨0, by omega, rfl, by simp, hzr⟩
      case round =>
        clear g3 g4 hzw hzr
        obtain ⟨k, hk, rfl, hall, hzr⟩ := hrel
        have hzw := hz.trans' hzr
        have g1 : wr.cell? ⟨jb, 1, none⟩ = some (.int .i64 ent) := (hBc.out _ hzr).cell 1
        have g1a := cell_al g1
        have g4 : wr.cell? ⟨jb, 4, none⟩ = some (.slice A l.length c) := (hBc.out _ hzr).cell 4
        by_cases hlt : k < l.length
        · obtain ⟨ad, rfl, c0, c1, c2⟩ := line_cells (hs.chg hzw (by simp)) hlt
          have hlt2 : (k : Int) < (l.length : Int) := by omega
          have hlr := lineR ho.out l[k]
          have hgood : lineB ent l[k] = true → Hid ((l.take (k + 1)).all (lineB ent) = true) := fun h => Lib.hid (by rw [all_take (p := lineB ent) (l := l) hlt, hall, h]; rfl)
          have hbad : lineB ent l[k] = false → Hid (R = 1) := fun h => Lib.hid (by rw [hck2.out, all_bad (p := lineB ent) (l := l) hlt h]; rfl)
          clear hall
          generalize l[k] = x at *
          obtain ⟨xa, xm, xp⟩ := x
          dsimp only at *
          rw [hlr] at hgood hbad
          clear hlr
          cases p0 : decide (xa < 1) with
          | true =>
            have hR := hbad (by simp [p0])
            clear hbad hgood
            go_wp2_with fail
            go_ret
            exact ⟨by rw [hR.out]; rfl, hzw.alloc _⟩
          | false =>
          simp only [p0] at hgood hbad
          cases p1 : decide (9999 < xa) with
          | true =>
            have hR := hbad (by simp [p1])
            clear hbad hgood
            go_wp2_with fail
            go_ret
            exact ⟨by rw [hR.out]; rfl, hzw.alloc _⟩
          | false =>
          simp only [p1] at hgood hbad
          cases p2 : (xm == 0) with
          | true =>
            have hR := hbad (by simp [p2])
            clear hbad hgood
            go_wp2_with fail
            go_ret
            exact ⟨by rw [hR.out]; rfl, hzw.alloc _⟩
          | false =>
          simp only [p2] at hgood hbad
          cases p3 : decide (xp < 0) with
          | true =>
            have hR := hbad (by simp [p3])
            clear hbad hgood
            go_wp2_with fail
            go_ret
            exact ⟨by rw [hR.out]; rfl, hzw.alloc _⟩
          | false =>
          simp only [p3] at hgood hbad
          cases p4 : decide (9 < xp) with
          | true =>
            have hR := hbad (by simp [p4])
            clear hbad hgood
            go_wp2_with fail
            go_ret
            exact ⟨by rw [hR.out]; rfl, hzw.alloc _⟩
          | false =>
          simp only [p4] at hgood hbad
          cases p5 : (xp == ent) with
          | true =>
            have hR := hbad (by simp [p5])
            clear hbad hgood
            go_wp2_with fail
            go_ret
            exact ⟨by rw [hR.out]; rfl, hzw.alloc _⟩
          | false =>
          simp only [p5] at hgood hbad
          have hg := hgood (by simp)
          clear hgood hbad
          go_wp2_with fail
          exact ⟨⟨k + 1, by omega, by go_num, hg.out, hzr.alloc _⟩, by simp [intOf]; omega⟩
        · obtain rfl : k = l.length := by omega
          rw [List.take_of_length_le (Nat.le_refl _)] at hall
          have hck3 : Hid (R = if !(l.all fun x => fitM x.amt) then 2 else if sumL l != 0 then 3 else 0) := Lib.hid (by rw [hck2.out, hall]; rfl)
          clear hall hck2 g1a
          go_wp2_with fail
          go_loopw [6, 7] (fun sv iv wr => ∃ i : Nat, i ≤ l.length ∧ iv = .int .i64 i ∧ sv = .int .i64 (sumL (l.take i)) ∧ (l.take i).all (fun x => fitM x.amt) = true ∧ Chg [] w1 wr) (fun _ iv _ => l.length - (intOf iv).toNat)
          case atStart => exact ⟨0, by omega, rfl, rfl, by simp, hzr⟩
          case round =>
            clear g1 g4 hzw hzr
            obtain ⟨i, hi, rfl, rfl, hall, hzr⟩ := hrel
            have hzw := hz.trans' hzr
            have g4 : wr.cell? ⟨jb, 4, none⟩ = some (.slice A l.length c) := (hBc.out _ hzr).cell 4
            have hfits : ∀ x ∈ l.take i, fitM x.amt = true := List.all_eq_true.1 hall
            have hsl := sumL_le (l.take i) hfits i (by rw [List.length_take]; omega)
            rw [List.take_take, Nat.min_self] at hsl
            have hl8' := hl8.out
            by_cases hlt : i < l.length
            · obtain ⟨ad, rfl, c0, c1, c2⟩ := line_cells (hs.chg hzw (by simp)) hlt
              have hlt2 : (i : Int) < (l.length : Int) := by omega
              have e1 := all_take (p := fun x : Ln => fitM x.amt) (l := l) hlt
              have e2 := all_bad (p := fun x : Ln => fitM x.amt) (l := l) hlt
              have e3 := sumL_take l hlt
              generalize l[i] = x at *
              obtain ⟨xa, xm, xp⟩ := x
              dsimp only at *
              have hft := hfit xm
              clear hfits
              cases hb : fitM xm with
              | false =>
                rw [hb] at hft
                replace e2 := e2 hb
                have hR : Hid (R = 2) := Lib.hid (by rw [hck3.out, e2]; rfl)
                clear e1 e2 e3 hall hb hck3 hsl
                go_wp2_with fail
                refine (hft _).mono ?_
                rintro e w3 ⟨rfl, rfl⟩
                go_wp2_with fail
                go_ret
                exact ⟨by rw [hR.out]; rfl, hzw⟩
              | true =>
                rw [hb] at hft e1
                rw [hall] at e1
                have hxm := fitM_iff.1 hb
                replace e1 := Lib.hid e1
                have hsw : IntKind.i64.wrap (sumL (l.take i) + xm) = sumL (l.take i) + xm := by rw [IntKind.wrap_i64]; omega
                generalize sumL (l.take i) = sv at *
                replace e3 := Lib.hid e3
                clear e2 hall hb hsl hxm
                go_wp2_with fail
                refine (hft _).mono ?_
                rintro e w3 ⟨rfl, rfl⟩
                clear hft
                go_wp2_with fail
                exact ⟨⟨i + 1, by omega, by go_num, by rw [e3.out], by rw [e1.out]; rfl, hzr⟩, by simp [intOf]; omega⟩
            · obtain rfl : i = l.length := by omega
              rw [List.take_of_length_le (Nat.le_refl _)] at hall hsl ⊢
              clear hfits
              by_cases h0 : sumL l = 0
              · have hR : Hid (R = 0) := Lib.hid (by rw [hck3.out, hall, h0]; rfl)
                rw [h0]
                clear hck3 hall hsl h0
                go_wp2_with fail
                go_ret
                exact ⟨by rw [hR.out]; rfl, hzw⟩
              · have hR : Hid (R = 3) := Lib.hid (by rw [hck3.out, hall]; simp [h0])
                have b0 : (sumL l != 0) = true := by simp [h0]
                generalize sumL l = sv at *
                clear hck3 hall hsl h0
                go_wp2_with fail
                go_ret
                exact ⟨by rw [hR.out]; rfl, hzw⟩
end Go.Proofs.Ytlgfmphjgijilaa
