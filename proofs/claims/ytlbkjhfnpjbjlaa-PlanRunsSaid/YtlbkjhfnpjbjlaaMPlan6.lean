/- Parts of the proofs of Plan: contracts of the functions that they reach, in their order. -/
import Derived.Test.YtlbkjhfnpjbjlaaMPlan5
import Derived.Laws.StructEq
import Derived.Deep.RegionLaw
import Derived.Deep.QuietTactic
import Derived.Laws.Slices
import Derived.StillTailTactics
/- Journals: the reference's Check. -/
namespace Go.Proofs.Ytlbkjhfnpjbjlaa
open Go.RowKit Go.Vx
set_option linter.unusedVariables false
set_option linter.unusedSimpArgs false

theorem r1_valid (p : Int) (w : World) : Calls Try.prog 23 #[.int .i64 p] w fun e w' => e = .returned (.bool (perB p)) ∧ w = w' := by
  have h1 : 0 ≤ p → Hid (decide (p ≤ 1199) = perB p) := fun h => Lib.hid (by unfold perB; simp [h])
  have h2 : p < 0 → Hid (false = perB p) := fun h => Lib.hid (by unfold perB; simp; omega)
  go_enter Try.func23, Try.ntmps23
  go_wp2
  · go_ret
    exact ⟨ret_bool (h1 (by omega)).out, rfl⟩
  · go_ret
    exact ⟨ret_bool (h2 (by omega)).out, rfl⟩
theorem r1_refByte (c : UInt8) (w : World) : Calls Try.prog 30 #[.int .u8 (c.toNat : Nat)] w fun e w' => e = .returned (.bool (refc c)) ∧ w = w' := by
  obtain ⟨n, hn⟩ : ∃ n, c.toNat = n := ⟨_, rfl⟩
  have hr : Hid (refc c = ((decide (65 ≤ n) && decide (n ≤ 90)) || (decide (48 ≤ n) && decide (n ≤ 57)))) := Lib.hid (by unfold refc; rw [hn])
  rw [hn, hr.out]
  clear hr hn
  by_cases h1 : 65 ≤ n
  · by_cases h2 : n ≤ 90
    · have b1 : decide ((65 : Int) ≤ n) = true := by simp; omega
      have b2 : decide ((n : Int) ≤ 90) = true := by simp; omega
      have hR : Hid (((decide (65 ≤ n) && decide (n ≤ 90)) || (decide (48 ≤ n) && decide (n ≤ 57))) = true) := Lib.hid (by simp [h1, h2])
      rw [hR.out]
      clear h1 h2
      go_enter Try.func30, Try.ntmps30
      go_wp2_with fail
      go_ret
      exact ⟨rfl, rfl⟩
    · have b1 : decide ((65 : Int) ≤ n) = true := by simp; omega
      have b2 : decide ((n : Int) ≤ 90) = false := by simp; omega
      have b3 : decide ((48 : Int) ≤ n) = true := by simp; omega
      have b4 : decide ((n : Int) ≤ 57) = false := by simp; omega
      have hR : Hid (((decide (65 ≤ n) && decide (n ≤ 90)) || (decide (48 ≤ n) && decide (n ≤ 57))) = false) := Lib.hid (by simp; omega)
      rw [hR.out]
      clear h1 h2
      go_enter Try.func30, Try.ntmps30
      go_wp2_with fail
      go_ret
      exact ⟨rfl, rfl⟩
  · have b1 : decide ((65 : Int) ≤ n) = false := by simp; omega
    by_cases h3 : 48 ≤ n
    · have b3 : decide ((48 : Int) ≤ n) = true := by simp; omega
      have hR : Hid (((decide (65 ≤ n) && decide (n ≤ 90)) || (decide (48 ≤ n) && decide (n ≤ 57))) = decide ((n : Int) ≤ 57)) := Lib.hid (by simp [h1, h3]; omega)
      rw [hR.out]
      clear h1 h3
      go_enter Try.func30, Try.ntmps30
      go_wp2_with fail
      go_ret
      exact ⟨rfl, rfl⟩
    · have b3 : decide ((48 : Int) ≤ n) = false := by simp; omega
      have hR : Hid (((decide (65 ≤ n) && decide (n ≤ 90)) || (decide (48 ≤ n) && decide (n ≤ 57))) = false) := Lib.hid (by simp; omega)
      rw [hR.out]
      clear h1 h3
      go_enter Try.func30, Try.ntmps30
      go_wp2_with fail
      go_ret
      exact ⟨rfl, rfl⟩
theorem r1_fits (a : Int) (w : World) : Calls Try.prog 24 #[.int .i64 a] w fun e w' => e = .returned (.bool (fitM a)) ∧ w = w' := by
  by_cases h1 : -1000000000000000 ≤ a
  · have b1 : decide ((-1000000000000000 : Int) ≤ a) = true := by simp; omega
    have hR : Hid (fitM a = decide (a ≤ 1000000000000000)) := Lib.hid (by unfold fitM; rw [Bool.eq_iff_iff]; simp; omega)
    rw [hR.out]
    clear h1
    go_enter Try.func24, Try.ntmps24
    go_wp2_with fail
    go_ret
    exact ⟨rfl, rfl⟩
  · have b1 : decide ((-1000000000000000 : Int) ≤ a) = false := by simp; omega
    have hR : Hid (fitM a = false) := Lib.hid (by unfold fitM; simp; omega)
    rw [hR.out]
    clear h1
    go_enter Try.func24, Try.ntmps24
    go_wp2_with fail
    go_ret
    exact ⟨rfl, rfl⟩
end Go.Proofs.Ytlbkjhfnpjbjlaa
/- Journals: the reference's Check. Printed by wip/jrb.py. -/
namespace Go.Proofs.Ytlbkjhfnpjbjlaa
open Go.RowKit Go.Vx
set_option linter.unusedVariables false
set_option linter.unusedSimpArgs false

/-- May a line be, to the reference? -/
theorem lineR {of : Int} (ho : 1 ≤ of) (x : Ln) : lineB of x = !(decide (x.acct < 1) || (decide (9999 < x.acct) || ((x.amt == 0) || (decide (x.part < 0) || (decide (9 < x.part) || (x.part == of)))))) := by
  unfold lineB entB
  rw [Bool.eq_iff_iff]
  simp
  omega
set_option maxRecDepth 100000 in
set_option maxHeartbeats 8000000 in
theorem r1_check (j : Jn) {w : World} {A : Option Addr} {n c : Nat} (hs : Go.Vx.Src w 3 A n (j.lines.flatMap lnEnc)) (hn : n ≤ 1000000) (hr : j.ref.size ≤ maxLen) : Calls Try.prog 12 #[jnV j (.slice A n c)] w fun e w' => e = .returned (.int .i64 (checkE j)) ∧ Chg [] w w' := by
  obtain rfl : n = j.lines.length := by have := hs.1; rw [flatMap_len lnEnc_len] at this; omega
  have hck : checkE j = if !frontB j then 1 else if !(j.lines.all (lineB j.ent)) then 1 else if !(j.lines.all fun x => fitM x.amt) then 2 else if sumL j.lines != 0 then 3 else 0 := rfl
  have hff : frontB j = (decide (1 ≤ j.id) && decide (j.id ≤ 999999) && entB j.ent && perB j.per && refB j.ref && decide (2 ≤ j.lines.length) && decide (j.lines.length ≤ 8)) := rfl
  have hrr : refB j.ref = (j.ref.data.toList.all refc && decide (j.ref.size ≤ 8)) := rfl
  generalize checkE j = R at *
  generalize frontB j = fb at *
  obtain ⟨id, ent, per, ref, l, void⟩ := j
  dsimp only at *
  unfold jnV at *
  dsimp only at *
  unfold maxLen at hr
  have h1f : fb = false → Hid (R = 1) := fun h => Lib.hid (by rw [hck, h]; rfl)
  have hB := Blk.new w 38 #[.int .i64 id, .int .i64 ent, .int .i64 per, .string ref, .slice A l.length c, .bool void]
  have hz := (Chg.refl [] w).alloc (.cells #[.int .i64 id, .int .i64 ent, .int .i64 per, .string ref, .slice A l.length c, .bool void] 38)
  have hval := r1_valid per
  by_cases q0 : id < 1
  · have b0 : decide (id < 1) = true := by simp; omega
    have hR := h1f (by rw [hff]; simp [entB, hrr]; omega)
    clear hff hrr hck h1f q0
    go_enter Try.func12, Try.ntmps12
    go_wp2_with fail
    go_ret
    exact ⟨by rw [hR.out]; rfl, hz⟩
  have b0 : decide (id < 1) = false := by simp; omega
  by_cases q1 : 999999 < id
  · have b1 : decide (999999 < id) = true := by simp; omega
    have hR := h1f (by rw [hff]; simp [entB, hrr]; omega)
    clear hff hrr hck h1f q0 q1
    go_enter Try.func12, Try.ntmps12
    go_wp2_with fail
    go_ret
    exact ⟨by rw [hR.out]; rfl, hz⟩
  have b1 : decide (999999 < id) = false := by simp; omega
  by_cases q2 : ent < 1
  · have b2 : decide (ent < 1) = true := by simp; omega
    have hR := h1f (by rw [hff]; simp [entB, hrr]; omega)
    clear hff hrr hck h1f q0 q1 q2
    go_enter Try.func12, Try.ntmps12
    go_wp2_with fail
    go_ret
    exact ⟨by rw [hR.out]; rfl, hz⟩
  have b2 : decide (ent < 1) = false := by simp; omega
  by_cases q3 : 9 < ent
  · have b3 : decide (9 < ent) = true := by simp; omega
    have hR := h1f (by rw [hff]; simp [entB, hrr]; omega)
    clear hff hrr hck h1f q0 q1 q2 q3
    go_enter Try.func12, Try.ntmps12
    go_wp2_with fail
    go_ret
    exact ⟨by rw [hR.out]; rfl, hz⟩
  have b3 : decide (9 < ent) = false := by simp; omega
  cases hp : perB per with
  | false =>
    have hR := h1f (by rw [hff, hp]; simp)
    rw [hp] at hval
    clear hff hrr hck h1f hp
    go_enter Try.func12, Try.ntmps12
    go_wp2_with fail
    refine (hval _).mono ?_
    rintro e w2 ⟨rfl, rfl⟩
    go_wp2_with fail
    go_ret
    exact ⟨by rw [hR.out]; rfl, hz⟩
  | true =>
  rw [hp] at hval hff
  clear hp
  by_cases q5 : 8 < ref.size
  · have b5 : decide (8 < (ref.size : Int)) = true := by simp; omega
    have hR := h1f (by rw [hff]; simp [entB, hrr]; omega)
    clear hff hrr hck h1f q0 q1 q2 q3 q5
    go_enter Try.func12, Try.ntmps12
    go_wp2_with fail
    refine (hval _).mono ?_
    rintro e w2 ⟨rfl, rfl⟩
    go_wp2_with fail
    go_ret
    exact ⟨by rw [hR.out]; rfl, hz⟩
  have b5 : decide (8 < (ref.size : Int)) = false := by simp; omega
  by_cases q6 : l.length < 2
  · have b6 : decide ((l.length : Int) < 2) = true := by simp; omega
    have hR := h1f (by rw [hff]; simp [entB, hrr]; omega)
    clear hff hrr hck h1f q0 q1 q2 q3 q5 q6
    go_enter Try.func12, Try.ntmps12
    go_wp2_with fail
    refine (hval _).mono ?_
    rintro e w2 ⟨rfl, rfl⟩
    go_wp2_with fail
    go_ret
    exact ⟨by rw [hR.out]; rfl, hz⟩
  have b6 : decide ((l.length : Int) < 2) = false := by simp; omega
  by_cases q7 : 8 < l.length
  · have b7 : decide (8 < (l.length : Int)) = true := by simp; omega
    have hR := h1f (by rw [hff]; simp [entB, hrr]; omega)
    clear hff hrr hck h1f q0 q1 q2 q3 q5 q6 q7
    go_enter Try.func12, Try.ntmps12
    go_wp2_with fail
    refine (hval _).mono ?_
    rintro e w2 ⟨rfl, rfl⟩
    go_wp2_with fail
    go_ret
    exact ⟨by rw [hR.out]; rfl, hz⟩
  have b7 : decide (8 < (l.length : Int)) = false := by simp; omega
  have hfb : fb = ref.data.toList.all refc := by
    rw [hff, hrr]
    generalize ref.data.toList.all refc = z
    cases z <;> simp [entB] <;> omega
  have ho : 1 ≤ ent := by omega
  have hl8 : l.length ≤ 8 := by omega
  have hr8 : ref.size ≤ 8 := by omega
  clear hff hrr q0 q1 q2 q3 q5 q6 q7
  have hbyte := r1_refByte
  have hfit := r1_fits
  replace h1f := Lib.hid h1f
  replace hfb := Lib.hid hfb
  replace hck := Lib.hid hck
  replace ho := Lib.hid ho
  replace hl8 := Lib.hid hl8
  replace hr8 := Lib.hid hr8
  go_enter Try.func12, Try.ntmps12
  go_wp2_with fail
  refine (hval _).mono ?_
  rintro e w2 ⟨rfl, rfl⟩
  go_wp2_with fail
  obtain ⟨w1, hw1⟩ : ∃ w1, w1 = w.alloc (.cells #[.int .i64 id, .int .i64 ent, .int .i64 per, .string ref, .slice A l.length c, .bool void] 38) := ⟨_, rfl⟩
  rw [← hw1] at hB hz ⊢
  clear hw1
  obtain ⟨jb, hjb⟩ : ∃ jb, w.heap.size = jb := ⟨_, rfl⟩
  rw [hjb] at hB ⊢
  clear hjb hval b0 b1 b2 b3 b5 b6 b7
  have hBc := fun W (k : Chg [] w1 W) => hB.chg k (by simp)
  replace hBc := Lib.hid hBc
  clear hB
  go_loopw [3] (fun iv wr => ∃ k : Nat, k ≤ ref.size ∧ iv = .int .i64 k ∧ (∀ j (hj : j < ref.size), j < k → refc ref[j] = true) ∧ Chg [] w1 wr) (fun iv _ => ref.size - (intOf iv).toNat)
  case atStart => exact ⟨0, by omega, rfl, fun j _ h => by omega, Chg.refl _ _⟩
  case round =>
    obtain ⟨k, hk, rfl, hj, hzr⟩ := hrel
    have hzw := hz.trans' hzr
    have g3 : wr.cell? ⟨jb, 3, none⟩ = some (.string ref) := (hBc.out _ hzr).cell 3
    have g4 : wr.cell? ⟨jb, 4, none⟩ = some (.slice A l.length c) := (hBc.out _ hzr).cell 4
    by_cases hlt : k < ref.size
    · have hb := hbyte ref[k]
      have hj2 : refc ref[k] = true → Hid (∀ j (hj : j < ref.size), j < k + 1 → refc ref[j] = true) := fun h => Lib.hid (fun j hj1 hj2 => by
        rcases Nat.lt_or_ge j k with h2 | h2
        · exact hj j hj1 h2
        · obtain rfl : j = k := by omega
          exact h)
      have hlt2 : (k : Int) < (ref.size : Int) := by omega
      cases hx : refc ref[k] with
      | false =>
        have hR := h1f.out (by
          rw [hfb.out, List.all_eq_false]
          exact ⟨ref[k], by rw [ByteArray.getElem_eq_getElem_data]; exact Array.getElem_mem_toList _, by rw [hx]; simp⟩)
        rw [hx] at hb
        clear hj hj2 hx
        go_wp2_with fail
        refine (hb _).mono ?_
        rintro e w2 ⟨rfl, rfl⟩
        go_wp2_with fail
        go_ret
        exact ⟨by rw [hR.out]; rfl, hzw⟩
      | true =>
        have hj3 := hj2 hx
        rw [hx] at hb
        clear hj hj2 hx
        go_wp2_with fail
        refine (hb _).mono ?_
        rintro e w2 ⟨rfl, rfl⟩
        go_wp2_with fail
        exact ⟨⟨k + 1, by omega, by go_num, hj3.out, hzr⟩, by simp [intOf]; omega⟩
    · obtain rfl : k = ref.size := by omega
      have hfb2 : fb = true := by
        rw [hfb.out, List.all_eq_true]
        intro x hx
        obtain ⟨i, hi, rfl⟩ := List.getElem_of_mem hx
        have := hj i (by simpa [ByteArray.size_data] using hi) (by simpa [ByteArray.size_data] using hi)
        rw [ByteArray.getElem_eq_getElem_data] at this
        simpa using this
      have hck2 : Hid (R = if !(l.all (lineB ent)) then 1 else if !(l.all fun x => fitM x.amt) then 2 else if sumL l != 0 then 3 else 0) := Lib.hid (by rw [hck.out, hfb2]; rfl)
      clear hj hck hfb2 hfb h1f hbyte
      go_wp2_with fail
      go_loopw [4] (fun iv wr => ∃ k : Nat, k ≤ l.length ∧ iv = .int .i64 k ∧ (l.take k).all (lineB ent) = true ∧ Chg [] w1 wr) (fun iv _ => l.length - (intOf iv).toNat)
      case atStart => exact ⟨0, by omega, rfl, by simp, hzr⟩
      case round =>
        clear g3 g4 hzw hzr
        obtain ⟨k, hk, rfl, hall, hzr⟩ := hrel
        have hzw := hz.trans' hzr
        have g1 : wr.cell? ⟨jb, 1, none⟩ = some (.int .i64 ent) := (hBc.out _ hzr).cell 1
        have g1a := cell_al g1
        have g4 : wr.cell? ⟨jb, 4, none⟩ = some (.slice A l.length c) := (hBc.out _ hzr).cell 4
        by_cases hlt : k < l.length
        · obtain ⟨ad, rfl, c0, c1, c2⟩ := line_cells (hs.chg hzw (by simp)) hlt
          have hlt2 : (k : Int) < (l.length : Int) := by omega
          have hlr := lineR ho.out l[k]
          have hgood : lineB ent l[k] = true → Hid ((l.take (k + 1)).all (lineB ent) = true) := fun h => Lib.hid (by rw [jall_take (p := lineB ent) (l := l) hlt, hall, h]; rfl)
          have hbad : lineB ent l[k] = false → Hid (R = 1) := fun h => Lib.hid (by rw [hck2.out, jall_bad (p := lineB ent) (l := l) hlt h]; rfl)
          clear hall
          generalize l[k] = x at *
          obtain ⟨xa, xm, xp⟩ := x
          dsimp only at *
          rw [hlr] at hgood hbad
          clear hlr
          cases p0 : decide (xa < 1) with
          | true =>
            have hR := hbad (by simp [p0])
            clear hbad hgood
            go_wp2_with fail
            go_ret
            exact ⟨by rw [hR.out]; rfl, hzw.alloc _⟩
          | false =>
          simp only [p0] at hgood hbad
          cases p1 : decide (9999 < xa) with
          | true =>
            have hR := hbad (by simp [p1])
            clear hbad hgood
            go_wp2_with fail
            go_ret
            exact ⟨by rw [hR.out]; rfl, hzw.alloc _⟩
          | false =>
          simp only [p1] at hgood hbad
          cases p2 : (xm == 0) with
          | true =>
            have hR := hbad (by simp [p2])
            clear hbad hgood
            go_wp2_with fail
            go_ret
            exact ⟨by rw [hR.out]; rfl, hzw.alloc _⟩
          | false =>
          simp only [p2] at hgood hbad
          cases p3 : decide (xp < 0) with
          | true =>
            have hR := hbad (by simp [p3])
            clear hbad hgood
            go_wp2_with fail
            go_ret
            exact ⟨by rw [hR.out]; rfl, hzw.alloc _⟩
          | false =>
          simp only [p3] at hgood hbad
          cases p4 : decide (9 < xp) with
          | true =>
            have hR := hbad (by simp [p4])
            clear hbad hgood
            go_wp2_with fail
            go_ret
            exact ⟨by rw [hR.out]; rfl, hzw.alloc _⟩
          | false =>
          simp only [p4] at hgood hbad
          cases p5 : (xp == ent) with
          | true =>
            have hR := hbad (by simp [p5])
            clear hbad hgood
            go_wp2_with fail
            go_ret
            exact ⟨by rw [hR.out]; rfl, hzw.alloc _⟩
          | false =>
          simp only [p5] at hgood hbad
          have hg := hgood (by simp)
          clear hgood hbad
          go_wp2_with fail
          exact ⟨⟨k + 1, by omega, by go_num, hg.out, hzr.alloc _⟩, by simp [intOf]; omega⟩
        · obtain rfl : k = l.length := by omega
          rw [List.take_of_length_le (Nat.le_refl _)] at hall
          have hck3 : Hid (R = if !(l.all fun x => fitM x.amt) then 2 else if sumL l != 0 then 3 else 0) := Lib.hid (by rw [hck2.out, hall]; rfl)
          clear hall hck2 g1a
          go_wp2_with fail
          go_loopw [6, 7] (fun sv iv wr => ∃ i : Nat, i ≤ l.length ∧ iv = .int .i64 i ∧ sv = .int .i64 (sumL (l.take i)) ∧ (l.take i).all (fun x => fitM x.amt) = true ∧ Chg [] w1 wr) (fun _ iv _ => l.length - (intOf iv).toNat)
          case atStart => exact ⟨0, by omega, rfl, rfl, by simp, hzr⟩
          case round =>
            clear g1 g4 hzw hzr
            obtain ⟨i, hi, rfl, rfl, hall, hzr⟩ := hrel
            have hzw := hz.trans' hzr
            have g4 : wr.cell? ⟨jb, 4, none⟩ = some (.slice A l.length c) := (hBc.out _ hzr).cell 4
            have hfits : ∀ x ∈ l.take i, fitM x.amt = true := List.all_eq_true.1 hall
            have hsl := sumL_le (l.take i) hfits i (by rw [List.length_take]; omega)
            rw [List.take_take, Nat.min_self] at hsl
            have hl8' := hl8.out
            by_cases hlt : i < l.length
            · obtain ⟨ad, rfl, c0, c1, c2⟩ := line_cells (hs.chg hzw (by simp)) hlt
              have hlt2 : (i : Int) < (l.length : Int) := by omega
              have e1 := jall_take (p := fun x : Ln => fitM x.amt) (l := l) hlt
              have e2 := jall_bad (p := fun x : Ln => fitM x.amt) (l := l) hlt
              have e3 := sumL_take l hlt
              generalize l[i] = x at *
              obtain ⟨xa, xm, xp⟩ := x
              dsimp only at *
              have hft := hfit xm
              clear hfits
              cases hb : fitM xm with
              | false =>
                rw [hb] at hft
                replace e2 := e2 hb
                have hR : Hid (R = 2) := Lib.hid (by rw [hck3.out, e2]; rfl)
                clear e1 e2 e3 hall hb hck3 hsl
                go_wp2_with fail
                refine (hft _).mono ?_
                rintro e w3 ⟨rfl, rfl⟩
                go_wp2_with fail
                go_ret
                exact ⟨by rw [hR.out]; rfl, hzw⟩
              | true =>
                rw [hb] at hft e1
                rw [hall] at e1
                have hxm := fitM_iff.1 hb
                replace e1 := Lib.hid e1
                have hsw : IntKind.i64.wrap (sumL (l.take i) + xm) = sumL (l.take i) + xm := by rw [IntKind.wrap_i64]; omega
                generalize sumL (l.take i) = sv at *
                replace e3 := Lib.hid e3
                clear e2 hall hb hsl hxm
                go_wp2_with fail
                refine (hft _).mono ?_
                rintro e w3 ⟨rfl, rfl⟩
                clear hft
                go_wp2_with fail
                exact ⟨⟨i + 1, by omega, by go_num, by rw [e3.out], by rw [e1.out]; rfl, hzr⟩, by simp [intOf]; omega⟩
            · obtain rfl : i = l.length := by omega
              rw [List.take_of_length_le (Nat.le_refl _)] at hall hsl ⊢
              clear hfits
              by_cases h0 : sumL l = 0
              · have hR : Hid (R = 0) := Lib.hid (by rw [hck3.out, hall, h0]; rfl)
                rw [h0]
                clear hck3 hall hsl h0
                go_wp2_with fail
                go_ret
                exact ⟨by rw [hR.out]; rfl, hzw⟩
              · have hR : Hid (R = 3) := Lib.hid (by rw [hck3.out, hall]; simp [h0])
                have b0 : (sumL l != 0) = true := by simp [h0]
                generalize sumL l = sv at *
                clear hck3 hall hsl h0
                go_wp2_with fail
                go_ret
                exact ⟨by rw [hR.out]; rfl, hzw⟩
end Go.Proofs.Ytlbkjhfnpjbjlaa
/- Journals: the reference's Same. -/
namespace Go.Proofs.Ytlbkjhfnpjbjlaa
open Go.RowKit Go.Vx
set_option linter.unusedVariables false
set_option linter.unusedSimpArgs false

theorem line_eql (x y : Ln) (w : World) : (Op.equalIn 10000 40 (.agg #[.int .i64 x.acct, .int .i64 x.amt, .int .i64 x.part]) (.agg #[.int .i64 y.acct, .int .i64 y.amt, .int .i64 y.part])).run Try.prog w = .ok (decide (x = y)) w := by
  obtain ⟨a, m, p⟩ := x
  obtain ⟨b, n, q⟩ := y
  dsimp only
  rw [show (10000 : Nat) = 9999 + 1 from rfl, run_equalIn_agg w 9999 40 _ _ (by kernel_rfl) (by kernel_rfl)]
  simp only [Program.fieldsOf, Try.underlying40]
  have e1 := fun a b w => run_equalIn_int (P := Try.prog) w 9998 3 .i64 .i64 a b Try.underlying3
  have p0 : ∀ (x y z : Int) w, (part 3 #[.int .i64 x, .int .i64 y, .int .i64 z] 0).run Try.prog w = .ok (.int .i64 x) w := fun x y z w => by kernel_rfl
  have p1 : ∀ (x y z : Int) w, (part 3 #[.int .i64 x, .int .i64 y, .int .i64 z] 1).run Try.prog w = .ok (.int .i64 y) w := fun x y z w => by kernel_rfl
  have p2 : ∀ (x y z : Int) w, (part 3 #[.int .i64 x, .int .i64 y, .int .i64 z] 2).run Try.prog w = .ok (.int .i64 z) w := fun x y z w => by kernel_rfl
  by_cases h1 : a = b
  · by_cases h2 : m = n
    · by_cases h3 : p = q
      · simp [Op.eqFields, Sem.run_bind, p0, p1, p2, e1, Result.andThen, h1, h2, h3]
      · simp [Op.eqFields, Sem.run_bind, p0, p1, p2, e1, Result.andThen, h1, h2, h3]
    · simp [Op.eqFields, Sem.run_bind, p0, p1, p2, e1, Result.andThen, h1, h2]
  · simp [Op.eqFields, Sem.run_bind, p0, p1, p2, e1, Result.andThen, h1]
theorem line_neq (x y : Ln) (w : World) : (binOp .neq 40 (.agg #[.int .i64 x.acct, .int .i64 x.amt, .int .i64 x.part]) (.agg #[.int .i64 y.acct, .int .i64 y.amt, .int .i64 y.part])).run Try.prog w = .ok (.bool (!decide (x = y))) w := by
  rw [run_neq_struct, line_eql]
  rfl
/-- Are two journals alike? -/
def sameN (a b : Jn) : Bool := (a.id == b.id) && ((a.ent == b.ent) && ((a.per == b.per) && ((a.ref.toList == b.ref.toList) && ((a.void == b.void) && decide (a.lines = b.lines)))))
set_option maxRecDepth 100000 in
set_option maxHeartbeats 8000000 in
theorem r1_same (a b : Jn) {w : World} {A B : Option Addr} {c d : Nat} (ha : Go.Vx.Src w 3 A a.lines.length (a.lines.flatMap lnEnc)) (hb : Go.Vx.Src w 3 B b.lines.length (b.lines.flatMap lnEnc)) (hm : a.lines.length ≤ 1000000) (hm2 : b.lines.length ≤ 1000000) :
    Calls Try.prog 35 #[jnV a (.slice A a.lines.length c), jnV b (.slice B b.lines.length d)] w fun e w' => e = .returned (.bool (sameN a b)) ∧ Chg [] w w' := by
  obtain ⟨R, hR⟩ : ∃ R, sameN a b = R := ⟨_, rfl⟩
  have hRs : R = ((a.id == b.id) && ((a.ent == b.ent) && ((a.per == b.per) && ((a.ref.toList == b.ref.toList) && ((a.void == b.void) && decide (a.lines = b.lines)))))) := by rw [← hR]; rfl
  rw [hR]
  clear hR
  obtain ⟨i1, e1, r1, s1, l1, v1⟩ := a
  obtain ⟨i2, e2, r2, s2, l2, v2⟩ := b
  unfold jnV
  dsimp only at *
  have hz := ((Chg.refl [] w).alloc (.cells #[.int .i64 i1, .int .i64 e1, .int .i64 r1, .string s1, .slice A l1.length c, .bool v1] 38)).alloc (.cells #[.int .i64 i2, .int .i64 e2, .int .i64 r2, .string s2, .slice B l2.length d, .bool v2] 38)
  cases p0 : (i1 != i2) with
  | true =>
    have hR : Hid (R = false) := Lib.hid (by rw [hRs, show (i1 == i2) = false from by simpa using p0]; rfl)
    clear hRs
    go_enter Try.func35, Try.ntmps35
    go_wp2_with fail
    go_ret
    exact ⟨by rw [hR.out]; rfl, hz⟩
  | false =>
  cases p1 : (e1 != e2) with
  | true =>
    have hR : Hid (R = false) := Lib.hid (by rw [hRs, show (e1 == e2) = false from by simpa using p1]; simp)
    clear hRs
    go_enter Try.func35, Try.ntmps35
    go_wp2_with fail
    go_ret
    exact ⟨by rw [hR.out]; rfl, hz⟩
  | false =>
  cases p2 : (r1 != r2) with
  | true =>
    have hR : Hid (R = false) := Lib.hid (by rw [hRs, show (r1 == r2) = false from by simpa using p2]; simp)
    clear hRs
    go_enter Try.func35, Try.ntmps35
    go_wp2_with fail
    go_ret
    exact ⟨by rw [hR.out]; rfl, hz⟩
  | false =>
  cases p3 : (s1.toList != s2.toList) with
  | true =>
    have hR : Hid (R = false) := Lib.hid (by rw [hRs, show (s1.toList == s2.toList) = false from by simpa using p3]; simp)
    have p3' : (s1.toList == s2.toList) = false := by simpa using p3
    clear hRs
    go_enter Try.func35, Try.ntmps35
    go_wp2_with fail
    go_ret
    exact ⟨by rw [hR.out]; rfl, hz⟩
  | false =>
  have p3' : (s1.toList == s2.toList) = true := by simpa using p3
  cases p4 : (v1 != v2) with
  | true =>
    have hR : Hid (R = false) := Lib.hid (by rw [hRs, show (v1 == v2) = false from by simpa using p4]; simp)
    have p4' : (v1 == v2) = false := by simpa using p4
    clear hRs
    go_enter Try.func35, Try.ntmps35
    go_wp2_with fail
    go_ret
    exact ⟨by rw [hR.out]; rfl, hz⟩
  | false =>
  have p4' : (v1 == v2) = true := by simpa using p4
  obtain rfl : v1 = v2 := by simpa using p4
  have hRl : R = decide (l1 = l2) := by rw [hRs, p3', show (i1 == i2) = true from by simpa using p0, show (e1 == e2) = true from by simpa using p1, show (r1 == r2) = true from by simpa using p2]; simp
  clear hRs p4 p4'
  by_cases hn : l1.length = l2.length
  · rw [← hn] at hb ⊢
    rw [← hn] at hz
    obtain ⟨n, hn1⟩ : ∃ n, l1.length = n := ⟨_, rfl⟩
    rw [hn1] at ha hb hz hm ⊢
    have hn2 : l2.length = n := by rw [← hn, hn1]
    replace hn1 := Lib.hid hn1
    replace hn2 := Lib.hid hn2
    replace hRl := Lib.hid hRl
    have hB := (Blk.new w 38 #[.int .i64 i1, .int .i64 e1, .int .i64 r1, .string s1, .slice A n c, .bool v1]).alloc (.cells #[.int .i64 i2, .int .i64 e2, .int .i64 r2, .string s2, .slice B n d, .bool v1] 38)
    have hB2 : Blk ((w.alloc (.cells #[.int .i64 i1, .int .i64 e1, .int .i64 r1, .string s1, .slice A n c, .bool v1] 38)).alloc (.cells #[.int .i64 i2, .int .i64 e2, .int .i64 r2, .string s2, .slice B n d, .bool v1] 38)) (w.heap.size + 1) 38 _ := Blk.new_at (by simp)
    clear hn hm2
    go_enter Try.func35, Try.ntmps35
    go_wp2_with fail
    obtain ⟨w1, hw1⟩ : ∃ w1, w1 = (w.alloc (.cells #[.int .i64 i1, .int .i64 e1, .int .i64 r1, .string s1, .slice A n c, .bool v1] 38)).alloc (.cells #[.int .i64 i2, .int .i64 e2, .int .i64 r2, .string s2, .slice B n d, .bool v1] 38) := ⟨_, rfl⟩
    rw [← hw1] at hB hB2 hz ⊢
    clear hw1
    obtain ⟨jb, hjb⟩ : ∃ jb, w.heap.size = jb := ⟨_, rfl⟩
    rw [hjb] at hB hB2 ⊢
    clear hjb
    have hBc := fun W (k : Chg [] w1 W) => hB.chg k (by simp)
    have hBc2 := fun W (k : Chg [] w1 W) => hB2.chg k (by simp)
    replace hBc := Lib.hid hBc
    replace hBc2 := Lib.hid hBc2
    clear hB hB2
    go_loopw [5] (fun iv wr => ∃ k : Nat, k ≤ n ∧ iv = .int .i64 k ∧ (∀ i, (h1 : i < l1.length) → (h2 : i < l2.length) → i < k → l1[i] = l2[i]) ∧ Chg [] w1 wr) (fun iv _ => n - (intOf iv).toNat)
    case atStart => exact ⟨0, by omega, rfl, fun i _ _ h => by omega, Chg.refl _ _⟩
    case round =>
      obtain ⟨k, hk, rfl, hj, hzr⟩ := hrel
      have hzw := hz.trans' hzr
      have g4 : wr.cell? ⟨jb, 4, none⟩ = some (.slice A n c) := (hBc.out _ hzr).cell 4
      have g4' : wr.drew.cell? ⟨jb, 4, none⟩ = some (.slice A n c) := g4
      have k4 : wr.cell? ⟨jb + 1, 4, none⟩ = some (.slice B n d) := (hBc2.out _ hzr).cell 4
      have k4' : wr.drew.cell? ⟨jb + 1, 4, none⟩ = some (.slice B n d) := k4
      by_cases hlt : k < n
      · have hk1 : k < l1.length := by rw [hn1.out]; exact hlt
        have hk2 : k < l2.length := by rw [hn2.out]; exact hlt
        obtain ⟨ad, rfl, c0, c1, c2⟩ := line_cells (ha.chg hzw (by simp)) hk1
        obtain ⟨bd, rfl, d0, d1, d2⟩ := line_cells (hb.chg hzw (by simp)) hk2
        have hlt2 : (k : Int) < (n : Int) := by omega
        have hkw : IntKind.i64.wrap ((k : Int) + 1) = (k : Int) + 1 := by rw [IntKind.wrap_i64]; omega
        have hne := line_neq l1[k] l2[k]
        by_cases hx : l1[k] = l2[k]
        · have hj2 : ∀ i, (h1 : i < l1.length) → (h2 : i < l2.length) → i < k + 1 → l1[i] = l2[i] := fun i h1 h2 h3 => by
            by_cases e : i = k
            · subst e; exact hx
            · exact hj i h1 h2 (by omega)
          replace hj2 := Lib.hid hj2
          rw [decide_eq_true hx] at hne
          clear hj hx
          generalize l1[k] = x at *
          generalize l2[k] = y at *
          obtain ⟨xa, xm, xp⟩ := x
          obtain ⟨ya, ym, yp⟩ := y
          dsimp only at *
          have c0' : wr.drew.cell? (ad.add (k * 3)) = _ := c0
          have c1' : wr.drew.cell? ⟨(ad.add (k * 3)).block, (ad.add (k * 3)).off + 1, none⟩ = _ := c1
          have c2' : wr.drew.cell? ⟨(ad.add (k * 3)).block, (ad.add (k * 3)).off + 2, none⟩ = _ := c2
          have d0' : wr.drew.cell? (bd.add (k * 3)) = _ := d0
          have d1' : wr.drew.cell? ⟨(bd.add (k * 3)).block, (bd.add (k * 3)).off + 1, none⟩ = _ := d1
          have d2' : wr.drew.cell? ⟨(bd.add (k * 3)).block, (bd.add (k * 3)).off + 2, none⟩ = _ := d2
          go_wp2_with fail
          go_region
          go_wp2_with fail
          exact ⟨⟨k + 1, by omega, by go_num, hj2.out, hzr.drew⟩, by simp [intOf]; omega⟩
        · have hR : Hid (R = false) := Lib.hid (by
            rw [hRl.out, decide_eq_false_iff_not]
            intro e
            subst e
            exact hx rfl)
          rw [decide_eq_false hx] at hne
          clear hj hx
          generalize l1[k] = x at *
          generalize l2[k] = y at *
          obtain ⟨xa, xm, xp⟩ := x
          obtain ⟨ya, ym, yp⟩ := y
          dsimp only at *
          have c0' : wr.drew.cell? (ad.add (k * 3)) = _ := c0
          have c1' : wr.drew.cell? ⟨(ad.add (k * 3)).block, (ad.add (k * 3)).off + 1, none⟩ = _ := c1
          have c2' : wr.drew.cell? ⟨(ad.add (k * 3)).block, (ad.add (k * 3)).off + 2, none⟩ = _ := c2
          have d0' : wr.drew.cell? (bd.add (k * 3)) = _ := d0
          have d1' : wr.drew.cell? ⟨(bd.add (k * 3)).block, (bd.add (k * 3)).off + 1, none⟩ = _ := d1
          have d2' : wr.drew.cell? ⟨(bd.add (k * 3)).block, (bd.add (k * 3)).off + 2, none⟩ = _ := d2
          go_wp2_with fail
          go_region
          go_wp2_with fail
          go_ret
          exact ⟨by rw [hR.out]; rfl, hzw.drew⟩
      · obtain rfl : k = n := by omega
        have hR : Hid (R = true) := Lib.hid (by
          rw [hRl.out, decide_eq_true_iff]
          exact List.ext_getElem (by rw [hn1.out, hn2.out]) (fun i h1 h2 => hj i h1 h2 (by rw [hn1.out] at h1; exact h1)))
        clear hj
        go_wp2_with fail
        go_ret
        exact ⟨by rw [hR.out]; rfl, hzw⟩
  · have hR : Hid (R = false) := Lib.hid (by rw [hRl, decide_eq_false_iff_not]; intro e; exact hn (by rw [e]))
    have p5 : ((l1.length : Int) != (l2.length : Int)) = true := by simp; omega
    clear hRl hn
    go_enter Try.func35, Try.ntmps35
    go_wp2_with fail
    go_ret
    exact ⟨by rw [hR.out]; rfl, hz⟩
end Go.Proofs.Ytlbkjhfnpjbjlaa
/- Journals: alike ones (entry.Same, slices.EqualFunc, SameJournals), where they are alike. -/
namespace Go.Proofs.Ytlbkjhfnpjbjlaa
open Go.RowKit Go.Vx
set_option linter.unusedVariables false
set_option linter.unusedSimpArgs false

/-- The journals of a row, each with its lines. -/
def RowOk (w : World) (A : Option Addr) (n : Nat) (X : List JV) : Prop := Go.Vx.Src w 6 A n (X.flatMap jvEnc) ∧ (∀ x ∈ X, JOk w x) ∧ (∀ x ∈ X, x.j.lines.length ≤ 1000000) ∧ X.length = n
theorem RowOk.keep {w w' : World} {A : Option Addr} {n : Nat} {X : List JV} (h : RowOk w A n X) (k : Chg [] w w') : RowOk w' A n X := ⟨h.1.chg k (by simp), fun x hx => (h.2.1 x hx).keep k, h.2.2⟩
theorem RowOk.cells {w : World} {A : Option Addr} {n : Nat} {X : List JV} (h : RowOk w A n X) {i : Nat} (hi : i < X.length) : ∃ ad Ap cp, A = some ad ∧ w.cell? (ad.add (i * 6)) = some (.int .i64 X[i].j.id) ∧ w.cell? ⟨(ad.add (i * 6)).block, (ad.add (i * 6)).off + 1, none⟩ = some (.int .i64 X[i].j.ent) ∧ w.cell? ⟨(ad.add (i * 6)).block, (ad.add (i * 6)).off + 2, none⟩ = some (.int .i64 X[i].j.per) ∧
    w.cell? ⟨(ad.add (i * 6)).block, (ad.add (i * 6)).off + 3, none⟩ = some (.string X[i].j.ref) ∧ w.cell? ⟨(ad.add (i * 6)).block, (ad.add (i * 6)).off + 4, none⟩ = some (.slice Ap X[i].j.lines.length cp) ∧ w.cell? ⟨(ad.add (i * 6)).block, (ad.add (i * 6)).off + 5, none⟩ = some (.bool X[i].j.void) ∧
    Go.Vx.Src w 3 Ap X[i].j.lines.length (X[i].j.lines.flatMap lnEnc) ∧ X[i].j.lines.length ≤ 1000000 := by
  obtain ⟨ad, ha, c0, c1, c2, c3, c4, c5⟩ := jv_cells h.1 hi
  obtain ⟨Ap, cp, hp, hs⟩ := h.2.1 _ (List.getElem_mem hi)
  rw [hp] at c4
  exact ⟨ad, Ap, cp, ha, c0, c1, c2, c3, c4, c5, hs, h.2.2.1 _ (List.getElem_mem hi)⟩
set_option maxRecDepth 100000 in
set_option maxHeartbeats 4000000 in
theorem bk_samej {w : World} {A B : Option Addr} {n c d : Nat} {X Y : List JV} (ha : RowOk w A n X) (hb : RowOk w B n Y) (hn : n ≤ 1000000) (hxy : jns X = jns Y) :
    Calls Try.prog 19 #[.slice A n c, .slice B n d] w fun e w' => e = .returned (.bool true) ∧ Chg [] w w' := by
  have hlX := Lib.hid ha.2.2.2
  have hlY := Lib.hid hb.2.2.2
  replace hxy := Lib.hid hxy
  replace ha := Lib.hid ha
  replace hb := Lib.hid hb
  go_enter Try.func19, Try.ntmps19
  go_wp2_with fail
  go_loopw [5] (fun iv wr => ∃ k : Nat, k ≤ n ∧ iv = .int .i64 k ∧ Chg [] w wr) (fun iv _ => n - (intOf iv).toNat)
  case atStart => exact ⟨0, by omega, rfl, Chg.refl _ _⟩
  case round =>
    obtain ⟨k, hk, rfl, hzr⟩ := hrel
    by_cases hlt : k < n
    · have hkx : k < X.length := by rw [hlX.out]; exact hlt
      have hky : k < Y.length := by rw [hlY.out]; exact hlt
      have hjj : Y[k].j = X[k].j := by
        have h1 : (jns X)[k]'(by rw [List.length_map]; exact hkx) = X[k].j := List.getElem_map _
        have h2 : (jns Y)[k]'(by rw [List.length_map]; exact hky) = Y[k].j := List.getElem_map _
        rw [← h1, ← h2]
        congr 1
        exact hxy.out.symm
      obtain ⟨ad, Ap, cp, rfl, c0, c1, c2, c3, c4, c5, hsa, hma⟩ := (ha.out.keep hzr).cells hkx
      obtain ⟨bd, Bp, dp, rfl, d0, d1, d2, d3, d4, d5, hsb, hmb⟩ := (hb.out.keep hzr).cells hky
      rw [hjj] at d0 d1 d2 d3 d4 d5 hsb hmb
      have hlt2 : (k : Int) < (n : Int) := by omega
      have hkw : IntKind.i64.wrap ((k : Int) + 1) = (k : Int) + 1 := by rw [IntKind.wrap_i64]; omega
      have hsm := r1_same X[k].j X[k].j (c := cp) (d := dp) (hsa.chg (Chg.refl [] wr).drew (by simp)) (hsb.chg (Chg.refl [] wr).drew (by simp)) hma hma
      have hself : sameN X[k].j X[k].j = true := by simp [sameN]
      rw [hself] at hsm
      clear hjj hsa hsb hself
      generalize X[k].j = j at *
      obtain ⟨i, e, r, s, l, v⟩ := j
      unfold jnV at hsm
      dsimp only at *
      have f0 : wr.drew.cell? (ad.add (k * 6)) = _ := c0
      have f1 : wr.drew.cell? ⟨(ad.add (k * 6)).block, (ad.add (k * 6)).off + 1, none⟩ = _ := c1
      have f2 : wr.drew.cell? ⟨(ad.add (k * 6)).block, (ad.add (k * 6)).off + 2, none⟩ = _ := c2
      have f3 : wr.drew.cell? ⟨(ad.add (k * 6)).block, (ad.add (k * 6)).off + 3, none⟩ = _ := c3
      have f4 : wr.drew.cell? ⟨(ad.add (k * 6)).block, (ad.add (k * 6)).off + 4, none⟩ = _ := c4
      have f5 : wr.drew.cell? ⟨(ad.add (k * 6)).block, (ad.add (k * 6)).off + 5, none⟩ = _ := c5
      have g0 : wr.drew.cell? (bd.add (k * 6)) = _ := d0
      have g1 : wr.drew.cell? ⟨(bd.add (k * 6)).block, (bd.add (k * 6)).off + 1, none⟩ = _ := d1
      have g2 : wr.drew.cell? ⟨(bd.add (k * 6)).block, (bd.add (k * 6)).off + 2, none⟩ = _ := d2
      have g3 : wr.drew.cell? ⟨(bd.add (k * 6)).block, (bd.add (k * 6)).off + 3, none⟩ = _ := d3
      have g4 : wr.drew.cell? ⟨(bd.add (k * 6)).block, (bd.add (k * 6)).off + 4, none⟩ = _ := d4
      have g5 : wr.drew.cell? ⟨(bd.add (k * 6)).block, (bd.add (k * 6)).off + 5, none⟩ = _ := d5
      replace hsm := Lib.hid hsm
      go_wp2_with fail
      go_region_law (go_simp; go_at_call 35; refine hsm.out.mono ?_; rintro e' w2 ⟨rfl, hz3⟩)
      all_goals
        go_wp2_with fail
        exact ⟨⟨k + 1, by omega, by go_num, hzr.drew.trans' hz3⟩, by simp [intOf]; omega⟩
    · obtain rfl : k = n := by omega
      go_wp2_with fail
      go_ret
      exact ⟨rfl, hzr⟩
end Go.Proofs.Ytlbkjhfnpjbjlaa
/- The money's Split, what it comes to: plain law. -/
namespace Go.Vx
open Go.Proofs.Ytlbkjhfnpjbjlaa
set_option linter.unusedVariables false
set_option linter.unusedSimpArgs false

def partIs (k : Nat) (x : Cut) : Bool := x.2.toNat == k
theorem bumps_len : ∀ (S : List Cut) (ps : List Nat), (bumps ps S).length = ps.length
  | [], ps => rfl
  | x :: S, ps => by rw [bumps, bumps_len S, bump_len]
theorem bumps_sum : ∀ (S : List Cut) (ps : List Nat), (∀ x ∈ S, x.2.toNat < ps.length) → (bumps ps S).sum = ps.sum + S.length
  | [], ps, _ => rfl
  | x :: S, ps, h => by
    rw [bumps, bumps_sum S _ (fun y hy => by rw [bump_len]; exact h y (by simp [hy])), bump_sum (h x (by simp)), List.length_cons]
    omega
theorem bumps_nth (k : Nat) : ∀ (S : List Cut) (ps : List Nat), (∀ x ∈ S, x.2.toNat < ps.length) → nth (bumps ps S) k = nth ps k + S.countP (partIs k)
  | [], ps, _ => rfl
  | x :: S, ps, h => by
    rw [bumps, bumps_nth k S _ (fun y hy => by rw [bump_len]; exact h y (by simp [hy])), bump, at_set (h x (by simp)), List.countP_cons]
    unfold partIs
    by_cases e : k = x.2.toNat
    · subst e; simp; omega
    · rw [if_neg e]
      have : (x.2.toNat == k) = false := by simp; omega
      simp [this]
theorem cuts_count (N W : Nat) (ws : List Nat) (k : Nat) : ∀ n, (cutsTo N W ws n).countP (partIs k) = if k < n then 1 else 0
  | 0 => by simp [cutsTo]
  | n + 1 => by
    rw [cutsTo, (ins_perm _ _).countP_eq, List.countP_cons, cuts_count N W ws k n]
    unfold partIs
    simp only [Int.toNat_natCast]
    by_cases e : n = k
    · subst e; simp
    · by_cases h : k < n
      · simp [h, e, show k < n + 1 by omega]
      · simp [h, e, show ¬ k < n + 1 by omega]
theorem cuts_srt (N W : Nat) (ws : List Nat) : ∀ n, Srt cutLt (cutsTo N W ws n)
  | 0 => List.Pairwise.nil
  | n + 1 => ins_srt cutLin _ _ (cuts_srt N W ws n)
theorem cuts_sum (N W : Nat) (ws : List Nat) : ∀ n, n ≤ ws.length → ((cutsTo N W ws n).map fun x => x.1.toNat).sum = ((ws.take n).map fun x => N * x % W).sum
  | 0, _ => by simp [cutsTo]
  | n + 1, h => by
    rw [cutsTo, ((ins_perm (lt := cutLt) _ _).map _).sum_nat, List.map_cons, List.sum_cons, cuts_sum N W ws n (by omega), List.take_add_one, List.map_append, List.sum_append]
    have e : rAt N W ws n = N * ws[n] % W := by rw [rAt, at_eq h]
    rw [e]
    simp only [show n < ws.length from h, List.getElem?_eq_getElem, Option.toList_some, List.map_cons, List.map_nil, List.sum_cons, List.sum_nil, Int.toNat_natCast]
    omega
section
variable {N W : Nat} {ws : List Nat} (hW : 0 < W) (hs : ws.sum = W)
include hW hs
theorem left_mul : (N - (parts0 N W ws ws.length).sum) * W = (ws.map fun x => N * x % W).sum := by
  have h1 := sum_mul N W hW ws
  have h3 : parts0 N W ws ws.length = ws.map fun x => N * x / W := by unfold parts0; rw [List.take_length]
  rw [h3, Nat.sub_mul]
  rw [hs] at h1
  omega
omit hW hs in
theorem split_len : (splitN N W ws).length = ws.length := by
  unfold splitN
  rw [bumps_len, parts0_len (Nat.le_refl _)]
omit hW hs in
theorem cut_in (L : Nat) : ∀ x ∈ (cutsTo N W ws ws.length).take L, x.2.toNat < (parts0 N W ws ws.length).length := fun x hx => by
  obtain ⟨i, hi, rfl⟩ := cutsTo_mem N W ws _ x (List.mem_of_mem_take hx)
  rw [parts0_len (Nat.le_refl _)]
  simpa using hi
theorem split_sum : (splitN N W ws).sum = N := by
  have h1 := parts0_sum (N := N) hW hs ws.length
  have h2 := left_le (N := N) hW hs
  unfold splitN
  rw [bumps_sum _ _ (cut_in _), List.length_take, cutsTo_len]
  omega
omit hW hs in
theorem pick_spec {k : Nat} (hk : k < ws.length) :
    (nth (splitN N W ws) k = qAt N W ws k ∧ (((rAt N W ws k : Nat) : Int), ((k : Nat) : Int)) ∈ (cutsTo N W ws ws.length).drop (N - (parts0 N W ws ws.length).sum)) ∨
    (nth (splitN N W ws) k = qAt N W ws k + 1 ∧ (((rAt N W ws k : Nat) : Int), ((k : Nat) : Int)) ∈ (cutsTo N W ws ws.length).take (N - (parts0 N W ws ws.length).sum)) := by
  have hq : nth (parts0 N W ws ws.length) k = qAt N W ws k := by
    have e : parts0 N W ws ws.length = ws.map fun x => N * x / W := by unfold parts0; rw [List.take_length]
    rw [e, at_eq (by simpa using hk), List.getElem_map, qAt, at_eq hk]
  have hc := cuts_count N W ws k ws.length
  rw [if_pos hk] at hc
  have hm := cutsTo_mem N W ws ws.length
  have hn := bumps_nth k ((cutsTo N W ws ws.length).take (N - (parts0 N W ws ws.length).sum)) (parts0 N W ws ws.length) (cut_in _)
  rw [hq] at hn
  have hsp : splitN N W ws = bumps (parts0 N W ws ws.length) ((cutsTo N W ws ws.length).take (N - (parts0 N W ws ws.length).sum)) := rfl
  rw [hsp, hn]
  generalize N - (parts0 N W ws ws.length).sum = L
  generalize cutsTo N W ws ws.length = C at *
  have hsplit : (C.take L).countP (partIs k) + (C.drop L).countP (partIs k) = 1 := by rw [← List.countP_append, List.take_append_drop, hc]
  have hin : ∀ l : List Cut, (∀ x ∈ l, x ∈ C) → 0 < l.countP (partIs k) → (((rAt N W ws k : Nat) : Int), ((k : Nat) : Int)) ∈ l := by
    intro l hl h0
    obtain ⟨x, hx, hp⟩ := List.countP_pos_iff.1 h0
    obtain ⟨i, hi, rfl⟩ := hm x (hl x hx)
    simp [partIs] at hp
    subst hp
    exact hx
  rcases Nat.eq_zero_or_pos ((C.take L).countP (partIs k)) with h | h
  · rw [h]
    exact .inl ⟨rfl, hin _ (fun x hx => List.mem_of_mem_drop hx) (by omega)⟩
  · have e : (C.take L).countP (partIs k) = 1 := by omega
    rw [e]
    exact .inr ⟨rfl, hin _ (fun x hx => List.mem_of_mem_take hx) h⟩
omit hW hs in
theorem cut_order (L : Nat) {x y : Cut} (hx : x ∈ (cutsTo N W ws ws.length).take L) (hy : y ∈ (cutsTo N W ws ws.length).drop L) : cutLt y x = false := by
  have h := cuts_srt N W ws ws.length
  rw [← List.take_append_drop L (cutsTo N W ws ws.length)] at h
  exact (List.pairwise_append.1 h).2.2 x hx y hy
/-- A weight of 0 has nothing. -/
theorem split_zero {k : Nat} (hk : k < ws.length) (h0 : nth ws k = 0) : nth (splitN N W ws) k = 0 := by
  have hq : qAt N W ws k = 0 := by simp [qAt, h0]
  have hr : rAt N W ws k = 0 := by simp [rAt, h0]
  rcases pick_spec hk (N := N) (W := W) with ⟨e, -⟩ | ⟨-, hin⟩
  · rw [e, hq]
  · exfalso
    rw [hr] at hin
    have hL := left_mul (N := N) hW hs
    have hsum := cuts_sum N W ws ws.length (Nat.le_refl _)
    rw [List.take_length, ← hL] at hsum
    have hord := fun y => cut_order (N - (parts0 N W ws ws.length).sum) hin (y := y)
    have hm := cutsTo_mem N W ws ws.length
    generalize N - (parts0 N W ws ws.length).sum = L at *
    generalize cutsTo N W ws ws.length = C at *
    rw [← List.take_append_drop L C, List.map_append, List.sum_append] at hsum
    have hd : ((C.drop L).map fun x => x.1.toNat).sum = 0 := by
      have : ∀ x ∈ C.drop L, x.1.toNat = 0 := fun x hx => by
        have := hord x hx
        simp [cutLt] at this
        omega
      generalize C.drop L = D at *
      clear hsum hord hin
      induction D with
      | nil => rfl
      | cons x D ih => rw [List.map_cons, List.sum_cons, this x (by simp), ih fun y hy => this y (by simp [hy])]
    have ht : ∀ l : List Cut, (∀ x ∈ l, x.1.toNat < W) → ((l.map fun x => x.1.toNat).sum ≤ l.length * W) ∧ ((0, ((k : Nat) : Int)) ∈ l → (l.map fun x => x.1.toNat).sum < l.length * W) := by
      intro l hl
      induction l with
      | nil => simp
      | cons x l ih =>
        obtain ⟨i1, i2⟩ := ih fun y hy => hl y (by simp [hy])
        have h1 := hl x (by simp)
        simp only [List.map_cons, List.sum_cons, List.length_cons, Nat.add_mul, List.mem_cons]
        refine ⟨by omega, fun h => ?_⟩
        rcases h with h | h
        · have e : x.1.toNat = 0 := by rw [← h]; rfl
          omega
        · have := i2 h
          omega
    have hlt := (ht (C.take L) (fun x hx => by
      obtain ⟨i, hi, rfl⟩ := hm x (List.mem_of_mem_take hx)
      simp [rAt]
      exact Nat.mod_lt _ hW)).2 hin
    have hlen : (C.take L).length * W ≤ L * W := Nat.mul_le_mul_right _ (by simp; omega)
    omega
/-- A greater weight never has less. -/
theorem split_mono {i k : Nat} (hi : i < ws.length) (hk : k < ws.length) (h : nth ws k < nth ws i) : nth (splitN N W ws) k ≤ nth (splitN N W ws) i := by
  rcases Nat.eq_zero_or_pos N with hN | hN
  · have h1 := le_sum (ps := splitN N W ws) (i := k) (by rw [split_len]; exact hk)
    rw [split_sum hW hs] at h1
    omega
  have hq : qAt N W ws k ≤ qAt N W ws i := Nat.div_le_div_right (Nat.mul_le_mul_left N (Nat.le_of_lt h))
  rcases pick_spec hk (N := N) (W := W) with ⟨e1, m1⟩ | ⟨e1, m1⟩ <;> rcases pick_spec hi (N := N) (W := W) with ⟨e2, m2⟩ | ⟨e2, m2⟩
  · omega
  · omega
  · rcases Nat.lt_or_ge (qAt N W ws k) (qAt N W ws i) with hlt | hge
    · omega
    · exfalso
      have ho := cut_order _ m1 m2
      have d1 := Nat.div_add_mod (N * nth ws k) W
      have d2 := Nat.div_add_mod (N * nth ws i) W
      have e3 : qAt N W ws k = qAt N W ws i := by omega
      unfold qAt at e3
      rw [e3] at d1
      have h3 : N * nth ws k < N * nth ws i := Nat.mul_lt_mul_of_pos_left h hN
      unfold rAt at ho
      generalize N * nth ws k % W = a at *
      generalize N * nth ws i % W = b at *
      simp [cutLt] at ho
      omega
  · omega
omit hW hs in
theorem split_near {k : Nat} (hk : k < ws.length) : N * nth ws k / W ≤ nth (splitN N W ws) k ∧ nth (splitN N W ws) k ≤ N * nth ws k / W + 1 := by
  rcases pick_spec hk (N := N) (W := W) with ⟨e, -⟩ | ⟨e, -⟩ <;> rw [e] <;> unfold qAt <;> omega
end
/-- An amount's part with its sign. -/
def sg (a : Int) (x : Nat) : Int := if a < 0 then -(x : Int) else x
theorem sg_sum (a : Int) : ∀ T : List Nat, (T.map (sg a)).sum = sg a T.sum
  | [] => by unfold sg; split <;> rfl
  | x :: T => by
    rw [List.map_cons, List.sum_cons, sg_sum a T, List.sum_cons]
    unfold sg
    split <;> omega
theorem sg_abs (a : Int) : sg a a.natAbs = a := by
  unfold sg
  split <;> omega
theorem low_of {N x W : Nat} (hW : 0 < W) : N / W * x + N % W * x / W = N * x / W := by
  have h := Nat.div_add_mod N W
  have : N * x = W * (N / W * x) + N % W * x := by
    conv => lhs; rw [← h]
    rw [Nat.add_mul, Nat.mul_assoc]
  rw [this, Nat.add_comm (W * _), Nat.add_mul_div_left _ _ hW, Nat.add_comm]
end Go.Vx
/- The reference's Split: it picks the parts in the order of the losses. Plain law. -/
namespace Go.Vx
open Go.Proofs.Ytlbkjhfnpjbjlaa
set_option linter.unusedVariables false
set_option linter.unusedSimpArgs false

/-- The place of the greatest number among the first k + 1, the first of equal ones. -/
def bst (c : List Int) : Nat → Nat
  | 0 => 0
  | k + 1 => if nth c (bst c k) < nth c (k + 1) then k + 1 else bst c k
theorem bst_spec (c : List Int) : ∀ k, bst c k ≤ k ∧ (∀ j, j ≤ k → nth c j ≤ nth c (bst c k)) ∧ ∀ j, j < bst c k → nth c j < nth c (bst c k)
  | 0 => ⟨Nat.le_refl _, fun j h => by rw [show j = 0 by omega]; exact Int.le_refl _, fun j h => absurd h (by simp [bst])⟩
  | k + 1 => by
    obtain ⟨h1, h2, h3⟩ := bst_spec c k
    unfold bst
    split
    · rename_i h
      refine ⟨Nat.le_refl _, fun j hj => ?_, fun j hj => ?_⟩
      · rcases Nat.lt_or_ge j (k + 1) with h' | h'
        · have := h2 j (by omega); omega
        · rw [show j = k + 1 by omega]; exact Int.le_refl _
      · have := h2 j (by omega); omega
    · rename_i h
      refine ⟨by omega, fun j hj => ?_, h3⟩
      rcases Nat.lt_or_ge j (k + 1) with h' | h'
      · exact h2 j (by omega)
      · rw [show j = k + 1 by omega]; omega
theorem bst_eq (c : List Int) (k x : Nat) (hx : x ≤ k) (h1 : ∀ j, j ≤ k → nth c j ≤ nth c x) (h2 : ∀ j, j < x → nth c j < nth c x) : bst c k = x := by
  obtain ⟨b1, b2, b3⟩ := bst_spec c k
  rcases Nat.lt_trichotomy (bst c k) x with h | h | h
  · have := h2 _ h
    have := b2 x hx
    omega
  · exact h
  · have := b3 x h
    have := h1 _ b1
    omega
section
variable (N W : Nat) (ws : List Nat)
def lossCut (i : Nat) : Cut := (((rAt N W ws i : Nat) : Int), ((i : Nat) : Int))
/-- The losses behind t picks. -/
def cutRow (t : Nat) : List Int := (List.range ws.length).map fun i => if lossCut N W ws i ∈ (cutsTo N W ws ws.length).take t then -1 else ((rAt N W ws i : Nat) : Int)
def outRowN (t : Nat) : List Nat := bumps (parts0 N W ws ws.length) ((cutsTo N W ws ws.length).take t)
def pickAt (t : Nat) : Nat := (nth (cutsTo N W ws ws.length) t).2.toNat
variable {N W ws}
theorem cutRow_len (t : Nat) : (cutRow N W ws t).length = ws.length := by simp [cutRow]
theorem cutRow_at {t i : Nat} (hi : i < ws.length) : nth (cutRow N W ws t) i = if lossCut N W ws i ∈ (cutsTo N W ws ws.length).take t then -1 else ((rAt N W ws i : Nat) : Int) := by
  rw [at_eq (by rw [cutRow_len]; exact hi)]
  simp [cutRow]
theorem cutRow_zero {i : Nat} (hi : i < ws.length) : nth (cutRow N W ws 0) i = ((rAt N W ws i : Nat) : Int) := by
  rw [cutRow_at hi]
  simp
theorem bumps_snoc : ∀ (S : List Cut) (ps : List Nat) (x : Cut), bumps ps (S ++ [x]) = bump (bumps ps S) x.2.toNat
  | [], ps, x => rfl
  | y :: S, ps, x => bumps_snoc S (bump ps y.2.toNat) x
theorem pick_lt {t : Nat} (ht : t < ws.length) : pickAt N W ws t < ws.length ∧ nth (cutsTo N W ws ws.length) t = lossCut N W ws (pickAt N W ws t) := by
  have hl := cutsTo_len N W ws ws.length
  have hm : nth (cutsTo N W ws ws.length) t ∈ cutsTo N W ws ws.length := by rw [at_eq (by omega)]; exact List.getElem_mem _
  obtain ⟨i, hi, e⟩ := cutsTo_mem N W ws _ _ hm
  unfold pickAt
  rw [e]
  simp only [Int.toNat_natCast]
  exact ⟨hi, rfl⟩
theorem take_pick {t : Nat} (ht : t < ws.length) : (cutsTo N W ws ws.length).take (t + 1) = (cutsTo N W ws ws.length).take t ++ [lossCut N W ws (pickAt N W ws t)] := by
  have hl := cutsTo_len N W ws ws.length
  rw [List.take_succ_eq_append_getElem (by omega), ← (pick_lt ht).2, at_eq (by omega)]
theorem outRow_succ {t : Nat} (ht : t < ws.length) : outRowN N W ws (t + 1) = bump (outRowN N W ws t) (pickAt N W ws t) := by
  unfold outRowN
  rw [take_pick ht, bumps_snoc]
  simp [lossCut]
theorem outRow_len (t : Nat) : (outRowN N W ws t).length = ws.length := by
  unfold outRowN
  rw [bumps_len, parts0_len (Nat.le_refl _)]
theorem cuts_all {i : Nat} (hi : i < ws.length) : lossCut N W ws i ∈ cutsTo N W ws ws.length := by
  have hc := cuts_count N W ws i ws.length
  rw [if_pos hi] at hc
  have h0 : 0 < (cutsTo N W ws ws.length).countP (partIs i) := by omega
  obtain ⟨x, hx, hp⟩ := List.countP_pos_iff.1 h0
  obtain ⟨j, hj, rfl⟩ := cutsTo_mem N W ws _ x hx
  simp [partIs] at hp
  subst hp
  exact hx
theorem cuts_nodup' : ∀ k, (cutsTo N W ws k).Nodup
  | 0 => List.nodup_nil
  | k + 1 => by
    rw [cutsTo, (ins_perm _ _).nodup_iff, List.nodup_cons]
    refine ⟨fun h => ?_, cuts_nodup' k⟩
    obtain ⟨i, hi, e⟩ := cutsTo_mem N W ws k _ h
    injection e with _ e
    omega
theorem cuts_nodup : (cutsTo N W ws ws.length).Nodup := cuts_nodup' _
theorem lossCut_inj {i j : Nat} (h : lossCut N W ws i = lossCut N W ws j) : i = j := by
  unfold lossCut at h
  injection h with _ h
  omega
theorem cutRow_succ {t : Nat} (ht : t < ws.length) : cutRow N W ws (t + 1) = (cutRow N W ws t).set (pickAt N W ws t) (-1) := by
  apply List.ext_getElem (by simp [cutRow_len])
  intro i h1 h2
  rw [cutRow_len] at h1
  rw [List.getElem_set]
  simp only [cutRow, List.getElem_map, List.getElem_range, take_pick ht, List.mem_append, List.mem_singleton]
  by_cases e : pickAt N W ws t = i
  · rw [if_pos e, if_pos (.inr (by rw [e]))]
  · rw [if_neg e]
    have : ¬ lossCut N W ws i = lossCut N W ws (pickAt N W ws t) := fun h => e (lossCut_inj h).symm
    simp [this]
theorem bst_pick {t : Nat} (ht : t < ws.length) : bst (cutRow N W ws t) (ws.length - 1) = pickAt N W ws t := by
  obtain ⟨hp, he⟩ := pick_lt (N := N) (W := W) ht
  have hl := cutsTo_len N W ws ws.length
  have hn := cuts_nodup (N := N) (W := W) (ws := ws)
  have hnot : lossCut N W ws (pickAt N W ws t) ∉ (cutsTo N W ws ws.length).take t := by
    intro hm
    rw [← he, at_eq (by omega)] at hm
    obtain ⟨j, hj, e⟩ := List.mem_iff_getElem.1 hm
    rw [List.getElem_take] at e
    simp at hj
    exact List.pairwise_iff_getElem.1 hn j t (by omega) (by omega) (by omega) e
  have hval : nth (cutRow N W ws t) (pickAt N W ws t) = ((rAt N W ws (pickAt N W ws t) : Nat) : Int) := by rw [cutRow_at hp, if_neg hnot]
  have hcmp : ∀ j, j < ws.length → j ≠ pickAt N W ws t → nth (cutRow N W ws t) j = -1 ∨ (nth (cutRow N W ws t) j = ((rAt N W ws j : Nat) : Int) ∧ cutLt (lossCut N W ws j) (lossCut N W ws (pickAt N W ws t)) = false) := by
    intro j hj hne
    rw [cutRow_at hj]
    by_cases hm : lossCut N W ws j ∈ (cutsTo N W ws ws.length).take t
    · rw [if_pos hm]; exact .inl rfl
    · rw [if_neg hm]
      refine .inr ⟨rfl, ?_⟩
      have hd : lossCut N W ws j ∈ (cutsTo N W ws ws.length).drop (t + 1) := by
        have h1 := cuts_all (N := N) (W := W) hj
        rw [← List.take_append_drop (t + 1) (cutsTo N W ws ws.length), take_pick ht, List.mem_append, List.mem_append, List.mem_singleton] at h1
        rcases h1 with (h1 | h1) | h1
        · exact absurd h1 hm
        · exact absurd (lossCut_inj h1) hne
        · exact h1
      have hs := cuts_srt N W ws ws.length
      rw [← List.take_append_drop (t + 1) (cutsTo N W ws ws.length), take_pick ht] at hs
      exact (List.pairwise_append.1 hs).2.2 (lossCut N W ws (pickAt N W ws t)) (by simp) _ hd
  have key : ∀ j, j < ws.length → j ≠ pickAt N W ws t → nth (cutRow N W ws t) j < nth (cutRow N W ws t) (pickAt N W ws t) ∨ (nth (cutRow N W ws t) j = nth (cutRow N W ws t) (pickAt N W ws t) ∧ pickAt N W ws t < j) := by
    intro j hj hne
    rcases hcmp j hj hne with h | ⟨h, h2⟩
    · left; rw [h, hval]; omega
    · rw [h, hval]
      simp [cutLt, lossCut] at h2
      omega
  refine bst_eq _ _ _ (by omega) (fun j hj => ?_) (fun j hj => ?_)
  · by_cases e : j = pickAt N W ws t
    · rw [e]; exact Int.le_refl _
    · have := key j (by omega) e; omega
  · have := key j (by omega) (by omega)
    omega
theorem outRow_end : outRowN N W ws (N - (parts0 N W ws ws.length).sum) = splitN N W ws := rfl
end
end Go.Vx
/- The reference's Fits. -/
namespace Go.Proofs.Ytlbkjhfnpjbjlaa
open Go.RowKit Go.Vx
set_option linter.unusedVariables false
set_option linter.unusedSimpArgs false

theorem r_fits (a : Int) (w : World) : Calls Try.prog 24 #[.int .i64 a] w fun e w' => e = .returned (.bool (okM a)) ∧ w = w' := by
  by_cases h1 : a < -1000000000000000
  · have e : okM a = false := okM_not.2 (.inl h1)
    have b1 : decide (-1000000000000000 ≤ a) = false := by simp; omega
    rw [e]
    go_enter Try.func24, Try.ntmps24
    go_wp2
    go_ret
    exact ⟨by trivial, rfl⟩
  have b1 : decide (-1000000000000000 ≤ a) = true := by simp; omega
  by_cases h2 : 1000000000000000 < a
  · have e : okM a = false := okM_not.2 (.inr h2)
    have b2 : decide (a ≤ 1000000000000000) = false := by simp; omega
    rw [e]
    go_enter Try.func24, Try.ntmps24
    go_wp2
    go_ret
    exact ⟨by trivial, rfl⟩
  · have e : okM a = true := okM_iff.2 (by omega)
    have b2 : decide (a ≤ 1000000000000000) = true := by simp; omega
    rw [e]
    go_enter Try.func24, Try.ntmps24
    go_wp2
    go_ret
    exact ⟨by trivial, rfl⟩
end Go.Proofs.Ytlbkjhfnpjbjlaa
/- The reference's Split: the walk. -/
namespace Go.Proofs.Ytlbkjhfnpjbjlaa
open Go.RowKit Go.Vx
set_option linter.unusedVariables false
set_option linter.unusedSimpArgs false

/-- A row of numbers that is being filled: the first k stand. -/
def fillTo (T : List Int) (k : Nat) : List Value := ((T.take k) ++ List.replicate (T.length - k) 0).map (Value.int .i64)
theorem fillTo_zero (T : List Int) : fillTo T 0 = List.replicate T.length (.int .i64 0) := by simp [fillTo]
theorem fillTo_end (T : List Int) {k : Nat} (h : k = T.length) : fillTo T k = T.map (Value.int .i64) := by subst h; simp [fillTo]
theorem fillTo_set {T : List Int} {k : Nat} (hk : k < T.length) : (fillTo T k).set k (.int .i64 (nth T k)) = fillTo T (k + 1) := by
  have e : T.length - k = (T.length - (k + 1)) + 1 := by omega
  have hm : (T.take k).length = k := by simp; omega
  unfold fillTo
  rw [e, List.replicate_succ, List.map_append, List.map_cons, List.set_append_right _ _ (by rw [List.length_map, hm]; exact Nat.le_refl _), List.length_map, hm, Nat.sub_self, List.set_cons_zero, List.take_succ_eq_append_getElem hk, List.map_append, List.map_append, List.append_assoc, at_eq hk]
  rfl
theorem ints_set {T : List Int} {k : Nat} {x : Int} : (T.map (Value.int .i64)).set k (.int .i64 x) = (T.set k x).map (Value.int .i64) := by rw [List.map_set]
def natsI (T : List Nat) : List Int := T.map fun x : Nat => (x : Int)
theorem natsI_len (T : List Nat) : (natsI T).length = T.length := by simp [natsI]
theorem natsI_nth {T : List Nat} {k : Nat} (hk : k < T.length) : nth (natsI T) k = ((nth T k : Nat) : Int) := by
  unfold natsI
  rw [at_eq (by simpa using hk), at_eq hk, List.getElem_map]
theorem natsI_set {T : List Nat} {k x : Nat} : (natsI T).set k ((x : Nat) : Int) = natsI (T.set k x) := by simp [natsI, List.map_set]
/-- The first k have the other sign. -/
def negTo (T : List Nat) (k : Nat) : List Int := (T.take k).map (fun x : Nat => -(x : Int)) ++ (T.drop k).map fun x : Nat => (x : Int)
theorem negTo_len (T : List Nat) (k : Nat) : (negTo T k).length = T.length := by simp [negTo]; omega
theorem negTo_nth {T : List Nat} {k : Nat} (hk : k < T.length) : nth (negTo T k) k = ((nth T k : Nat) : Int) := by
  rw [at_eq (by rw [negTo_len]; exact hk), at_eq hk]
  unfold negTo
  rw [List.getElem_append_right (by simp; omega)]
  simp [show min k T.length = k by omega]
theorem negTo_set {T : List Nat} {k : Nat} (hk : k < T.length) : (negTo T k).set k (-((nth T k : Nat) : Int)) = negTo T (k + 1) := by
  have hm : ((T.take k).map (fun x : Nat => -(x : Int))).length = k := by simp; omega
  unfold negTo
  rw [List.set_append_right _ _ (by omega), hm, Nat.sub_self, List.drop_eq_getElem_cons hk, List.map_cons, List.set_cons_zero, List.take_succ_eq_append_getElem hk, List.map_append, List.append_assoc, at_eq hk]
  rfl
theorem fillTo_at {T : List Int} {k j : Nat} (hj : j < k) (hk : j < T.length) : (fillTo T k)[j]? = some (.int .i64 (nth T j)) := by
  unfold fillTo
  rw [List.getElem?_map, List.getElem?_append_left (by simp; omega), List.getElem?_take, if_pos hj, List.getElem?_eq_getElem hk, at_eq hk]
  rfl
theorem parts_nth {N W : Nat} {ws : List Nat} {k n : Nat} (hk : k < ws.length) (hn : ws.length = n) : nth (parts0 N W ws n) k = qAt N W ws k := by
  have e : parts0 N W ws n = ws.map fun x => N * x / W := by subst hn; unfold parts0; rw [List.take_length]
  rw [e, at_eq (by simpa using hk), List.getElem_map, qAt, at_eq hk]
/-- A cell of a row of numbers. -/
theorem _root_.Go.Vx.Fix.int_at {w : World} {B n c : Nat} {T : List Int} (h : Fix w 3 1 (.slice (some ⟨B, 0, none⟩) n c) n (T.map (Value.int .i64)) [B]) {k : Nat} (hk : k < n) : w.cell? ⟨B, k, none⟩ = some (.int .i64 (nth T k)) ∧ w.frozen? ⟨B, k, none⟩ = false := by
  obtain ⟨u, h1, h2, h3⟩ := h.one_at hk
  have hl : T.length = n := by obtain ⟨_, _, _, h, _⟩ := id h; simpa using h
  rw [List.getElem?_map, List.getElem?_eq_getElem (by omega)] at h1
  injection h1 with h1
  subst h1
  exact ⟨by rw [h2, at_eq (by omega)], h3⟩
set_option maxRecDepth 100000 in
set_option maxHeartbeats 16000000 in
theorem r_split_bad {w : World} {a : Int} {A : Option Addr} {n c : Nat} {l : List Int} (hs : Src w 1 A n (l.map (Value.int .i64))) (hn : n ≤ 1000000) (h : ¬ (okM a = true ∧ weigh l ≠ 0)) :
    Calls Try.prog 26 #[.int .i64 a, .slice A n c] w fun e w' => e = .returned (.tuple #[.slice none 0 0, .int .i64 1]) ∧ w = w' := by
  have hl : l.length = n := by have := hs.1; simpa using this
  have hf := r_fits a
  cases ha : okM a with
  | false =>
    rw [ha] at hf
    clear h ha
    go_enter Try.func26, Try.ntmps26
    go_wp2_with (go_at_call 24; refine (hf _).mono ?_; rintro e w' ⟨rfl, rfl⟩)
    go_ret2
    exact ⟨rfl, rfl⟩
  | true =>
    rw [ha] at hf
    have hw0 : weigh l = 0 := Decidable.byContradiction fun k => h ⟨ha, k⟩
    clear h ha
    by_cases h1 : n < 1
    · have b1 : decide ((n : Int) < 1) = true := by simp; omega
      go_enter Try.func26, Try.ntmps26
      go_wp2_with (go_at_call 24; refine (hf _).mono ?_; rintro e w' ⟨rfl, rfl⟩)
      go_ret2
      exact ⟨rfl, rfl⟩
    have b1 : decide ((n : Int) < 1) = false := by simp; omega
    by_cases h2 : 20 < n
    · have b2 : decide (20 < (n : Int)) = true := by simp; omega
      go_enter Try.func26, Try.ntmps26
      go_wp2_with (go_at_call 24; refine (hf _).mono ?_; rintro e w' ⟨rfl, rfl⟩)
      go_ret2
      exact ⟨rfl, rfl⟩
    have b2 : decide (20 < (n : Int)) = false := by simp; omega
    have hall := @sum_okW
    go_enter Try.func26, Try.ntmps26
    go_wp2_with (go_at_call 24; refine (hf _).mono ?_; rintro e w' ⟨rfl, rfl⟩)
    go_loopw [6, 7] (fun sv iv wr => ∃ k : Nat, k ≤ n ∧ iv = .int .i64 k ∧ sv = .int .i64 (l.take k).sum ∧ (l.take k).all okW = true ∧ w = wr) (fun _ iv _ => n - (intOf iv).toNat)
    case atStart => exact ⟨0, by omega, rfl, by simp, by simp, rfl⟩
    case round =>
      obtain ⟨k, hk, rfl, rfl, hok, rfl⟩ := hrel
      have hb := sum_okW hok
      rw [show (l.take k).length = k by simp; omega] at hb
      obtain ⟨hb1, hb2⟩ := hb
      by_cases hlt : k < n
      · obtain ⟨ad, rfl, hc⟩ := hs.2 (by omega)
        have hck := hc k (.int .i64 (l[k]'(by omega))) (by simp [hl, hlt])
        have e1 := all_take (p := okW) (l := l) (k := k) (by omega)
        have e3 := sum_take (l := l) (k := k) (by omega)
        generalize hx : l[k]'(by omega) = x at *
        clear hc
        replace hok := Lib.hid hok
        replace e1 := Lib.hid e1
        replace e3 := Lib.hid e3
        replace hl := Lib.hid hl
        replace hw0 := Lib.hid hw0
        replace hx := Lib.hid hx
        by_cases hx0 : x < 0
        · have c1 : decide (x < 0) = true := by simpa using hx0
          go_wp2_with fail
          go_ret2
          exact ⟨rfl, rfl⟩
        have c1 : decide (x < 0) = false := by simpa using hx0
        by_cases hx1 : 1000000 < x
        · have c2 : decide (1000000 < x) = true := by simpa using hx1
          go_wp2_with fail
          go_ret2
          exact ⟨rfl, rfl⟩
        have c2 : decide (1000000 < x) = false := by simpa using hx1
        have hxo : Hid (okW x = true) := Lib.hid (okW_iff.2 (by omega))
        generalize (l.take k).sum = s at *
        go_wp2_with fail
        go_roundw
        case measure => simp [intOf]; omega
        case rel => exact ⟨k + 1, by omega, by go_num, by rw [e3.out], by rw [e1.out, hok.out, hxo.out]; rfl, by trivial⟩
      · obtain rfl : k = n := by omega
        rw [List.take_of_length_le (show l.length ≤ k by omega)] at hok ⊢
        have hz : l.sum = 0 := by
          unfold weigh at hw0
          rwa [if_pos ⟨by omega, hok⟩] at hw0
        rw [hz]
        clear hz hw0 hok hall
        go_wp2_with fail
        go_ret2
        exact ⟨rfl, rfl⟩
/-- What a split answers. -/
def SplitGood (w : World) (n : Nat) (xs : List Value) (e : Ending) (w' : World) : Prop := ∃ v F, e = .returned (.tuple #[v, .int .i64 0]) ∧ Fix w' 3 1 v n xs F ∧ (∀ g, g ∈ F → w.heap.size ≤ g) ∧ Chg [] w w'
theorem div_is (N W : Nat) : (N : Int) / (W : Int) = ((N / W : Nat) : Int) ∧ (N : Int) % (W : Int) = ((N % W : Nat) : Int) ∧ (N : Int).tdiv (W : Int) = ((N / W : Nat) : Int) ∧ (N : Int).tmod (W : Int) = ((N % W : Nat) : Int) :=
  ⟨(Int.natCast_ediv N W).symm, (Int.natCast_emod N W).symm, (Int.ofNat_tdiv N W).symm, (Int.ofNat_tmod N W).symm⟩
set_option maxRecDepth 100000 in
set_option maxHeartbeats 32000000 in
theorem r_split_good {w : World} {a : Int} {A : Option Addr} {n c : Nat} {l : List Int} (hs : Src w 1 A n (l.map (Value.int .i64))) (h0 : okM a = true) (hw0 : weigh l ≠ 0) :
    Calls Try.prog 26 #[.int .i64 a, .slice A n c] w (SplitGood w n (signedAll a (splitN a.natAbs (weigh l).toNat (l.map Int.toNat)))) := by
  obtain ⟨i0, hi, j0, j1, j2⟩ := info_parts infoInt
  have hl : l.length = n := by have := hs.1; simpa using this
  have hcond : l.length ≤ 20 ∧ l.all okW = true := Decidable.byContradiction fun k => hw0 (by unfold weigh; rw [if_neg k])
  obtain ⟨h20, hok⟩ := hcond
  have hwl : weigh l = l.sum := by unfold weigh; rw [if_pos ⟨h20, hok⟩]
  have hsum : (l.map Int.toNat).sum = (weigh l).toNat ∧ 0 ≤ weigh l := by
    rw [hwl]
    clear hwl hw0 hs hl h20
    induction l with
    | nil => simp
    | cons x l ih =>
      simp only [List.all_cons, Bool.and_eq_true] at hok
      have := okW_iff.1 hok.1
      have := ih hok.2
      simp only [List.map_cons, List.sum_cons]
      omega
  have hWb : weigh l ≤ 20000000 := by
    have := sum_okW hok
    rw [hwl]
    omega
  obtain ⟨hsum, hW0⟩ := hsum
  rw [hwl] at hW0 hsum hWb hw0 ⊢
  obtain ⟨W, hW⟩ := Int.eq_ofNat_of_zero_le hW0
  rw [hW] at hsum hWb hw0 ⊢
  simp only [Int.toNat_natCast] at hsum ⊢
  have hWpos : 0 < W := by omega
  have hN : a.natAbs ≤ 1000000000000000 := by have := okM_iff.1 h0; omega
  have hmax : max a (-a) = (a.natAbs : Int) := by omega
  have hwat : ∀ k, k < n → ∃ x : Nat, x ≤ 1000000 ∧ nth (l.map Int.toNat) k = x ∧ nth l k = (x : Int) := by
    intro k hk
    have h1 := okW_iff.1 (List.all_eq_true.1 hok _ (List.getElem_mem (l := l) (n := k) (by omega)))
    refine ⟨(nth l k).toNat, ?_, nth_map _ (by omega), ?_⟩
    · rw [at_eq (by omega)]; omega
    · rw [at_eq (by omega)]; omega
  have hlen : (l.map Int.toNat).length = n := by simpa using hl
  have hnpos : 1 ≤ n := by
    rcases Nat.eq_zero_or_pos n with h | h
    · subst h
      rw [List.length_eq_zero_iff.1 hl] at hsum
      simp at hsum
      omega
    · exact h
  have hmk := fun w => run_make (P := Try.prog) w 22 3 i0 _ Try.underlying22 hi j0 .i64 .i64 (n : Int) (n : Int) (by omega) (by omega) (by rw [j2]; omega) (by omega)
  rw [j1] at hmk
  have hb0 := okM_iff.1 h0
  obtain ⟨hb1, hb2⟩ := hb0
  have hfit := r_fits a
  rw [h0] at hfit
  have hcell : ∀ w', Chg [] w w' → ∀ k, k < n → ∃ ad, A = some ad ∧ w'.cell? (ad.add k) = some (.int .i64 (nth l k)) := by
    intro w' hc k hk
    obtain ⟨ad, ha, hcc⟩ := (hs.chg hc (by simp)).2 (by omega)
    exact ⟨ad, ha, hcc k _ (by rw [List.getElem?_map, List.getElem?_eq_getElem (by omega), at_eq (by omega)]; rfl)⟩
  have hsumk : ∀ k, k ≤ n → 0 ≤ (l.take k).sum ∧ (l.take k).sum ≤ 20000000 := by
    intro k hk
    have hall : (l.take k).all okW = true := List.all_eq_true.2 fun x hx => List.all_eq_true.1 hok x (List.mem_of_mem_take hx)
    have := sum_okW hall
    have hlk : (l.take k).length ≤ 20 := by simp; omega
    omega
  have hend : (l.take n).sum = (W : Int) := by rw [List.take_of_length_le (by omega), hW]
  have hstep : ∀ k, k < n → (l.take (k + 1)).sum = (l.take k).sum + nth l k := fun k hk => by rw [sum_take (by omega), at_eq (by omega)]
  have hn20 : n ≤ 20 := by omega
  have b1 : decide ((n : Int) < 1) = false := by simp; omega
  have b2 : decide (20 < (n : Int)) = false := by simp; omega
  generalize hws : l.map Int.toNat = ws at *
  generalize hNN : a.natAbs = N at *
  have hn20 : n ≤ 20 := by omega
  replace hl := Lib.hid hl
  replace hlen := Lib.hid hlen
  replace hsum := Lib.hid hsum
  replace hend := Lib.hid hend
  replace hstep := Lib.hid hstep
  replace hws := Lib.hid hws
  replace hNN := Lib.hid hNN
  replace hW := Lib.hid hW
  replace hwl := Lib.hid hwl
  replace hwat := Lib.hid hwat
  clear h0 hw0 hW0 hok h20
  go_enter Try.func26, Try.ntmps26
  go_wp2_with (go_at_call 24; refine (hfit _).mono ?_; rintro e w' ⟨rfl, rfl⟩)
  go_loopw [6, 7] (fun sv iv wr => ∃ k : Nat, k ≤ n ∧ iv = .int .i64 k ∧ sv = .int .i64 (l.take k).sum ∧ w = wr) (fun _ iv _ => n - (intOf iv).toNat)
  case atStart => exact ⟨0, by omega, rfl, by simp, rfl⟩
  case round =>
    obtain ⟨k, hk, rfl, rfl, rfl⟩ := hrel
    obtain ⟨s1, s2⟩ := hsumk k hk
    by_cases hlt : k < n
    · obtain ⟨ad, rfl, hck⟩ := hcell w (Chg.refl _ _) k hlt
      obtain ⟨x, hx1, -, hx⟩ := hwat.out k hlt
      have e3 := Lib.hid (hstep.out k hlt)
      rw [hx] at hck e3
      clear hcell hsumk hx
      generalize (l.take k).sum = s at *
      have c1 : decide ((x : Int) < 0) = false := by simp
      have c2 : decide (1000000 < (x : Int)) = false := by simp; omega
      go_wp2_with fail
      go_roundw
      case measure => simp [intOf]; omega
      case rel => exact ⟨k + 1, by omega, by go_num, by rw [e3.out], by trivial⟩
    · obtain rfl : n = k := by omega
      rw [hend.out] at s1 s2 ⊢
      have c3 : ((W : Int) == 0) = false := by simp; omega
      have c4 : ¬ (W : Int) = 0 := by omega
      have c5 : ¬ (0 : Int) = W := by omega
      have c6 : ¬ W = 0 := by omega
      clear hsumk
      go_upto_region 13 with fail
      go_quiet (fail)
      simp only [(div_is N W).1, (div_is N W).2.1, (div_is N W).2.2.1, (div_is N W).2.2.2]
      have hqN : N / W ≤ N := Nat.div_le_self _ _
      have hrW : N % W < W := Nat.mod_lt _ hWpos
      have hqr : Hid (∀ x, N / W * x + N % W * x / W = N * x / W ∧ N % W * x % W = N * x % W ∧ (x ≤ W → N / W * x ≤ N) ∧ N % W * x ≤ W * x) := Lib.hid (fun x => ⟨low_of hWpos, Nat.mod_mul_mod N x W, fun hx => Nat.le_trans (Nat.mul_le_mul_left _ hx) (Nat.div_mul_le_self N W), Nat.mul_le_mul_right _ (Nat.le_of_lt hrW)⟩)
      generalize N / W = q at *
      generalize N % W = r at *
      rw [show wrap64 (q : Int) = q by unfold wrap64; omega]
      have hz1 : Chg [] w (w.drewN nq) := (Chg.refl _ _).drewN _
      generalize w.drewN nq = w1 at *
      have hL := Lib.hid (left_le (N := N) (W := W) (ws := ws) hWpos hsum.out)
      go_upto_region 14 with fail
      go_cut [11, 12] (fun ov cv wx => ∃ g1 g2, ov = .slice (some ⟨g1, 0, none⟩) n n ∧ cv = .slice (some ⟨g2, 0, none⟩) n n ∧ g1 ≠ g2 ∧ Fix wx 3 1 (.slice (some ⟨g1, 0, none⟩) n n) n (List.replicate n (.int .i64 0)) [g1] ∧ Fix wx 3 1 (.slice (some ⟨g2, 0, none⟩) n n) n (List.replicate n (.int .i64 0)) [g2] ∧ w.heap.size ≤ g1 ∧ w.heap.size ≤ g2 ∧ Chg [] w wx)
      case first =>
        have hs0 := hz1.size
        go_region_law (go_simp; rw [hmk]; go_simp)
        all_goals
          have hm1 := (Fix.made w1 3 (.int .i64 0) n (by unfold maxLen; omega)).alloc (.cells (madeCells #[.int .i64 0] n) 3)
          have hm2 := Fix.made (w1.alloc (.cells (madeCells #[.int .i64 0] n) 3)) 3 (.int .i64 0) n (by unfold maxLen; omega)
          rw [if_neg (by omega)] at hm1 hm2
          simp only [World.size_alloc] at hm2
          go_wp2_with fail
          go_meet
          have hzz : Chg [] w ((w1.alloc (.cells (madeCells #[.int .i64 0] n) 3)).alloc (.cells (madeCells #[.int .i64 0] n) 3)).drew := ((hz1.alloc _).alloc _).drew
          first
          | exact ⟨_, _, rfl, rfl, by omega, hm1, hm2, by omega, by omega, hzz⟩
          | exact ⟨_, _, rfl, rfl, by omega, hm2, hm1, by omega, by omega, hzz⟩
      case rest =>
        obtain ⟨g1, g2, rfl, rfl, hg, hf1, hf2, hgw1, hgw2, hz⟩ := hcut
        have hpl := parts0_len (N := N) (W := W) (ws := ws) (k := ws.length) (Nat.le_refl _)
        have hcl := cutRow_len (N := N) (W := W) (ws := ws) 0
        rw [hlen.out] at hpl hcl
        have hpl' : (natsI (parts0 N W ws n)).length = n := by rw [natsI_len, hpl]
        replace hpl := Lib.hid hpl
        replace hcl := Lib.hid hcl
        replace hpl' := Lib.hid hpl'
        clear hmk hfit
        go_wp2_with fail
        go_loopw [13, 14] (fun lv iv wr => ∃ k : Nat, k ≤ n ∧ iv = .int .i64 k ∧ lv = .int .i64 ((N - (parts0 N W ws k).sum : Nat) : Int) ∧ Fix wr 3 1 (.slice (some ⟨g1, 0, none⟩) n n) n (fillTo (natsI (parts0 N W ws n)) k) [g1] ∧ Fix wr 3 1 (.slice (some ⟨g2, 0, none⟩) n n) n (fillTo (cutRow N W ws 0) k) [g2] ∧ Chg [] w wr) (fun _ iv _ => n - (intOf iv).toNat)
        case atStart => exact ⟨0, by omega, rfl, by simp [parts0], by rw [fillTo_zero, hpl'.out]; exact hf1, by rw [fillTo_zero, hcl.out]; exact hf2, hz⟩
        case round =>
          obtain ⟨k, hk, rfl, rfl, hr1, hr2, hzr⟩ := hrel
          by_cases hlt : k < n
          · obtain ⟨ad, rfl, hck⟩ := hcell wr hzr k hlt
            obtain ⟨x, hx1, hx2, hx⟩ := hwat.out k hlt
            rw [hx] at hck
            have hxW : x ≤ W := by rw [← hx2, ← hsum.out]; exact le_sum (by rw [hlen.out]; exact hlt)
            obtain ⟨e1, e2, e3, e4⟩ := hqr.out x
            replace e3 := e3 hxW
            have e5 : W * x ≤ 20000000 * 1000000 := Nat.mul_le_mul (by omega) hx1
            have e6 : r * x / W ≤ r * x := Nat.div_le_self _ _
            have e7 : r * x % W < W := Nat.mod_lt _ hWpos
            have d1 := div_is (r * x) W
            obtain ⟨d1, d2, d3, d4⟩ := d1
            have w1 : IntKind.i64.wrap ((q : Int) * (x : Int)) = ((q * x : Nat) : Int) := by rw [← Int.natCast_mul]; exact IntWalk.i64_in _ (by omega)
            have w2 : IntKind.i64.wrap ((r : Int) * (x : Int)) = ((r * x : Nat) : Int) := by rw [← Int.natCast_mul]; exact IntWalk.i64_in _ (by omega)
            have e8 : q * x + r * x / W ≤ N := by rw [e1]; exact Nat.le_trans (Nat.div_le_div_right (Nat.mul_le_mul_left N hxW)) (by rw [Nat.mul_div_cancel _ hWpos]; exact Nat.le_refl _)
            have hqa : qAt N W ws k = q * x + r * x / W := by rw [qAt, hx2, e1]
            have hra : rAt N W ws k = r * x % W := by rw [rAt, hx2, e2]
            clear e1 e2 hx hcell
            generalize q * x = P at *
            generalize r * x = R at *
            generalize R / W = S at *
            generalize R % W = T at *
            have w3 : IntKind.i64.wrap (S : Int) = (S : Int) := IntWalk.i64_in _ (by omega)
            have w4 : IntKind.i64.wrap ((P : Int) + (S : Int)) = ((P + S : Nat) : Int) := by rw [← Int.natCast_add]; exact IntWalk.i64_in _ (by omega)
            have w5 : IntKind.i64.wrap (T : Int) = (T : Int) := IntWalk.i64_in _ (by omega)
            replace hqa := Lib.hid hqa
            replace hra := Lib.hid hra
            obtain ⟨o1, -, v1, v2⟩ := hr1.one_at hlt
            go_wp2_with fail
            go_still_tail 18, (by kernel_rfl)
            change wpList _ _ _ _ _ wr.drew
            go_upto_region 20 with fail
            have hval1 : Value.int .i64 ((P : Int) + (S : Int)) = .int .i64 (nth (natsI (parts0 N W ws n)) k) := by
              rw [natsI_nth (by rw [hpl.out]; exact hlt), parts_nth (by rw [hlen.out]; exact hlt) (by rw [hlen.out]), hqa.out]
              rfl
            have hs1 := hr1.store rfl k (.int .i64 ((P : Int) + (S : Int)))
            rw [hval1, fillTo_set (by rw [hpl'.out]; exact hlt)] at hs1
            have hc1 : Chg [g1] wr (wr.setCell ⟨g1, k, none⟩ (.int .i64 ((P : Int) + (S : Int)))).drew := ((Chg.refl _ _).setCell (.inl (by simp)) _).drew
            rw [hval1] at hc1 ⊢
            have hs2 : Fix (wr.setCell ⟨g1, k, none⟩ (.int .i64 (nth (natsI (parts0 N W ws n)) k))).drew 3 1 (.slice (some ⟨g1, 0, none⟩) n n) n _ [g1] := hs1
            clear hs1 v1 v2
            generalize (wr.setCell ⟨g1, k, none⟩ (.int .i64 (nth (natsI (parts0 N W ws n)) k))).drew = w2 at *
            have hr2' := hr2.chg hc1 (by simpa using fun e => hg e.symm)
            obtain ⟨o2, -, v1, v2⟩ := hr2'.one_at hlt
            have hck2 : w2.cell? (ad.add k) = some (.int .i64 x) := (hc1.cell (World.block_lt_of_cell? _ _ hck) (by
              rw [add_block]
              intro h
              obtain ⟨ad', e', hcc⟩ := hs.2 (by omega)
              injection e' with e'
              subst e'
              have := World.block_lt_of_cell? w _ (hcc k _ (by rw [List.getElem?_map, List.getElem?_eq_getElem (by rw [hl.out]; exact hlt)]; rfl))
              rw [add_block] at this
              simp at h
              omega)).trans hck
            clear hck
            go_upto_region 21 with fail
            have hval2 : Value.int .i64 (T : Int) = .int .i64 (nth (cutRow N W ws 0) k) := by
              rw [cutRow_zero (by rw [hlen.out]; exact hlt), hra.out]
            have hs3 := hr2'.store rfl k (.int .i64 (T : Int))
            rw [hval2, fillTo_set (by rw [hcl.out]; exact hlt)] at hs3
            have hc2 : Chg [g2] w2 (w2.setCell ⟨g2, k, none⟩ (.int .i64 (T : Int))) := (Chg.refl _ _).setCell (.inl (by simp)) _
            rw [hval2] at hc2 ⊢
            generalize w2.setCell ⟨g2, k, none⟩ (.int .i64 (nth (cutRow N W ws 0) k)) = w3 at *
            have hs4 := hs2.chg hc2 (by simpa using hg)
            obtain ⟨o3, ho3, v3, -⟩ := hs4.one_at hlt
            have hsm : ((N - (parts0 N W ws (k + 1)).sum : Nat) : Int) = ((N - (parts0 N W ws k).sum : Nat) : Int) - ((P + S : Nat) : Int) := by
              have h1 := parts0_sum (N := N) hWpos hsum.out (k + 1)
              rw [parts0_succ (by rw [hlen.out]; exact hlt), List.sum_append, hqa.out] at h1 ⊢
              simp only [List.sum_cons, List.sum_nil] at h1 ⊢
              omega
            have ho4 : o3 = .int .i64 ((P + S : Nat) : Int) := by
              have := fillTo_at (T := natsI (parts0 N W ws n)) (k := k + 1) (j := k) (by omega) (by rw [hpl'.out]; exact hlt)
              rw [this] at ho3
              injection ho3 with ho3
              rw [← ho3, ← hval1]
              rfl
            rw [ho4] at v3
            have hlb : N - (parts0 N W ws k).sum ≤ N := Nat.sub_le _ _
            replace hsm := Lib.hid hsm
            generalize N - (parts0 N W ws k).sum = lft at *
            replace hval1 := Lib.hid hval1
            replace hval2 := Lib.hid hval2
            clear ho4 ho3
            go_wp2_with fail
            go_roundw
            case measure => simp [intOf]; omega
            case rel => exact ⟨k + 1, by omega, by go_num, by rw [hsm.out, Int.natCast_add], hs4, hs3, (hzr.trans hc1 (by simpa using hgw1)).trans hc2 (by simpa using hgw2)⟩
          · obtain rfl : n = k := by omega
            have hwl' := hlen.out
            rw [fillTo_end _ hpl'.out.symm, show natsI (parts0 N W ws n) = natsI (outRowN N W ws 0) by unfold outRowN; rw [hwl']; rfl] at hr1
            rw [fillTo_end _ hcl.out.symm] at hr2
            rw [hwl'] at hL
            have hfinal : Hid (splitN N W ws = outRowN N W ws (N - (parts0 N W ws n).sum)) := Lib.hid (by rw [← hwl']; rfl)
            have hsb : ∀ t b, t ≤ n → b < n → nth (outRowN N W ws t) b ≤ N + 20 := by
              intro t b ht hb
              have h1 := le_sum (ps := outRowN N W ws t) (i := b) (by rw [outRow_len, hwl']; exact hb)
              have h2 := bumps_sum ((cutsTo N W ws ws.length).take t) (parts0 N W ws ws.length) (cut_in t)
              have h3 := parts0_sum (N := N) hWpos hsum.out ws.length
              have h4 : ((cutsTo N W ws ws.length).take t).length ≤ t := List.length_take_le _ _
              unfold outRowN at h1 ⊢
              omega
            clear hwl'
            generalize hLL : N - (parts0 N W ws n).sum = L at *
            replace hLL := Lib.hid hLL
            have hLn := hL.out
            clear hcell hf1 hf2
            go_wp2_with fail
            obtain ⟨wo, rfl⟩ : ∃ wo : World, wo = wr := ⟨_, rfl⟩
            go_loopw [13, 15, 16] (fun lv bv iv wr => ∃ t : Nat, t ≤ L ∧ lv = .int .i64 ((L - t : Nat) : Int) ∧ Fix wr 3 1 (.slice (some ⟨g1, 0, none⟩) n n) n ((natsI (outRowN N W ws t)).map (Value.int .i64)) [g1] ∧ Fix wr 3 1 (.slice (some ⟨g2, 0, none⟩) n n) n ((cutRow N W ws t).map (Value.int .i64)) [g2] ∧ Chg [] w wr) (fun lv _ _ _ => (intOf lv).toNat)
            case atStart => exact ⟨0, by omega, rfl, hr1, hr2, hzr⟩
            case round =>
              clear hr1 hr2 hzr
              obtain ⟨t, ht, rfl, hr1, hr2, hzr⟩ := hrel
              by_cases htl : t < L
              · have hpk := Lib.hid (bst_pick (N := N) (W := W) (ws := ws) (t := t) (by rw [hlen.out]; omega))
                have hpk2 := (pick_lt (N := N) (W := W) (ws := ws) (t := t) (by rw [hlen.out]; omega)).1
                rw [hlen.out] at hpk2
                have hos := Lib.hid (outRow_succ (N := N) (W := W) (ws := ws) (t := t) (by rw [hlen.out]; omega))
                have hcs := Lib.hid (cutRow_succ (N := N) (W := W) (ws := ws) (t := t) (by rw [hlen.out]; omega))
                have hsb2 := hsb t _ (by omega) hpk2
                have hon := Lib.hid (natsI_nth (T := outRowN N W ws t) (k := pickAt N W ws t) (by rw [outRow_len, hlen.out]; exact hpk2))
                have hge : Hid ((0 : Int) < ((L - t : Nat) : Int)) := Lib.hid (by omega)
                have hb3 : decide ((0 : Int) < ((L - t : Nat) : Int)) = true := by simpa using hge.out
                have hb4 : 0 < L - t := by omega
                have hlt2 : ((L - (t + 1) : Nat) : Int) = ((L - t : Nat) : Int) - 1 := by omega
                replace hlt2 := Lib.hid hlt2
                have hlb : L - t ≤ 20 := by omega
                clear hsb
                generalize L - t = lf at *
                generalize pickAt N W ws t = pk at *
                have hcw : ∀ m, (wr.drewN m).heap = wr.heap := fun m => rfl
                go_wp2_with fail
                obtain ⟨wi, rfl⟩ : ∃ wi : World, wi = wr := ⟨_, rfl⟩
                go_loopw [15, 16] (fun bv iv wr => ∃ i : Nat, 1 ≤ i ∧ i ≤ n ∧ iv = .int .i64 i ∧ bv = .int .i64 ((bst (cutRow N W ws t) (i - 1) : Nat) : Int) ∧ Chg [] wi wr) (fun _ iv _ => n - (intOf iv).toNat)
                case atStart => exact ⟨1, by omega, hnpos, rfl, rfl, Chg.refl _ _⟩
                case round =>
                  obtain ⟨i, hi1, hin, rfl, rfl, hci⟩ := hrel
                  have hr1' := hr1.chg hci (by simp)
                  have hr2' := hr2.chg hci (by simp)
                  by_cases hil : i < n
                  · obtain ⟨hb1', -, -⟩ := bst_spec (cutRow N W ws t) (i - 1)
                    have hbs : bst (cutRow N W ws t) i = if nth (cutRow N W ws t) (bst (cutRow N W ws t) (i - 1)) < nth (cutRow N W ws t) i then i else bst (cutRow N W ws t) (i - 1) := by
                      obtain ⟨j, rfl⟩ : ∃ j, i = j + 1 := ⟨i - 1, by omega⟩
                      rfl
                    replace hbs := Lib.hid hbs
                    generalize hbb : bst (cutRow N W ws t) (i - 1) = b at *
                    replace hbb := Lib.hid hbb
                    obtain ⟨y1, -⟩ := hr2'.int_at (k := i) hil
                    obtain ⟨y2, -⟩ := hr2'.int_at (k := b) (by omega)
                    generalize nth (cutRow N W ws t) i = ci at *
                    generalize nth (cutRow N W ws t) b = cb at *
                    have hbn : b < n := by omega
                    by_cases hcc : cb < ci
                    · have q1 : decide (cb < ci) = true := by simpa using hcc
                      have q2 : Hid (bst (cutRow N W ws t) i = i) := Lib.hid (by rw [hbs.out, if_pos hcc])
                      go_wp2_with fail
                      go_quiet (fail)
                      go_wp2_with fail
                      go_roundw
                      case measure => simp [intOf]; omega
                      case rel => exact ⟨i + 1, by omega, by omega, by go_num, by rw [Nat.add_sub_cancel, q2.out], hci.drewN _⟩
                    · have q1 : decide (cb < ci) = false := by simpa using hcc
                      have q2 : Hid (bst (cutRow N W ws t) i = b) := Lib.hid (by rw [hbs.out, if_neg hcc])
                      go_wp2_with fail
                      go_quiet (fail)
                      go_wp2_with fail
                      go_roundw
                      case measure => simp [intOf]; omega
                      case rel => exact ⟨i + 1, by omega, by omega, by go_num, by rw [Nat.add_sub_cancel, q2.out], hci.drewN _⟩
                  · obtain rfl : n = i := by omega
                    have hpk' : bst (cutRow N W ws t) (n - 1) = pk := by rw [← hpk.out, hlen.out]
                    rw [hpk']
                    clear hpk'
                    obtain ⟨y1, y2⟩ := hr1'.int_at (k := pk) hpk2
                    rw [hon.out] at y1
                    obtain ⟨y3, y4⟩ := hr2'.int_at (k := pk) hpk2
                    generalize hu : nth (outRowN N W ws t) pk = u at *
                    replace hu := Lib.hid hu
                    go_upto_region 30 with fail
                    have hs1 := hr1'.store rfl pk (.int .i64 ((u : Int) + 1))
                    have hse : ((natsI (outRowN N W ws t)).map (Value.int .i64)).set pk (.int .i64 ((u : Int) + 1)) = (natsI (outRowN N W ws (t + 1))).map (Value.int .i64) := by
                      rw [ints_set, show ((u : Int) + 1) = ((u + 1 : Nat) : Int) by omega, natsI_set, hos.out, bump, hu.out]
                    rw [hse] at hs1
                    have hc1 : Chg [g1] wr (wr.setCell ⟨g1, pk, none⟩ (.int .i64 ((u : Int) + 1))) := (Chg.refl _ _).setCell (.inl (by simp)) _
                    generalize wr.setCell ⟨g1, pk, none⟩ (.int .i64 ((u : Int) + 1)) = w2 at *
                    have hr3 := hr2'.chg hc1 (by simpa using fun e => hg e.symm)
                    obtain ⟨y5, y6⟩ := hr3.int_at (k := pk) hpk2
                    clear y1 y2 y3 y4 hse
                    go_upto_region 31 with fail
                    have hs2 := hr3.store rfl pk (.int .i64 (-1))
                    rw [ints_set, ← hcs.out] at hs2
                    have hc2 : Chg [g2] w2 (w2.setCell ⟨g2, pk, none⟩ (.int .i64 (-1))) := (Chg.refl _ _).setCell (.inl (by simp)) _
                    generalize w2.setCell ⟨g2, pk, none⟩ (.int .i64 (-1)) = w3 at *
                    have hs3 := hs1.chg hc2 (by simpa using hg)
                    have hz3 : Chg [] w w3 := ((hzr.trans' hci).trans hc1 (by simpa using hgw1)).trans hc2 (by simpa using hgw2)
                    clear y5 y6
                    go_wp2_with fail
                    exact ⟨⟨t + 1, by omega, by rw [hlt2.out], hs3, hs2, hz3⟩, by simp [intOf]; have := hge.out; omega⟩
              · obtain rfl : L = t := by omega
                rw [Nat.sub_self]
                rw [← hfinal.out] at hr1
                have hTl : (splitN N W ws).length = n := by rw [split_len, hlen.out]
                have hTs : ∀ b, b < n → nth (splitN N W ws) b ≤ N + 20 := fun b hb => by rw [hfinal.out]; exact hsb L b (by omega) hb
                clear hsb
                generalize hT : splitN N W ws = T at *
                replace hT := Lib.hid hT
                replace hTl := Lib.hid hTl
                by_cases ha0 : a < 0
                · have q1 : decide (a < 0) = true := by simpa using ha0
                  have hres : Hid ((negTo T n).map (Value.int .i64) = signedAll a T) := Lib.hid (by unfold negTo signedAll; rw [← hTl.out, List.take_length, List.drop_length]; simp [ha0])
                  go_wp2_with fail
                  obtain ⟨wi, rfl⟩ : ∃ wi : World, wi = wr := ⟨_, rfl⟩
                  go_loopw [17] (fun iv wr => ∃ i : Nat, i ≤ n ∧ iv = .int .i64 i ∧ Fix wr 3 1 (.slice (some ⟨g1, 0, none⟩) n n) n ((negTo T i).map (Value.int .i64)) [g1] ∧ Chg [] w wr) (fun iv _ => n - (intOf iv).toNat)
                  case atStart => exact ⟨0, by omega, rfl, by have := hr1; unfold natsI at this; simpa [negTo] using this, hzr⟩
                  case round =>
                    obtain ⟨i, hin, rfl, hri, hci⟩ := hrel
                    by_cases hil : i < n
                    · obtain ⟨y1, y2⟩ := hri.int_at (k := i) hil
                      rw [negTo_nth (by rw [hTl.out]; exact hil)] at y1
                      have hub := hTs i hil
                      have hst := hri.store rfl i (.int .i64 (-((nth T i : Nat) : Int)))
                      rw [ints_set, negTo_set (by rw [hTl.out]; exact hil)] at hst
                      have hc3 := hci.trans ((Chg.refl [g1] wr).setCell (p := ⟨g1, i, none⟩) (.inl (by simp)) (.int .i64 (-((nth T i : Nat) : Int)))) (by simpa using hgw1)
                      generalize nth T i = u at *
                      go_wp2_with fail
                      go_roundw
                      case measure => simp [intOf]; omega
                      case rel => exact ⟨i + 1, by omega, by go_num, hst, hc3⟩
                    · obtain rfl : n = i := by omega
                      rw [hres.out] at hri
                      go_wp2_with fail
                      go_ret2
                      exact ⟨.slice (some ⟨g1, 0, none⟩) n n, [g1], rfl, hri, by simpa using hgw1, hci⟩
                · have q1 : decide (a < 0) = false := by simpa using ha0
                  have hres : Hid ((natsI T).map (Value.int .i64) = signedAll a T) := Lib.hid (by unfold natsI signedAll; simp [ha0])
                  rw [hres.out] at hr1
                  go_wp2_with fail
                  go_ret2
                  exact ⟨.slice (some ⟨g1, 0, none⟩) n n, [g1], rfl, hr1, by simpa using hgw1, hzr⟩
end Go.Proofs.Ytlbkjhfnpjbjlaa
