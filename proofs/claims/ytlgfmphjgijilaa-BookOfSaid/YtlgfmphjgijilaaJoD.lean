/- Journals: Check. -/
import Derived.Test.YtlgfmphjgijilaaJoC
namespace Go.Proofs.Ytlgfmphjgijilaa
open Go.RowKit Go.Vx
set_option linter.unusedVariables false
set_option linter.unusedSimpArgs false

theorem sumL_take (l : List Ln) {k : Nat} (hk : k < l.length) : sumL (l.take (k + 1)) = sumL (l.take k) + l[k].amt := by
  unfold sumL
  rw [List.take_succ_eq_append_getElem hk, List.foldl_append]
  rfl
theorem sumL_le (l : List Ln) (h : ∀ x ∈ l, fitM x.amt = true) : ∀ k, k ≤ l.length → -(1000000000000000 * (k : Int)) ≤ sumL (l.take k) ∧ sumL (l.take k) ≤ 1000000000000000 * (k : Int)
  | 0, _ => by simp [sumL]
  | k + 1, hk => by
    have ih := sumL_le l h k (by omega)
    rw [sumL_take l (by omega)]
    have := fitM_iff.1 (h _ (List.getElem_mem (show k < l.length by omega)))
    push_cast
    omega
theorem frontB_len {j : Jn} (h : frontB j = true) : j.lines.length ≤ 8 := by
  unfold frontB at h
  simp only [Bool.and_eq_true, decide_eq_true_eq] at h
  exact h.2
set_option maxRecDepth 100000 in
set_option maxHeartbeats 8000000 in
theorem jo_check (j : Jn) {w : World} {A : Option Addr} {n c : Nat} (hs : Src w 3 A n (j.lines.flatMap lnEnc)) (hn : n ≤ 1000000) (hr : j.ref.size ≤ maxLen) : Calls Try.prog 29 #[jnV j (.slice A n c)] w fun e w' => e = .returned (.int .i64 (checkE j)) ∧ Chg [] w w' := by
  have hl : j.lines.length = n := by have := hs.1; rw [flatMap_len lnEnc_len] at this; omega
  have hfr := fun W => jo_front (c := c) j (A := A) hl hr W
  have hck : checkE j = if !frontB j then 1 else if !(j.lines.all (lineB j.ent)) then 1 else if !(j.lines.all fun x => fitM x.amt) then 2 else if sumL j.lines != 0 then 3 else 0 := rfl
  have hle8 := @frontB_len j
  generalize checkE j = R at *
  generalize frontB j = fb at *
  obtain ⟨id, ent, per, ref, l, void⟩ := j
  dsimp only at *
  unfold jnV at *
  dsimp only at *
  have hB := Blk.new w 31 #[.int .i64 id, .int .i64 ent, .int .i64 per, .string ref, .slice A n c, .bool void]
  have hz := (Chg.refl [] w).alloc (.cells #[.int .i64 id, .int .i64 ent, .int .i64 per, .string ref, .slice A n c, .bool void] 31)
  replace hl := Lib.hid hl
  go_enter Try.func29, Try.ntmps29
  go_wp2_with fail
  obtain ⟨w1, hw1⟩ : ∃ w1, w1 = w.alloc (.cells #[.int .i64 id, .int .i64 ent, .int .i64 per, .string ref, .slice A n c, .bool void] 31) := ⟨_, rfl⟩
  rw [← hw1] at hB hz ⊢
  clear hw1
  obtain ⟨jb, hjb⟩ : ∃ jb, w.heap.size = jb := ⟨_, rfl⟩
  rw [hjb] at hB ⊢
  clear hjb
  refine (hfr w1).mono ?_
  rintro e w2 ⟨rfl, hz2⟩
  clear hfr
  cases fb with
  | false =>
    simp only [Bool.not_false, if_true] at hck
    replace hck := Lib.hid hck
    go_wp2_with fail
    go_ret
    exact ⟨by rw [hck.out]; rfl, hz.trans' hz2⟩
  | true =>
    simp only [Bool.not_true, Bool.false_eq_true, if_false] at hck
    have hn8 : n ≤ 8 := by have := hle8 rfl; rw [hl.out] at this; exact this
    have d4 : w2.cell? ⟨jb, 4, none⟩ = some (.slice A n c) := (hB.chg hz2 (by simp)).cell 4
    have hrow := fun (x : Ln) W => jo_row x.acct x.amt x.part ent W
    replace hck := Lib.hid hck
    clear hle8
    go_wp2_with fail
    go_loopw [14] (fun iv wr => ∃ k : Nat, k ≤ n ∧ iv = .int .i64 k ∧ (l.take k).all (lineB ent) = true ∧ Chg [] w1 wr) (fun iv _ => n - (intOf iv).toNat)
    case atStart => exact ⟨0, by omega, rfl, by simp, hz2⟩
    case round =>
      clear d4
      obtain ⟨k, hk, rfl, hall, hzr⟩ := hrel
      have hzw := hz.trans' hzr
      by_cases hlt : k < n
      · have hkl : k < l.length := by rw [hl.out]; exact hlt
        obtain ⟨ad, rfl, c0, c1, c2⟩ := line_cells (hs.chg hzw (by simp)) hkl
        have e1 := all_take (p := lineB ent) (l := l) hkl
        have e2 := all_bad (p := lineB ent) (l := l) hkl
        have hrk := hrow l[k]
        generalize l[k] = x at *
        have d1 : wr.cell? ⟨jb, 1, none⟩ = some (.int .i64 ent) := (hB.chg hzr (by simp)).cell 1
        obtain ⟨xa, xm, xp⟩ := x
        dsimp only at *
        have d1a := cell_al d1
        clear hrow
        cases hb : lineB ent ⟨xa, xm, xp⟩ with
        | false =>
          rw [hb] at hrk
          replace e2 := e2 hb
          have hR : Hid (R = 1) := Lib.hid (by rw [hck.out, e2]; rfl)
          clear e1 e2 hall hb hck
          go_wp2_with fail
          refine (hrk _).mono ?_
          rintro e w3 ⟨rfl, hz3⟩
          go_wp2_with fail
          go_ret
          exact ⟨by rw [hR.out]; rfl, (hzw.alloc _).trans' hz3⟩
        | true =>
          rw [hb] at hrk e1
          rw [hall] at e1
          replace e1 := Lib.hid e1
          clear e2 hall hb
          go_wp2_with fail
          refine (hrk _).mono ?_
          rintro e w3 ⟨rfl, hz3⟩
          go_wp2_with fail
          exact ⟨⟨k + 1, by omega, by go_num, by rw [e1.out]; rfl, (hzr.alloc _).trans' hz3⟩, by simp [intOf]; omega⟩
      · obtain rfl : k = n := by omega
        rw [List.take_of_length_le (by rw [hl.out]; exact Nat.le_refl _)] at hall
        have hck2 : Hid (R = if !(l.all fun x => fitM x.amt) then 2 else if sumL l != 0 then 3 else 0) := Lib.hid (by rw [hck.out, hall]; rfl)
        clear hck hall hrow
        have d4 : wr.cell? ⟨jb, 4, none⟩ = some (.slice A k c) := (hB.chg hzr (by simp)).cell 4
        go_wp2_with fail
        go_loopw [5, 27] (fun sv iv wr => ∃ i : Nat, i ≤ k ∧ iv = .int .i64 i ∧ sv = .int .i64 (sumL (l.take i)) ∧ (l.take i).all (fun x => fitM x.amt) = true ∧ Chg [] w1 wr) (fun _ iv _ => k - (intOf iv).toNat)
        case atStart => exact ⟨0, by omega, rfl, rfl, by simp, hzr⟩
        case round =>
          clear d4 hzw hzr
          obtain ⟨i, hi, rfl, rfl, hall, hzr⟩ := hrel
          have hzw := hz.trans' hzr
          have hfits : ∀ x ∈ l.take i, fitM x.amt = true := List.all_eq_true.1 hall
          have hsl := sumL_le (l.take i) hfits i (by rw [List.length_take, hl.out]; omega)
          rw [List.take_take, Nat.min_self] at hsl
          by_cases hlt : i < k
          · have hkl : i < l.length := by rw [hl.out]; exact hlt
            obtain ⟨ad, rfl, c0, c1, c2⟩ := line_cells (hs.chg hzw (by simp)) hkl
            have e1 := all_take (p := fun x : Ln => fitM x.amt) (l := l) hkl
            have e2 := all_bad (p := fun x : Ln => fitM x.amt) (l := l) hkl
            have e3 := sumL_take l hkl
            generalize l[i] = x at *
            obtain ⟨xa, xm, xp⟩ := x
            dsimp only at *
            have hft := fun (W : World) (B : Nat) (hB : W.heap.size = B) => jo_fits (w := W.alloc (.cells #[.int .i64 xm] 3)) (l := [xm]) (c := 1) (Src.one1 hB) (by omega)
            simp only [List.all_cons, List.all_nil, Bool.and_true] at hft
            clear hfits
            cases hb : fitM xm with
            | false =>
              rw [hb] at hft
              replace e2 := e2 hb
              have hR : Hid (R = 2) := Lib.hid (by rw [hck2.out, e2]; rfl)
              clear e1 e2 e3 hall hb hck2
              go_wp2_with fail
              refine (hft (wr.alloc (.cells #[.int .i64 xa, .int .i64 xm, .int .i64 xp] 28)) _ (by simp)).mono ?_
              rintro e w3 ⟨rfl, rfl⟩
              go_wp2_with fail
              go_ret
              exact ⟨by rw [hR.out]; rfl, (hzw.alloc _).alloc _⟩
            | true =>
              rw [hb] at hft e1
              rw [hall] at e1
              have hxm := fitM_iff.1 hb
              replace e1 := Lib.hid e1
              have hsw : IntKind.i64.wrap (sumL (l.take i) + xm) = sumL (l.take i) + xm := by rw [IntKind.wrap_i64]; omega
              generalize sumL (l.take i) = sv at *
              replace e3 := Lib.hid e3
              clear e2 hall hb
              go_wp2_with fail
              refine (hft (wr.alloc (.cells #[.int .i64 xa, .int .i64 xm, .int .i64 xp] 28)) _ (by simp)).mono ?_
              rintro e w3 ⟨rfl, rfl⟩
              clear hft
              go_wp2_with fail
              exact ⟨⟨i + 1, by omega, by go_num, by rw [e3.out], by rw [e1.out]; rfl, (hzr.alloc _).alloc _⟩, by simp [intOf]; omega⟩
          · obtain rfl : i = k := by omega
            rw [List.take_of_length_le (by rw [hl.out]; exact Nat.le_refl _)] at hall hsl ⊢
            clear hfits
            by_cases h0 : sumL l = 0
            · have hR : Hid (R = 0) := Lib.hid (by rw [hck2.out, hall, h0]; rfl)
              rw [h0]
              clear hck2 hall hsl h0
              go_wp2_with fail
              go_ret
              exact ⟨by rw [hR.out]; rfl, hzw⟩
            · have hR : Hid (R = 3) := Lib.hid (by rw [hck2.out, hall]; simp [h0])
              have b0 : (sumL l != 0) = true := by simp [h0]
              generalize sumL l = sv at *
              clear hck2 hall hsl h0
              go_wp2_with fail
              go_ret
              exact ⟨by rw [hR.out]; rfl, hzw⟩
end Go.Proofs.Ytlgfmphjgijilaa
