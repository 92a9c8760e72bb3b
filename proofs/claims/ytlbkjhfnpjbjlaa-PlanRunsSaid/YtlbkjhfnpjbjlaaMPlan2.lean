/- Parts of the proofs of Plan: contracts of the functions that they reach, in their order. -/
import Derived.Test.YtlbkjhfnpjbjlaaMPlan1
import Derived.Laws.ResultCell
import Derived.Test.YtlbkjhfnpjbjlaaProg
import Derived.Deep.RegionLaw
import Derived.Shelf.Small.Bits
import Derived.Shelf.Strconv.Itoa0
import Derived.Shelf.Bits.Mul64
import Derived.Shelf.Slices.Turned
import Derived.WalkKit
import Derived.Laws.Bits64b
import Derived.Deep.CutBlock
/- Journals: Check. -/
namespace Go.Proofs.Ytlbkjhfnpjbjlaa
open Go.RowKit Go.Vx
set_option linter.unusedVariables false
set_option linter.unusedSimpArgs false

theorem sumL_take (l : List Ln) {k : Nat} (hk : k < l.length) : sumL (l.take (k + 1)) = sumL (l.take k) + l[k].amt := by
  unfold sumL
  rw [List.take_succ_eq_append_getElem hk, List.foldl_append]
  rfl
theorem sumL_le (l : List Ln) (h : ∀ x ∈ l, fitM x.amt = true) : ∀ k, k ≤ l.length → -(1000000000000000 * (k : Int)) ≤ sumL (l.take k) ∧ sumL (l.take k) ≤ 1000000000000000 * (k : Int)
  | 0, _ => by simp [sumL]
  | k + 1, hk => by
    have ih := sumL_le l h k (by omega)
    rw [sumL_take l (by omega)]
    have := fitM_iff.1 (h _ (List.getElem_mem (show k < l.length by omega)))
    push_cast
    omega
theorem frontB_len {j : Jn} (h : frontB j = true) : j.lines.length ≤ 8 := by
  unfold frontB at h
  simp only [Bool.and_eq_true, decide_eq_true_eq] at h
  exact h.2
set_option maxRecDepth 100000 in
set_option maxHeartbeats 8000000 in
theorem jo_check (j : Jn) {w : World} {A : Option Addr} {n c : Nat} (hs : Src w 3 A n (j.lines.flatMap lnEnc)) (hn : n ≤ 1000000) (hr : j.ref.size ≤ maxLen) : Calls Try.prog 29 #[jnV j (.slice A n c)] w fun e w' => e = .returned (.int .i64 (checkE j)) ∧ Chg [] w w' := by
  have hl : j.lines.length = n := by have := hs.1; rw [flatMap_len lnEnc_len] at this; omega
  have hfr := fun W => jo_front (c := c) j (A := A) hl hr W
  have hck : checkE j = if !frontB j then 1 else if !(j.lines.all (lineB j.ent)) then 1 else if !(j.lines.all fun x => fitM x.amt) then 2 else if sumL j.lines != 0 then 3 else 0 := rfl
  have hle8 := @frontB_len j
  generalize checkE j = R at *
  generalize frontB j = fb at *
  obtain ⟨id, ent, per, ref, l, void⟩ := j
  dsimp only at *
  unfold jnV at *
  dsimp only at *
  have hB := Blk.new w 38 #[.int .i64 id, .int .i64 ent, .int .i64 per, .string ref, .slice A n c, .bool void]
  have hz := (Chg.refl [] w).alloc (.cells #[.int .i64 id, .int .i64 ent, .int .i64 per, .string ref, .slice A n c, .bool void] 38)
  replace hl := Lib.hid hl
  go_enter Try.func29, Try.ntmps29
  go_wp2_with fail
  obtain ⟨w1, hw1⟩ : ∃ w1, w1 = w.alloc (.cells #[.int .i64 id, .int .i64 ent, .int .i64 per, .string ref, .slice A n c, .bool void] 38) := ⟨_, rfl⟩
  rw [← hw1] at hB hz ⊢
  clear hw1
  obtain ⟨jb, hjb⟩ : ∃ jb, w.heap.size = jb := ⟨_, rfl⟩
  rw [hjb] at hB ⊢
  clear hjb
  refine (hfr w1).mono ?_
  rintro e w2 ⟨rfl, hz2⟩
  clear hfr
  cases fb with
  | false =>
    simp only [Bool.not_false, if_true] at hck
    replace hck := Lib.hid hck
    go_wp2_with fail
    go_ret
    exact ⟨by rw [hck.out]; rfl, hz.trans' hz2⟩
  | true =>
    simp only [Bool.not_true, Bool.false_eq_true, if_false] at hck
    have hn8 : n ≤ 8 := by have := hle8 rfl; rw [hl.out] at this; exact this
    have d4 : w2.cell? ⟨jb, 4, none⟩ = some (.slice A n c) := (hB.chg hz2 (by simp)).cell 4
    have hrow := fun (x : Ln) W => jo_row x.acct x.amt x.part ent W
    replace hck := Lib.hid hck
    clear hle8
    go_wp2_with fail
    go_loopw [14] (fun iv wr => ∃ k : Nat, k ≤ n ∧ iv = .int .i64 k ∧ (l.take k).all (lineB ent) = true ∧ Chg [] w1 wr) (fun iv _ => n - (intOf iv).toNat)
    case atStart => exact ⟨0, by omega, rfl, by simp, hz2⟩
    case round =>
      clear d4
      obtain ⟨k, hk, rfl, hall, hzr⟩ := hrel
      have hzw := hz.trans' hzr
      by_cases hlt : k < n
      · have hkl : k < l.length := by rw [hl.out]; exact hlt
        obtain ⟨ad, rfl, c0, c1, c2⟩ := line_cells (hs.chg hzw (by simp)) hkl
        have e1 := jall_take (p := lineB ent) (l := l) hkl
        have e2 := jall_bad (p := lineB ent) (l := l) hkl
        have hrk := hrow l[k]
        generalize l[k] = x at *
        have d1 : wr.cell? ⟨jb, 1, none⟩ = some (.int .i64 ent) := (hB.chg hzr (by simp)).cell 1
        obtain ⟨xa, xm, xp⟩ := x
        dsimp only at *
        have d1a := cell_al d1
        clear hrow
        cases hb : lineB ent ⟨xa, xm, xp⟩ with
        | false =>
          rw [hb] at hrk
          replace e2 := e2 hb
          have hR : Hid (R = 1) := Lib.hid (by rw [hck.out, e2]; rfl)
          clear e1 e2 hall hb hck
          go_wp2_with fail
          refine (hrk _).mono ?_
          rintro e w3 ⟨rfl, hz3⟩
          go_wp2_with fail
          go_ret
          exact ⟨by rw [hR.out]; rfl, (hzw.alloc _).trans' hz3⟩
        | true =>
          rw [hb] at hrk e1
          rw [hall] at e1
          replace e1 := Lib.hid e1
          clear e2 hall hb
          go_wp2_with fail
          refine (hrk _).mono ?_
          rintro e w3 ⟨rfl, hz3⟩
          go_wp2_with fail
          exact ⟨⟨k + 1, by omega, by go_num, by rw [e1.out]; rfl, (hzr.alloc _).trans' hz3⟩, by simp [intOf]; omega⟩
      · obtain rfl : k = n := by omega
        rw [List.take_of_length_le (by rw [hl.out]; exact Nat.le_refl _)] at hall
        have hck2 : Hid (R = if !(l.all fun x => fitM x.amt) then 2 else if sumL l != 0 then 3 else 0) := Lib.hid (by rw [hck.out, hall]; rfl)
        clear hck hall hrow
        have d4 : wr.cell? ⟨jb, 4, none⟩ = some (.slice A k c) := (hB.chg hzr (by simp)).cell 4
        go_wp2_with fail
        go_loopw [5, 27] (fun sv iv wr => ∃ i : Nat, i ≤ k ∧ iv = .int .i64 i ∧ sv = .int .i64 (sumL (l.take i)) ∧ (l.take i).all (fun x => fitM x.amt) = true ∧ Chg [] w1 wr) (fun _ iv _ => k - (intOf iv).toNat)
        case atStart => exact ⟨0, by omega, rfl, rfl, by simp, hzr⟩
        case round =>
          clear d4 hzw hzr
          obtain ⟨i, hi, rfl, rfl, hall, hzr⟩ := hrel
          have hzw := hz.trans' hzr
          have hfits : ∀ x ∈ l.take i, fitM x.amt = true := List.all_eq_true.1 hall
          have hsl := sumL_le (l.take i) hfits i (by rw [List.length_take, hl.out]; omega)
          rw [List.take_take, Nat.min_self] at hsl
          by_cases hlt : i < k
          · have hkl : i < l.length := by rw [hl.out]; exact hlt
            obtain ⟨ad, rfl, c0, c1, c2⟩ := line_cells (hs.chg hzw (by simp)) hkl
            have e1 := jall_take (p := fun x : Ln => fitM x.amt) (l := l) hkl
            have e2 := jall_bad (p := fun x : Ln => fitM x.amt) (l := l) hkl
            have e3 := sumL_take l hkl
            generalize l[i] = x at *
            obtain ⟨xa, xm, xp⟩ := x
            dsimp only at *
            have hft := fun (W : World) (B : Nat) (hB : W.heap.size = B) => jo_fits (w := W.alloc (.cells #[.int .i64 xm] 3)) (l := [xm]) (c := 1) (Src.one1 hB) (by omega)
            simp only [List.all_cons, List.all_nil, Bool.and_true] at hft
            clear hfits
            cases hb : fitM xm with
            | false =>
              rw [hb] at hft
              replace e2 := e2 hb
              have hR : Hid (R = 2) := Lib.hid (by rw [hck2.out, e2]; rfl)
              clear e1 e2 e3 hall hb hck2
              go_wp2_with fail
              refine (hft (wr.alloc (.cells #[.int .i64 xa, .int .i64 xm, .int .i64 xp] 40)) _ (by simp)).mono ?_
              rintro e w3 ⟨rfl, rfl⟩
              go_wp2_with fail
              go_ret
              exact ⟨by rw [hR.out]; rfl, (hzw.alloc _).alloc _⟩
            | true =>
              rw [hb] at hft e1
              rw [hall] at e1
              have hxm := fitM_iff.1 hb
              replace e1 := Lib.hid e1
              have hsw : IntKind.i64.wrap (sumL (l.take i) + xm) = sumL (l.take i) + xm := by rw [IntKind.wrap_i64]; omega
              generalize sumL (l.take i) = sv at *
              replace e3 := Lib.hid e3
              clear e2 hall hb
              go_wp2_with fail
              refine (hft (wr.alloc (.cells #[.int .i64 xa, .int .i64 xm, .int .i64 xp] 40)) _ (by simp)).mono ?_
              rintro e w3 ⟨rfl, rfl⟩
              clear hft
              go_wp2_with fail
              exact ⟨⟨i + 1, by omega, by go_num, by rw [e3.out], by rw [e1.out]; rfl, (hzr.alloc _).alloc _⟩, by simp [intOf]; omega⟩
          · obtain rfl : i = k := by omega
            rw [List.take_of_length_le (by rw [hl.out]; exact Nat.le_refl _)] at hall hsl ⊢
            clear hfits
            by_cases h0 : sumL l = 0
            · have hR : Hid (R = 0) := Lib.hid (by rw [hck2.out, hall, h0]; rfl)
              rw [h0]
              clear hck2 hall hsl h0
              go_wp2_with fail
              go_ret
              exact ⟨by rw [hR.out]; rfl, hzw⟩
            · have hR : Hid (R = 3) := Lib.hid (by rw [hck2.out, hall]; simp [h0])
              have b0 : (sumL l != 0) = true := by simp [h0]
              generalize sumL l = sv at *
              clear hck2 hall hsl h0
              go_wp2_with fail
              go_ret
              exact ⟨by rw [hR.out]; rfl, hzw⟩
end Go.Proofs.Ytlbkjhfnpjbjlaa
/- Journals: Copy. -/
namespace Go.Proofs.Ytlbkjhfnpjbjlaa
open Go.RowKit Go.Vx
set_option linter.unusedVariables false
set_option linter.unusedSimpArgs false
attribute [local go_sem] Lib.run_eql_slice_nil run_neq_slice_nil_any run_eql_nil_slice run_neq_nil_slice

theorem results_cell1 {fn : Func} {p : Tmp} {ty : TypeId} (h : fn.results = #[.cell p ty]) (tmps : Array Value) (P : Program) (w : World) :
    (results fn tmps).run P w = ((asAddr (tmps.getD p undef)).run P w).andThen fun a w₁ => (loadVar ty a).run P w₁ := by
  simp only [results, h]
  simp [Sem.run_bind, Result.andThen]
theorem lineInfo : (Try.prog.info? 40).map (fun i => (i.zero, i.size, i.bytes)) = some (some (.agg #[.int .i64 0, .int .i64 0, .int .i64 0]), 3, 24) := by kernel_rfl
theorem cloneLines {w : World} {A : Option Addr} {n c : Nat} {xs : List Value} (hs : Src w 3 A n xs) (h1 : ∀ u ∈ xs, u.oneCell' = true) (hn : n ≤ 1000000) :
    Calls Try.prog 67 #[.slice A n c] w fun e w' => ∃ v F, e = .returned v ∧ Fix w' 40 3 v n xs F ∧ Chg [] w w' ∧ (∀ g, g ∈ F → w.heap.size ≤ g) ∧ (A ≠ none → ∃ a' c', v = .slice (some a') n c') := by
  obtain ⟨i0, hi, hz0, hz1, hz2⟩ := info_parts lineInfo
  go_enter Try.func67, Try.ntmps67
  cases A with
  | none =>
    have hn0 : n = 0 := by
      rcases Nat.eq_zero_or_pos n with h | h
      · exact h
      · obtain ⟨ad, h, _⟩ := hs.2 h
        cases h
    subst hn0
    have hx : xs = [] := List.eq_nil_of_length_eq_zero (by simpa using hs.1)
    subst hx
    go_wp2
    go_ret
    exact ⟨_, [], rfl, Fix.nil _ _ _, Chg.refl _ _, by simp, by simp⟩
  | some a =>
    go_wp2_with (at_builtin; refine wpList_append_fix rfl (.tmp 5) (.tmp 6) 36 rfl Try.underlying36 hi hz0 hz1 hz2 rfl (by omega) (n := 0) (xs := []) (F := []) rfl (Fix.empty _ _ _ _) rfl (hs.alloc _) h1 (by unfold maxLen; omega) (by omega) ?_; intro v' w1 F1 ha)
    go_ret
    refine ⟨v', F1, rfl, by simpa using ha.fix, ?_, ?_, fun _ => ?_⟩
    · exact ((Chg.refl [] w).alloc _).trans ha.chg (by simp)
    · rcases ha.foot with h | h <;> rw [h] <;> simp
    · rcases Nat.eq_zero_or_pos n with h0 | h0
      · rw [(ha.same h0).1, h0]
        exact ⟨_, _, rfl⟩
      · obtain ⟨g, c, hv, -⟩ := ha.head h0
        rw [hv, Nat.zero_add]
        exact ⟨_, _, rfl⟩
set_option maxRecDepth 8000 in
set_option maxHeartbeats 2000000 in
theorem jo_copy (j : Jn) {w : World} {A : Option Addr} {n c : Nat} (hs : Src w 3 A n (j.lines.flatMap lnEnc)) (hn : n ≤ 1000000) : Calls Try.prog 61 #[jnV j (.slice A n c)] w fun e w' => ∃ v F, e = .returned (jnV j v) ∧ Fix w' 40 3 v n (j.lines.flatMap lnEnc) F ∧ (∀ g ∈ F, w.heap.size ≤ g) ∧ Chg [] w w' := by
  obtain ⟨id, ent, per, ref, l, void⟩ := j
  unfold jnV
  dsimp only at *
  have hone := oneLines l
  generalize l.flatMap lnEnc = xs at *
  have hcl := fun W (z : Chg [] w W) => cloneLines (c := c) (hs.chg z (by simp)) hone hn
  have hz := ((Chg.refl [] w).alloc (.cells #[.int .i64 id, .int .i64 ent, .int .i64 per, .string ref, .slice A n c, .bool void] 38)).alloc (.cells #[.int .i64 0, .int .i64 0, .int .i64 0, .string ⟨#[]⟩, .slice none 0 0, .bool false] 38)
  have hB := (Blk.new w 38 #[.int .i64 id, .int .i64 ent, .int .i64 per, .string ref, .slice A n c, .bool void]).alloc (.cells #[.int .i64 0, .int .i64 0, .int .i64 0, .string ⟨#[]⟩, .slice none 0 0, .bool false] 38)
  have hB2 := Blk.new (w.alloc (.cells #[.int .i64 id, .int .i64 ent, .int .i64 per, .string ref, .slice A n c, .bool void] 38)) 38 #[.int .i64 0, .int .i64 0, .int .i64 0, .string ⟨#[]⟩, .slice none 0 0, .bool false]
  have e0 : (w.alloc (.cells #[.int .i64 id, .int .i64 ent, .int .i64 per, .string ref, .slice A n c, .bool void] 38)).heap.size = w.heap.size + 1 := by simp
  rw [e0] at hB2
  clear e0
  go_enter Try.func61, Try.ntmps61
  go_wp2_with fail
  refine (hcl _ hz).mono ?_
  rintro e w2 ⟨v, F, rfl, hf, hz2, hF, -⟩
  replace hB := hB.chg hz2 (by simp)
  replace hB2 := hB2.chg hz2 (by simp)
  have hsz := hz2.size
  simp only [World.size_alloc] at hF
  obtain ⟨A2, c2, rfl, -⟩ := _root_.id hf
  have d0 : w2.cell? ⟨w.heap.size, 0, none⟩ = some (.int .i64 id) := hB.cell 0
  have d1 : w2.cell? ⟨w.heap.size, 1, none⟩ = some (.int .i64 ent) := hB.cell 1
  have d2 : w2.cell? ⟨w.heap.size, 2, none⟩ = some (.int .i64 per) := hB.cell 2
  have d3 : w2.cell? ⟨w.heap.size, 3, none⟩ = some (.string ref) := hB.cell 3
  have d4 : w2.cell? ⟨w.heap.size, 4, none⟩ = some (.slice A n c) := hB.cell 4
  have d5 : w2.cell? ⟨w.heap.size, 5, none⟩ = some (.bool void) := hB.cell 5
  have f4 : w2.frozen? ⟨w.heap.size, 4, none⟩ = false := hB.frozen 4
  have g0 : w2.cell? ⟨w.heap.size + 1, 0, none⟩ = some (.int .i64 0) := hB2.cell 0
  have k0 : w2.frozen? ⟨w.heap.size + 1, 0, none⟩ = false := hB2.frozen 0
  have g1 : w2.cell? ⟨w.heap.size + 1, 1, none⟩ = some (.int .i64 0) := hB2.cell 1
  have k1 : w2.frozen? ⟨w.heap.size + 1, 1, none⟩ = false := hB2.frozen 1
  have g2 : w2.cell? ⟨w.heap.size + 1, 2, none⟩ = some (.int .i64 0) := hB2.cell 2
  have k2 : w2.frozen? ⟨w.heap.size + 1, 2, none⟩ = false := hB2.frozen 2
  have g3 : w2.cell? ⟨w.heap.size + 1, 3, none⟩ = some (.string ⟨#[]⟩) := hB2.cell 3
  have k3 : w2.frozen? ⟨w.heap.size + 1, 3, none⟩ = false := hB2.frozen 3
  have g4 : w2.cell? ⟨w.heap.size + 1, 4, none⟩ = some (.slice none 0 0) := hB2.cell 4
  have k4 : w2.frozen? ⟨w.heap.size + 1, 4, none⟩ = false := hB2.frozen 4
  have g5 : w2.cell? ⟨w.heap.size + 1, 5, none⟩ = some (.bool false) := hB2.cell 5
  have k5 : w2.frozen? ⟨w.heap.size + 1, 5, none⟩ = false := hB2.frozen 5
  clear hcl
  have hz1 : Chg [] w w2 := hz.trans' hz2
  have hFn : ∀ g ∈ F, g ∉ [w.heap.size, w.heap.size + 1] := fun g hg hm => by
    have := hF g hg
    simp at hm
    omega
  clear hz hz2 hsz hB hB2
  go_wp2_with fail
  refine bodyPost_ret (v := .agg #[.int .i64 id, .int .i64 ent, .int .i64 per, .string ref, .slice A2 n c2, .bool void]) (by rw [results_cell1 rfl]; go_simp) rfl ?_
  have key : ∀ W', Chg [w.heap.size, w.heap.size + 1] w2 W' → Fix W' 40 3 (.slice A2 n c2) n xs F ∧ (∀ g ∈ F, w.heap.size ≤ g) ∧ Chg [] w W' := fun W' k =>
    ⟨hf.chg k hFn, fun g hg => by have := hF g hg; omega, hz1.trans k (fun g hg => .inr (by simp at hg; omega))⟩
  exact ⟨_, F, rfl, key _ ((((((((Chg.refl _ w2).setCell (.inl (by simp)) _).setCell (.inl (by simp)) _).setCell (.inl (by simp)) _).setCell (.inl (by simp)) _).setCell (.inl (by simp)) _).setCell (.inl (by simp)) _).setCell (.inl (by simp)) _)⟩
end Go.Proofs.Ytlbkjhfnpjbjlaa
/- The money's small functions: Fits, size, signed, weigh. -/
namespace Go.Proofs.Ytlbkjhfnpjbjlaa
open Go.RowKit Go.Vx
set_option linter.unusedVariables false
set_option linter.unusedSimpArgs false

/-- An amount that may be. -/
def okM (a : Int) : Bool := !(decide (a < -1000000000000000) || decide (1000000000000000 < a))
theorem okM_iff {a : Int} : okM a = true ↔ -1000000000000000 ≤ a ∧ a ≤ 1000000000000000 := by simp [okM]
theorem okM_not {a : Int} : okM a = false ↔ (a < -1000000000000000 ∨ 1000000000000000 < a) := by
  simp [okM]
  omega
theorem all_take {α : Type} {p : α → Bool} {l : List α} {k : Nat} (hk : k < l.length) : (l.take (k + 1)).all p = ((l.take k).all p && p l[k]) := by
  rw [List.take_add_one, List.all_append]
  simp [hk]
theorem all_bad {α : Type} {p : α → Bool} {l : List α} {k : Nat} (hk : k < l.length) (h : p l[k] = false) : l.all p = false := by
  rw [List.all_eq_false]
  exact ⟨l[k], List.getElem_mem hk, by simp [h]⟩
theorem m_fits {w : World} {A : Option Addr} {n c : Nat} {l : List Int} (hs : Src w 1 A n (l.map (Value.int .i64))) (hn : n ≤ 1000000) :
    Calls Try.prog 46 #[.slice A n c] w fun e w' => e = .returned (.bool (l.all okM)) ∧ w = w' := by
  have hl : l.length = n := by have := hs.1; simpa using this
  go_enter Try.func46, Try.ntmps46
  go_wp2
  go_loopw [7] (fun i wr => ∃ k : Nat, k ≤ n ∧ i = .int .i64 k ∧ (l.take k).all okM = true ∧ w = wr) (fun i _ => n - (intOf i).toNat)
  case atStart => exact ⟨0, by omega, rfl, by simp, rfl⟩
  case round =>
    obtain ⟨k, hk, rfl, hall, rfl⟩ := hrel
    by_cases hlt : k < n
    · obtain ⟨ad, rfl, hc⟩ := hs.2 (by omega)
      have hck := hc k (.int .i64 (l[k]'(by omega))) (by simp [hl, hlt])
      have e1 := all_take (p := okM) (l := l) (k := k) (by omega)
      have e2 := all_bad (p := okM) (l := l) (k := k) (by omega)
      generalize hx : l[k]'(by omega) = x at *
      clear hc
      replace hall := Lib.hid hall
      replace e1 := Lib.hid e1
      cases h1 : okM x with
      | true =>
        have b1 : decide (x < -1000000000000000) = false := by simp [okM] at h1; simp; omega
        have b2 : decide (1000000000000000 < x) = false := by simp [okM] at h1; simp; omega
        clear e2
        replace h1 := Lib.hid h1
        go_wp2
        go_roundw
        case measure => simp [intOf]; omega
        case rel => exact ⟨k + 1, by omega, by go_num, by rw [e1.out, hall.out, h1.out]; rfl, by trivial⟩
      | false =>
        replace e2 := Lib.hid (e2 h1)
        rcases okM_not.1 h1 with h2 | h2
        · have b1 : decide (x < -1000000000000000) = true := by simpa using h2
          go_wp2
          go_ret
          exact ⟨by rw [e2.out]; rfl, rfl⟩
        · have b1 : decide (x < -1000000000000000) = false := by simp; omega
          have b2 : decide (1000000000000000 < x) = true := by simpa using h2
          go_wp2
          go_ret
          exact ⟨by rw [e2.out]; rfl, rfl⟩
    · obtain rfl : k = n := by omega
      rw [← hl, List.take_length] at hall
      replace hall := Lib.hid hall
      replace hl := Lib.hid hl
      go_wp2
      go_ret
      exact ⟨by rw [hall.out]; rfl, by trivial⟩
theorem m_size (a : Int) (ha : okM a = true) (w : World) :
    Calls Try.prog 63 #[.int .i64 a] w fun e w' => e = .returned (.int .u64 (a.natAbs : Int)) ∧ w = w' := by
  obtain ⟨h1, h2⟩ := okM_iff.1 ha
  clear ha
  rcases Int.lt_or_le a 0 with h | h
  · have e : IntKind.u64.wrap (IntKind.i64.wrap (-a)) = (a.natAbs : Int) := by
      rw [IntKind.wrap_i64, IntKind.wrap_u64]; omega
    go_enter Try.func63, Try.ntmps63
    go_wp2
    go_ret
    exact ⟨by rw [show (a.natAbs : Int) = -a by omega]; rfl, rfl⟩
  · have e : IntKind.u64.wrap a = (a.natAbs : Int) := by
      rw [IntKind.wrap_u64]; omega
    go_enter Try.func63, Try.ntmps63
    go_wp2
    go_ret
    exact ⟨rfl, rfl⟩
theorem m_signed (n : Nat) (like : Int) (hn : n ≤ 1000000000000000) (w : World) :
    Calls Try.prog 66 #[.int .u64 n, .int .i64 like] w fun e w' => e = .returned (.int .i64 (if like < 0 then -(n : Int) else n)) ∧ w = w' := by
  rcases Int.lt_or_le like 0 with h | h
  · have e : IntKind.i64.wrap (n : Int) = (n : Int) := by rw [IntKind.wrap_i64]; omega
    go_enter Try.func66, Try.ntmps66
    go_wp2
    go_ret
    exact ⟨rfl, rfl⟩
  · have e : IntKind.i64.wrap (n : Int) = (n : Int) := by rw [IntKind.wrap_i64]; omega
    go_enter Try.func66, Try.ntmps66
    go_wp2
    go_ret
    exact ⟨rfl, rfl⟩
/-- A weight that may be. -/
def okW (a : Int) : Bool := !(decide (a < 0) || decide (1000000 < a))
theorem okW_iff {a : Int} : okW a = true ↔ 0 ≤ a ∧ a ≤ 1000000 := by simp [okW]
theorem okW_not {a : Int} : okW a = false ↔ (a < 0 ∨ 1000000 < a) := by
  simp [okW]
  omega
def weigh (l : List Int) : Int := if l.length ≤ 20 ∧ l.all okW = true then l.sum else 0
theorem sum_take {l : List Int} {k : Nat} (hk : k < l.length) : (l.take (k + 1)).sum = (l.take k).sum + l[k] := by
  rw [List.take_add_one, List.sum_append]
  simp [hk]
theorem sum_okW : ∀ {l : List Int}, l.all okW = true → 0 ≤ l.sum ∧ l.sum ≤ l.length * 1000000
  | [], _ => by simp
  | a :: l, h => by
    simp only [List.all_cons, Bool.and_eq_true] at h
    have := sum_okW h.2
    have := okW_iff.1 h.1
    simp only [List.sum_cons, List.length_cons]
    omega
theorem m_weigh {w : World} {A : Option Addr} {n c : Nat} {l : List Int} (hs : Src w 1 A n (l.map (Value.int .i64))) (hn : n ≤ 1000000) :
    Calls Try.prog 62 #[.slice A n c] w fun e w' => e = .returned (.int .i64 (weigh l)) ∧ w = w' := by
  have hl : l.length = n := by have := hs.1; simpa using this
  have hweigh : ∀ r, weigh l = r → Hid (Ending.returned (Value.int .i64 r) = Ending.returned (Value.int .i64 (weigh l))) := by rintro r rfl; exact Lib.hid rfl
  by_cases h20 : 20 < n
  · have e := hweigh 0 (by simp [weigh]; omega)
    have b : decide (20 < (n : Int)) = true := by simp; omega
    clear hweigh
    go_enter Try.func62, Try.ntmps62
    go_wp2
    go_ret
    exact ⟨e.out, rfl⟩
  have b : decide (20 < (n : Int)) = false := by simp; omega
  go_enter Try.func62, Try.ntmps62
  go_wp2
  go_loopw [3, 11] (fun s i wr => ∃ k : Nat, k ≤ n ∧ i = .int .i64 k ∧ s = .int .i64 (l.take k).sum ∧ (l.take k).all okW = true ∧ w = wr) (fun _ i _ => n - (intOf i).toNat)
  case atStart => exact ⟨0, by omega, rfl, by simp, by simp, rfl⟩
  case round =>
    obtain ⟨k, hk, rfl, rfl, hall, rfl⟩ := hrel
    obtain ⟨s1, s2⟩ := sum_okW hall
    have hlk : (l.take k).length = k := by simp; omega
    rw [hlk] at s2
    by_cases hlt : k < n
    · obtain ⟨ad, rfl, hc⟩ := hs.2 (by omega)
      have hck := hc k (.int .i64 (l[k]'(by omega))) (by simp [hl, hlt])
      have e1 := all_take (p := okW) (l := l) (k := k) (by omega)
      have e2 := all_bad (p := okW) (l := l) (k := k) (by omega)
      have e3 := sum_take (l := l) (k := k) (by omega)
      generalize hx : l[k]'(by omega) = x at *
      clear hc
      replace hall := Lib.hid hall
      replace e1 := Lib.hid e1
      replace e3 := Lib.hid e3
      cases h1 : okW x with
      | true =>
        have b1 : decide (x < 0) = false := by simp [okW] at h1; simp; omega
        have b2 : decide (1000000 < x) = false := by simp [okW] at h1; simp; omega
        have h3 := okW_iff.1 h1
        clear e2
        replace h1 := Lib.hid h1
        have e4 : Hid (IntKind.i64.wrap ((l.take k).sum + x) = (l.take (k + 1)).sum) := by show _ = _; rw [IntKind.wrap_i64, e3.out]; omega
        generalize (l.take k).sum = s at *
        go_wp2
        go_roundw
        case measure => simp [intOf]; omega
        case rel => exact ⟨k + 1, by omega, by go_num, by first | rw [e3.out] | rw [e4.out], by rw [e1.out, hall.out, h1.out]; rfl, by trivial⟩
      | false =>
        have e := hweigh 0 (by simp [weigh, e2 h1])
        clear e2 hweigh
        generalize (l.take k).sum = s at *
        rcases okW_not.1 h1 with h2 | h2
        · have b1 : decide (x < 0) = true := by simpa using h2
          go_wp2
          go_ret
          exact ⟨e.out, rfl⟩
        · have b1 : decide (x < 0) = false := by simp; omega
          have b2 : decide (1000000 < x) = true := by simpa using h2
          go_wp2
          go_ret
          exact ⟨e.out, rfl⟩
    · obtain rfl : k = n := by omega
      have e := hweigh (l.take k).sum (by
        rw [← hl, List.take_length] at hall ⊢
        rw [weigh, if_pos ⟨by omega, hall⟩])
      clear hweigh
      replace hall := Lib.hid hall
      replace hl := Lib.hid hl
      generalize (l.take k).sum = s at *
      go_wp2
      go_ret
      exact ⟨e.out, by trivial⟩
end Go.Proofs.Ytlbkjhfnpjbjlaa
/-
  DERIVED: THE SHELF's CONTRACTS AT THIS DUMP, IN PLAIN WORDS (tools/lay-plain.mjs out of 'TryShelf.lean', which tools/lay-shelf.mjs wrote): THE SAME DECLARATIONS UNDER THE SAME NAMES: 'import', 'namespace', 'open', 'def', 'theorem' AND NOTHING ELSE: no command of the shelf's: FOR A HAND-IN. Each laying: the table of numbers ('.._ren') and one theorem, a field a fact of the dump's own or the kernel's comparison; each contract: ONE APPLICATION.
-/
namespace Go.Proofs
open Go.Shelf
def Try.lays134_ren : Go.Shelf.Ren := ⟨fun | 134 => 68 | 129 => 69 | n => n, fun | 53 => 111 | 3 => 3 | 4 => 4 | 46 => 125 | 5 => 5 | 9 => 9 | n => n, fun | n => n⟩
theorem Try.lays134 : Go.Proofs.Lays.n134 Try.prog Try.lays134_ren := {
  mixed := by kernel_rfl
  f129 := Try.func69.trans (congrArg some (by kernel_rfl))
  f134 := Try.func68.trans (congrArg some (by kernel_rfl))
  t3 := Try.underlying3
  a3 := Try.isAgg3
  z3 := Try.sizeOf3
  v3 := Try.zeroValue3
  t4 := Try.underlying4
  a4 := Try.isAgg4
  z4 := Try.sizeOf4
  v4 := Try.zeroValue4
  t5 := Try.underlying5
  a5 := Try.isAgg5
  z5 := Try.sizeOf5
  v5 := Try.zeroValue5
  t9 := Try.underlying9
  a9 := Try.isAgg9
  z9 := Try.sizeOf9
  v9 := Try.zeroValue9
  t46 := Try.underlying125
  a46 := Try.isAgg125
  z46 := Try.sizeOf125
  v46 := Try.zeroValue125
  t53 := Try.underlying111
  a53 := Try.isAgg111
  z53 := Try.sizeOf111
  v53 := Try.zeroValue111 }
/-- bits.LeadingZeros64: "LeadingZeros64 returns the number of leading zero bits in x; the result is 64 for x == 0.": IT RETURNS '64 - Lib.bitLen x'; the world is as it was. ITS CALLEE bits.Len64 IS MET BY ITS OWN CONTRACT OFF THE SHELF (lay that first): entered in place it sends the kernel out of memory. (LAID: no walk: one application.) -/
theorem Try.bits_LeadingZeros64 (x : Int) (w : World) (h0 : 0 ≤ x) (h1 : x ≤ 18446744073709551615) :
    Calls Try.prog 68 #[.int .u64 x] w fun e w' => e = .returned (.int .i64 (64 - (Lib.bitLen x.toNat : Int))) ∧ w' = w := Any.bits_LeadingZeros64 Try.lays134 x w h0 h1
def Try.lays129_ren : Go.Shelf.Ren := ⟨fun | 129 => 69 | n => n, fun | 53 => 111 | 3 => 3 | 4 => 4 | 46 => 125 | 5 => 5 | 9 => 9 | n => n, fun | n => n⟩
theorem Try.lays129 : Go.Proofs.Lays.n129 Try.prog Try.lays129_ren := {
  mixed := by kernel_rfl
  f129 := Try.func69.trans (congrArg some (by kernel_rfl))
  t3 := Try.underlying3
  a3 := Try.isAgg3
  z3 := Try.sizeOf3
  v3 := Try.zeroValue3
  t4 := Try.underlying4
  a4 := Try.isAgg4
  z4 := Try.sizeOf4
  v4 := Try.zeroValue4
  t5 := Try.underlying5
  a5 := Try.isAgg5
  z5 := Try.sizeOf5
  v5 := Try.zeroValue5
  t9 := Try.underlying9
  a9 := Try.isAgg9
  z9 := Try.sizeOf9
  v9 := Try.zeroValue9
  t46 := Try.underlying125
  a46 := Try.isAgg125
  z46 := Try.sizeOf125
  v46 := Try.zeroValue125
  t53 := Try.underlying111
  a53 := Try.isAgg111
  z53 := Try.sizeOf111
  v53 := Try.zeroValue111 }
/-- bits.Len64: "Len64 returns the minimum number of bits required to represent x; the result is 0 for x == 0.": IT RETURNS 'Lib.bitLen x'; the world is as it was. ('h0', 'h1': x is a uint64.) (LAID: no walk: one application.) -/
theorem Try.bits_Len64 (x : Int) (w : World) (h0 : 0 ≤ x) (h1 : x ≤ 18446744073709551615) :
    Calls Try.prog 69 #[.int .u64 x] w fun e w' => e = .returned (.int .i64 (Lib.bitLen x.toNat)) ∧ w' = w := Any.bits_Len64 Try.lays129 x w h0 h1
def Try.lays264_ren : Go.Shelf.Ren := ⟨fun | 264 => 64 | n => n, fun | 53 => 111 | 46 => 125 | n => n, fun | n => n⟩
theorem Try.lays264 : Go.Proofs.Lays.n264 Try.prog Try.lays264_ren := {
  mixed := by kernel_rfl
  f264 := Try.func64.trans (congrArg some (by kernel_rfl))
  t46 := Try.underlying125
  a46 := Try.isAgg125
  z46 := Try.sizeOf125
  v46 := Try.zeroValue125
  t53 := Try.underlying111
  a53 := Try.isAgg111
  z53 := Try.sizeOf111
  v53 := Try.zeroValue111 }
open Go.RowKit Go.Lib in
theorem Try.bits_Mul64 (x y : Nat) (hx : x < 18446744073709551616) (hy : y < 18446744073709551616) (w : World) :
    Calls Try.prog 64 #[.int .u64 x, .int .u64 y] w fun e w' => e = .returned (.tuple #[.int .u64 ((x * y / 18446744073709551616 : Nat) : Int), .int .u64 ((x * y % 18446744073709551616 : Nat) : Int)]) ∧ w' = w := Any.bits_Mul64 Try.lays264 x y hx hy w
def Try.lays108_ren : Go.Shelf.Ren := ⟨fun | 108 => 39 | n => n, fun | 28 => 22 | 3 => 3 | 0 => 0 | 4 => 4 | n => n, fun | n => n⟩
theorem Try.lays108 : Go.Proofs.Lays.n108 Try.prog Try.lays108_ren := {
  mixed := by kernel_rfl
  f108 := Try.func39.trans (congrArg some (by kernel_rfl))
  t0 := Try.underlying0
  a0 := Try.isAgg0
  z0 := Try.sizeOf0
  v0 := Try.zeroValue0
  t3 := Try.underlying3
  a3 := Try.isAgg3
  z3 := Try.sizeOf3
  v3 := Try.zeroValue3
  t4 := Try.underlying4
  a4 := Try.isAgg4
  z4 := Try.sizeOf4
  v4 := Try.zeroValue4
  t28 := Try.underlying22
  a28 := Try.isAgg22
  z28 := Try.sizeOf22
  v28 := Try.zeroValue22 }
open Go.Lib in
/-- slices.Index at []int: "Index returns the index of the first occurrence of v in s, or -1 if not present.": IT RETURNS 'Lib.idxOf (the elements) v'; the world is as it was. 'zs': what the cells behind the slice's address hold (its spare capacity too, if you have it); 'zs.take n': its elements. (LAID: no walk: one application.) -/
theorem Try.slices_Index_int (b off n c : Nat) (zs : List Int) (x : Int) (w : World) (hz : n ≤ zs.length) (hbig : n ≤ 9223372036854775807) (hc : ∀ j, j < zs.length → w.cell? ⟨b, off + j, none⟩ = some (.int .i64 (zs.getD j 0))) :
    Calls Try.prog 39 #[.slice (some ⟨b, off, none⟩) n c, .int .i64 x] w fun e w' => e = .returned (.int .i64 (Lib.idxOf (zs.take n) x)) ∧ w' = w := Any.slices_Index_int Try.lays108 b off n c zs x w hz hbig hc
open Go.Lib in
/-- The same at a slice of length 0, a nil one too: no cell is known, none is asked for. (LAID: no walk: one application.) -/
theorem Try.slices_Index_int_empty (a : Option Addr) (c : Nat) (x : Int) (w : World) :
    Calls Try.prog 39 #[.slice a 0 c, .int .i64 x] w fun e w' => e = .returned (.int .i64 (Lib.idxOf [] x)) ∧ w' = w := Any.slices_Index_int_empty Try.lays108 a c x w
def Try.lays107_ren : Go.Shelf.Ren := ⟨fun | 107 => 27 | 108 => 39 | n => n, fun | 28 => 22 | 3 => 3 | 4 => 4 | 0 => 0 | n => n, fun | n => n⟩
theorem Try.lays107 : Go.Proofs.Lays.n107 Try.prog Try.lays107_ren := {
  mixed := by kernel_rfl
  f107 := Try.func27.trans (congrArg some (by kernel_rfl))
  f108 := Try.func39.trans (congrArg some (by kernel_rfl))
  t0 := Try.underlying0
  a0 := Try.isAgg0
  z0 := Try.sizeOf0
  v0 := Try.zeroValue0
  t3 := Try.underlying3
  a3 := Try.isAgg3
  z3 := Try.sizeOf3
  v3 := Try.zeroValue3
  t4 := Try.underlying4
  a4 := Try.isAgg4
  z4 := Try.sizeOf4
  v4 := Try.zeroValue4
  t28 := Try.underlying22
  a28 := Try.isAgg22
  z28 := Try.sizeOf22
  v28 := Try.zeroValue22 }
open Go.Lib in
/-- slices.Contains at []int: "Contains reports whether v is present in s.": IT RETURNS 'elements.contains v'; the world is as it was. ITS CALLEE slices.Index IS MET BY ITS OWN CONTRACT OFF THE SHELF (lay that first): no loop is walked here. (LAID: no walk: one application.) -/
theorem Try.slices_Contains_int (b off n c : Nat) (zs : List Int) (x : Int) (w : World) (hz : n ≤ zs.length) (hbig : n ≤ 9223372036854775807) (hc : ∀ j, j < zs.length → w.cell? ⟨b, off + j, none⟩ = some (.int .i64 (zs.getD j 0))) :
    Calls Try.prog 27 #[.slice (some ⟨b, off, none⟩) n c, .int .i64 x] w fun e w' => e = .returned (.bool ((zs.take n).contains x)) ∧ w' = w := Any.slices_Contains_int Try.lays107 b off n c zs x w hz hbig hc
open Go.Lib in
/-- The same at a slice of length 0, a nil one too. (LAID: no walk: one application.) -/
theorem Try.slices_Contains_int_empty (a : Option Addr) (c : Nat) (x : Int) (w : World) :
    Calls Try.prog 27 #[.slice a 0 c, .int .i64 x] w fun e w' => e = .returned (.bool false) ∧ w' = w := Any.slices_Contains_int_empty Try.lays107 a c x w
end Go.Proofs
/- Division of a number of two words: one digit. No program. -/
namespace Go.Vx
set_option linter.unusedVariables false

/-- The loop that mends a digit's guess. -/
def mend (yn1 yn0 un : Nat) : Nat → Nat → Nat → Nat
  | 0, q, r => q
  | f + 1, q, r => if 4294967296 ≤ q ∨ 4294967296 * r + un < q * yn0 then (if 4294967296 ≤ r + yn1 then q - 1 else mend yn1 yn0 un f (q - 1) (r + yn1)) else q
/-- A digit: the guess is not too small, and what the loop leaves is just right. -/
theorem mend_ok {yn1 yn0 un u : Nat} (h1 : 0 < yn1) (h0 : yn0 < 4294967296) (hun : un < 4294967296) (hu : u < yn1 * 4294967296 + yn0) :
    ∀ (f q r : Nat), q < f → q * yn1 + r = u → r < 4294967296 → (u * 4294967296 + un) / (yn1 * 4294967296 + yn0) ≤ q → mend yn1 yn0 un f q r = (u * 4294967296 + un) / (yn1 * 4294967296 + yn0) := by
  have hy : 0 < yn1 * 4294967296 + yn0 := by have := Nat.mul_le_mul_right 4294967296 h1; omega
  have hQ : (u * 4294967296 + un) / (yn1 * 4294967296 + yn0) < 4294967296 := by
    rw [Nat.div_lt_iff_lt_mul hy]
    have := Nat.mul_le_mul_right 4294967296 (show u + 1 ≤ yn1 * 4294967296 + yn0 by omega)
    rw [Nat.mul_comm 4294967296]
    omega
  have low : ∀ q r, q * yn1 + r = u → q * yn0 ≤ 4294967296 * r + un → q ≤ (u * 4294967296 + un) / (yn1 * 4294967296 + yn0) := by
    intro q r hq hle
    rw [Nat.le_div_iff_mul_le hy, Nat.mul_add, ← Nat.mul_assoc]
    have := congrArg (· * 4294967296) hq
    simp only [Nat.add_mul] at this
    omega
  have high : ∀ q r, q * yn1 + r = u → 4294967296 * r + un < q * yn0 → (u * 4294967296 + un) / (yn1 * 4294967296 + yn0) < q := by
    intro q r hq hlt
    rw [Nat.div_lt_iff_lt_mul hy, Nat.mul_add, ← Nat.mul_assoc]
    have := congrArg (· * 4294967296) hq
    simp only [Nat.add_mul] at this
    omega
  intro f
  induction f with
  | zero => intro q r h; omega
  | succ f ih =>
    intro q r hf hq hr hge
    simp only [mend]
    split
    · rename_i hc
      have hlt : (u * 4294967296 + un) / (yn1 * 4294967296 + yn0) < q := by
        rcases hc with hc | hc
        · exact Nat.lt_of_lt_of_le hQ hc
        · exact high q r hq hc
      have h0q : 0 < q := Nat.lt_of_le_of_lt (Nat.zero_le _) hlt
      obtain ⟨q, rfl⟩ : ∃ q', q = q' + 1 := ⟨q - 1, by omega⟩
      have hq' : q * yn1 + (r + yn1) = u := by rw [Nat.add_mul] at hq; omega
      simp only [Nat.add_sub_cancel]
      split
      · rename_i hb
        refine Nat.le_antisymm (low q (r + yn1) hq' ?_) (Nat.le_of_lt_succ hlt)
        have hqB : q < 4294967296 := by
          apply Nat.lt_of_not_le
          intro hBq
          have := Nat.mul_le_mul_right yn1 hBq
          rw [Nat.mul_comm 4294967296 yn1] at this
          omega
        have := Nat.mul_le_mul (Nat.le_of_lt hqB) (Nat.le_of_lt h0)
        have := Nat.mul_le_mul_left 4294967296 hb
        omega
      · exact ih q (r + yn1) (by omega) hq' (by omega) (Nat.le_of_lt_succ hlt)
    · rename_i hc
      have hc2 : q * yn0 ≤ 4294967296 * r + un := by
        rcases Nat.lt_or_ge (4294967296 * r + un) (q * yn0) with h | h
        · exact absurd (.inr h) hc
        · exact h
      exact Nat.le_antisymm (low q r hq hc2) hge
theorem mend_first {yn1 yn0 un u : Nat} (h1 : 0 < yn1) (h0 : yn0 < 4294967296) (hun : un < 4294967296) :
    (u * 4294967296 + un) / (yn1 * 4294967296 + yn0) ≤ u / yn1 := by
  rw [Nat.le_div_iff_mul_le h1]
  have hy : 0 < yn1 * 4294967296 + yn0 := by have := Nat.mul_le_mul_right 4294967296 h1; omega
  have hd := Nat.div_mul_le_self (u * 4294967296 + un) (yn1 * 4294967296 + yn0)
  generalize (u * 4294967296 + un) / (yn1 * 4294967296 + yn0) = Q at *
  rw [Nat.mul_add, ← Nat.mul_assoc] at hd
  omega
theorem next_digit {N Q R Y B c : Nat} (hY : 0 < Y) (h1 : Y * Q + R = N) : (N * B + c) / Y = Q * B + (R * B + c) / Y ∧ (N * B + c) % Y = (R * B + c) % Y := by
  have h2 : N * B + c = (R * B + c) + Y * (Q * B) := by
    subst h1
    rw [Nat.add_mul, Nat.mul_assoc]
    omega
  rw [h2, Nat.add_mul_div_left _ _ hY, Nat.add_mul_mod_self_left, Nat.add_comm]
  exact ⟨rfl, rfl⟩
theorem digit_at {N Y Q : Nat} (hY : 0 < Y) (hQ : Q = N / Y) : ∃ R, R < Y ∧ Q * Y + R = N :=
  ⟨N % Y, Nat.mod_lt _ hY, by subst hQ; rw [Nat.mul_comm]; exact Nat.div_add_mod _ _⟩
theorem digit_lt {U Y un B Q R : Nat} (hU : U < Y) (hu : un < B) (h : Q * Y + R = U * B + un) : Q < B := by
  apply Nat.lt_of_not_le
  intro hb
  have h1 := Nat.mul_le_mul_right Y hb
  have h2 := Nat.mul_le_mul_right B (show U + 1 ≤ Y from hU)
  rw [Nat.add_mul, Nat.mul_comm Y B] at h2
  omega
/-- A number of four digits by one of two: its two digits, and what is left. -/
theorem two_digits {U un1 un0 L Y Q1 Q0 R S : Nat} (hL : L = un1 * 4294967296 + un0) (hS : S < Y) (h1 : Q1 * Y + R = U * 4294967296 + un1) (h2 : Q0 * Y + S = R * 4294967296 + un0) :
    (U * 18446744073709551616 + L) / Y = Q1 * 4294967296 + Q0 ∧ (U * 18446744073709551616 + L) % Y = S := by
  have hY : 0 < Y := by omega
  have h0 : U * 18446744073709551616 + L = (U * 4294967296 + un1) * 4294967296 + un0 := by omega
  rw [h0]
  obtain ⟨a, b⟩ := next_digit (B := 4294967296) (c := un0) hY (show Y * Q1 + R = U * 4294967296 + un1 by rw [Nat.mul_comm]; exact h1)
  have e : ∀ N, Q0 * Y + S = N → N / Y = Q0 ∧ N % Y = S := by
    rintro N rfl
    rw [Nat.add_comm, Nat.add_mul_div_right _ _ hY, Nat.add_mul_mod_self_right, Nat.div_eq_of_lt hS, Nat.mod_eq_of_lt hS]
    exact ⟨Nat.zero_add _, rfl⟩
  obtain ⟨e1, e2⟩ := e _ h2
  exact ⟨a.trans (congrArg (Q1 * 4294967296 + ·) e1), b.trans e2⟩
end Go.Vx
/- bits.Div64: a number of two words by one word. -/
namespace Go.Proofs.Ytlbkjhfnpjbjlaa
open Go.RowKit Go.Vx
set_option linter.unusedVariables false

theorem bitLen_bounds : ∀ (k x : Nat), x < 2 ^ k → k ≤ 64 → 0 < x → 2 ^ (Lib.bitLen x - 1) ≤ x ∧ x < 2 ^ Lib.bitLen x ∧ 0 < Lib.bitLen x ∧ Lib.bitLen x ≤ k := by
  intro k
  induction k with
  | zero => intro x h1 h2 h3; simp at h1; omega
  | succ k ih =>
    intro x h1 h2 h3
    have h64 : x < 2 ^ 64 := Nat.lt_of_lt_of_le h1 (Nat.pow_le_pow_right (by omega) h2)
    rw [Lib.bitLen_half x (by omega) h64]
    by_cases hx : x = 1
    · subst hx
      have : Lib.bitLen (1 / 2) = 0 := by decide
      rw [this]
      simp
    · have h4 : x / 2 < 2 ^ k := by rw [Nat.pow_succ] at h1; omega
      obtain ⟨a, b, c, d⟩ := ih (x / 2) h4 (by omega) (by omega)
      generalize Lib.bitLen (x / 2) = m at *
      obtain ⟨m, rfl⟩ : ∃ m', m = m' + 1 := ⟨m - 1, by omega⟩
      refine ⟨?_, ?_, by omega, by omega⟩
      · rw [show 1 + (m + 1) - 1 = m + 1 by omega, Nat.pow_succ]
        simp only [Nat.add_sub_cancel] at a
        omega
      · rw [show 1 + (m + 1) = (m + 1) + 1 by omega, Nat.pow_succ]
        omega
/-- How far to shift. -/
theorem shift_of (y : Nat) (h0 : 0 < y) (hy : y < 18446744073709551616) : ∃ s : Nat, s < 64 ∧ (64 : Int) - (Lib.bitLen y : Int) = s ∧ y * 2 ^ s < 18446744073709551616 ∧ 9223372036854775808 ≤ y * 2 ^ s := by
  obtain ⟨a, b, c, d⟩ := bitLen_bounds 64 y hy (Nat.le_refl _) h0
  refine ⟨64 - Lib.bitLen y, by omega, by omega, ?_, ?_⟩
  · have := Nat.mul_lt_mul_of_pos_right b (Nat.two_pow_pos (64 - Lib.bitLen y))
    rw [← Nat.pow_add, show Lib.bitLen y + (64 - Lib.bitLen y) = 64 by omega] at this
    exact this
  · have := Nat.mul_le_mul_right (2 ^ (64 - Lib.bitLen y)) a
    rw [← Nat.pow_add, show Lib.bitLen y - 1 + (64 - Lib.bitLen y) = 63 by omega] at this
    exact this
theorem and_mask (x : Nat) (hx : x < 18446744073709551616) : bits .and .u64 (x : Int) 4294967295 = ((x % 4294967296 : Nat) : Int) := by
  have := bits_and_u64_nat x 4294967295 hx (by omega)
  rw [show ((4294967295 : Nat) : Int) = 4294967295 from rfl] at this
  rw [this, show (4294967295 : Nat) = 2 ^ 32 - 1 from rfl, Nat.and_two_pow_sub_one_eq_mod]
theorem or_add (a b s : Nat) (hb : b < 2 ^ s) (ha : a * 2 ^ s + b < 18446744073709551616) : bits .or .u64 ((a * 2 ^ s : Nat) : Int) (b : Int) = ((a * 2 ^ s + b : Nat) : Int) := by
  have := bits_or_u64_nat (a * 2 ^ s) b (by omega) (by omega)
  rw [this, ← Nat.shiftLeft_eq, Nat.shiftLeft_add_eq_or_of_lt hb]
theorem wrap_nat (n : Nat) (h : n < 18446744073709551616) : IntKind.u64.wrap (n : Int) = (n : Int) := by
  rw [IntKind.wrap_u64]; omega
theorem div64_zero (lo y : Nat) (hy : y < 18446744073709551616) (hl : lo < 18446744073709551616) (h0 : 0 < y) (w : World) :
    Calls Try.prog 65 #[.int .u64 0, .int .u64 lo, .int .u64 y] w fun e w' => e = .returned (.tuple #[.int .u64 ((lo / y : Nat) : Int), .int .u64 ((lo % y : Nat) : Int)]) ∧ Chg [] w w' := by
  have b1 : ((y : Int) == 0) = false := by simp; omega
  have b3 : ¬ (y : Int) = 0 := by omega
  go_enter Try.func65, Try.ntmps65
  have e1 : IntKind.u64.wrap ((lo : Int) / (y : Int)) = (lo : Int) / (y : Int) := by
    have h1 : lo / y < 18446744073709551616 := Nat.lt_of_le_of_lt (Nat.div_le_self _ _) hl
    rw [← Int.natCast_ediv, wrap_nat _ h1]
  have e2 : (lo : Int).tmod (y : Int) = (lo : Int) % (y : Int) := by rw [← Int.ofNat_tmod]; simp
  go_wp2_with fail
  go_region_law (fail)
  all_goals
    go_wp2_with fail
    go_ret2
    refine ⟨?_, (Chg.refl _ _).drew⟩
    first | (simp [Act.put]; done) | (simp [Act.put, e1]; done) | (simp [Act.put, e2]; done)
theorem div64_big (hi lo y : Nat) (hy : y < 18446744073709551616) (hl : lo < 18446744073709551616) (h0 : 0 < hi) (hh : hi < y) (w : World) :
    Calls Try.prog 65 #[.int .u64 hi, .int .u64 lo, .int .u64 y] w fun e w' => e = .returned (.tuple #[.int .u64 (((hi * 18446744073709551616 + lo) / y : Nat) : Int), .int .u64 (((hi * 18446744073709551616 + lo) % y : Nat) : Int)]) ∧ Chg [] w w' := by
  obtain ⟨s, hs, hz, hy1, hy2⟩ := shift_of y (by omega) hy
  have hps : 0 < 2 ^ s := Nat.two_pow_pos s
  have hpp : 2 ^ s * 2 ^ (64 - s) = 18446744073709551616 := by rw [← Nat.pow_add, show s + (64 - s) = 64 by omega]
  have hP : (2 : Int) ^ s = ((2 ^ s : Nat) : Int) := by simp
  have hP2 : (2 : Int) ^ (64 - s) = ((2 ^ (64 - s) : Nat) : Int) := by simp
  have hb1 := Nat.mul_lt_mul_of_pos_right hh hps
  -- the divisor, shifted
  have eY : IntKind.u64.wrap ((y : Int) * 2 ^ s) = ((y * 2 ^ s : Nat) : Int) := by
    rw [hP, ← Int.natCast_mul]; exact wrap_nat _ hy1
  -- the number, shifted: its upper word, its lower word
  have eH : IntKind.u64.wrap ((hi : Int) * 2 ^ s) = ((hi * 2 ^ s : Nat) : Int) := by
    rw [hP, ← Int.natCast_mul]; exact wrap_nat _ (by omega)
  have eL : IntKind.u64.wrap ((lo : Int) * 2 ^ s) = ((lo * 2 ^ s % 18446744073709551616 : Nat) : Int) := by
    rw [hP, ← Int.natCast_mul, IntKind.wrap_u64]; omega
  have hlo : lo / 2 ^ (64 - s) < 2 ^ s := by
    rw [Nat.div_lt_iff_lt_mul (Nat.two_pow_pos _), hpp]; exact hl
  have hU : hi * 2 ^ s + lo / 2 ^ (64 - s) < y * 2 ^ s := by
    have := Nat.mul_le_mul_right (2 ^ s) (show hi + 1 ≤ y from hh)
    rw [Nat.add_mul] at this
    omega
  have eO : bits .or .u64 ((hi * 2 ^ s : Nat) : Int) ((lo : Int) / 2 ^ (64 - s)) = ((hi * 2 ^ s + lo / 2 ^ (64 - s) : Nat) : Int) := by
    rw [hP2, ← Int.natCast_ediv]; exact or_add hi (lo / 2 ^ (64 - s)) s hlo (by omega)
  have hN : (hi * 2 ^ s + lo / 2 ^ (64 - s)) * 18446744073709551616 + lo * 2 ^ s % 18446744073709551616 = (hi * 18446744073709551616 + lo) * 2 ^ s := by
    have e1 : lo * 2 ^ s / 18446744073709551616 = lo / 2 ^ (64 - s) := by
      rw [← hpp, Nat.mul_comm lo, Nat.mul_div_mul_left _ _ hps]
    have e2 := Nat.div_add_mod (lo * 2 ^ s) 18446744073709551616
    rw [e1] at e2
    rw [Nat.add_mul, Nat.add_mul, Nat.mul_right_comm]
    omega
  have hq : (hi * 18446744073709551616 + lo) / y = ((hi * 18446744073709551616 + lo) * 2 ^ s) / (y * 2 ^ s) := (Nat.mul_div_mul_right _ _ hps).symm
  have hr : (hi * 18446744073709551616 + lo) % y = ((hi * 18446744073709551616 + lo) * 2 ^ s) % (y * 2 ^ s) / 2 ^ s := by
    rw [Nat.mul_mod_mul_right, Nat.mul_div_cancel _ hps]
  rw [hq, hr, ← hN]
  have hl1 : lo * 2 ^ s % 18446744073709551616 < 18446744073709551616 := Nat.mod_lt _ (by omega)
  generalize hi * 2 ^ s + lo / 2 ^ (64 - s) = U at *
  generalize lo * 2 ^ s % 18446744073709551616 = L at *
  generalize y * 2 ^ s = Y at *
  have b1 : ((y : Int) == 0) = false := by simp; omega
  have b2 : ((hi : Int) == 0) = false := by simp; omega
  have hLZ := Try.bits_LeadingZeros64 y w (by omega) (by omega)
  rw [show ((y : Int).toNat) = y from rfl, hz] at hLZ
  clear hq hr hN hpp hb1 hz hP hP2 hlo
  replace eY := Lib.hid eY
  replace eH := Lib.hid eH
  replace eL := Lib.hid eL
  replace eO := Lib.hid eO
  go_enter Try.func65, Try.ntmps65
  go_upto_region 9 with (go_at_call 68; refine hLZ.mono ?_; rintro e w' ⟨rfl, rfl⟩)
  rw [eY.out]
  go_upto_region 13 with fail
  rw [eL.out, eH.out, eO.out, and_mask Y hy1, show (Y : Int) / 4294967296 = ((Y / 4294967296 : Nat) : Int) by omega]
  have hYd : Hid (Y = Y / 4294967296 * 4294967296 + Y % 4294967296) := by show _ = _; omega
  have y1 : 2147483648 ≤ Y / 4294967296 := by omega
  have y1' : Y / 4294967296 < 4294967296 := by omega
  have y0 : Y % 4294967296 < 4294967296 := by omega
  generalize Y / 4294967296 = yn1 at *
  generalize Y % 4294967296 = yn0 at *
  go_upto_region 15 with fail
  rw [and_mask L hl1, show (L : Int) / 4294967296 = ((L / 4294967296 : Nat) : Int) by omega]
  have hLd : Hid (L = L / 4294967296 * 4294967296 + L % 4294967296) := by show _ = _; omega
  have l1' : L / 4294967296 < 4294967296 := by omega
  have l0 : L % 4294967296 < 4294967296 := by omega
  generalize L / 4294967296 = un1 at *
  generalize L % 4294967296 = un0 at *
  clear eY eH eL eO hLZ
  have nz : ¬ (yn1 : Int) = 0 := by omega
  go_upto_block 0 with fail
  have hq1 : U / yn1 < 18446744073709551616 := Nat.lt_of_le_of_lt (Nat.div_le_self _ _) (by omega)
  have hmod := Nat.div_add_mod U yn1
  have hml : U % yn1 < yn1 := Nat.mod_lt _ (by omega)
  have hle : U / yn1 * yn1 ≤ U := Nat.div_mul_le_self U yn1
  rw [show IntKind.u64.wrap ((U : Int) / (yn1 : Int)) = ((U / yn1 : Nat) : Int) by rw [← Int.natCast_ediv]; exact wrap_nat _ hq1]
  rw [show IntKind.u64.wrap (((U / yn1 : Nat) : Int) * (yn1 : Int)) = ((U / yn1 * yn1 : Nat) : Int) by rw [← Int.natCast_mul]; exact wrap_nat _ (by omega)]
  rw [show IntKind.u64.wrap ((U : Int) - ((U / yn1 * yn1 : Nat) : Int)) = ((U % yn1 : Nat) : Int) by
    rw [← Int.ofNat_sub hle, Nat.mul_comm, show U - yn1 * (U / yn1) = U % yn1 by omega]; exact wrap_nat _ (by omega)]
  have hfirst := mend_first (yn1 := yn1) (yn0 := yn0) (un := un1) (u := U) (by omega) y0 l1'
  have hmend := mend_ok (yn1 := yn1) (yn0 := yn0) (un := un1) (u := U) (by omega) y0 l1' (by rw [← hYd.out]; exact hU) (U / yn1 + 1) (U / yn1) (U % yn1) (by omega) (by rw [Nat.mul_comm]; exact hmod) (by omega) hfirst
  have hinv : U / yn1 * yn1 + U % yn1 = U := by rw [Nat.mul_comm]; exact hmod
  have hQ1 : Hid ((U * 4294967296 + un1) / (yn1 * 4294967296 + yn0) = (U * 4294967296 + un1) / Y) := by
    show _ = _
    rw [← hYd.out]
  generalize U / yn1 = qa at *
  generalize U % yn1 = ra at *
  generalize (U * 4294967296 + un1) / (yn1 * 4294967296 + yn0) = Q1 at *
  clear hle hmod hfirst
  go_cut [15] (fun qv wx => qv = .int .u64 Q1 ∧ wx = w')
  case first =>
    go_wp2_with fail
    go_loopw [15, 16] (fun qv rv wr => ∃ q r f : Nat, qv = .int .u64 q ∧ rv = .int .u64 r ∧ q < f ∧ q < 18446744073709551616 ∧ q * yn1 + r = U ∧ r < 4294967296 ∧ mend yn1 yn0 un1 f q r = Q1 ∧ w' = wr) (fun qv _ _ => (intOf qv).toNat)
    case atStart => exact ⟨qa, ra, qa + 1, rfl, rfl, by omega, by omega, hinv, by omega, hmend, rfl⟩
    case round =>
      obtain ⟨q, r, f, rfl, rfl, hqf, hqb, hqr, hr, hm, rfl⟩ := hrel
      obtain ⟨f, rfl⟩ : ∃ f', f = f' + 1 := ⟨f - 1, by omega⟩
      simp only [mend] at hm
      have ew2 : IntKind.u64.wrap (4294967296 * (r : Int) + (un1 : Int)) = ((4294967296 * r + un1 : Nat) : Int) := by
        rw [show 4294967296 * (r : Int) + (un1 : Int) = ((4294967296 * r + un1 : Nat) : Int) by omega]; exact wrap_nat _ (by omega)
      have eqn : 0 < q → IntKind.u64.wrap ((q : Int) - 1) = ((q - 1 : Nat) : Int) := by
        intro h; rw [show (q : Int) - 1 = ((q - 1 : Nat) : Int) by omega]; exact wrap_nat _ (by omega)
      have ern : IntKind.u64.wrap ((r : Int) + yn1) = ((r + yn1 : Nat) : Int) := by
        rw [show (r : Int) + yn1 = ((r + yn1 : Nat) : Int) by omega]; exact wrap_nat _ (by omega)
      have hqn : 0 < q → (q - 1) * yn1 + (r + yn1) = U := by
        intro h; obtain ⟨q, rfl⟩ : ∃ q', q = q' + 1 := ⟨q - 1, by omega⟩
        rw [Nat.add_mul] at hqr; simp only [Nat.add_sub_cancel]; omega
      replace hm := Lib.hid hm
      replace hqr := Lib.hid hqr
      replace hqn := Lib.hid hqn
      replace eqn := Lib.hid eqn
      replace ern := Lib.hid ern
      by_cases c1 : 4294967296 ≤ q
      · have d1 : decide ((4294967296 : Int) ≤ (q : Int)) = true := by simp; omega
        go_upto_region 18 with fail
        go_upto_region 20 with fail
        have hq0 : 0 < q := by omega
        have hm2 : (if 4294967296 ≤ r + yn1 then q - 1 else mend yn1 yn0 un1 f (q - 1) (r + yn1)) = Q1 := by have := hm.out; rw [if_pos (Or.inl c1)] at this; exact this
        replace hqn := Lib.hid (hqn.out hq0)
        first | rw [eqn.out hq0] | rw [show (q : Int) - 1 = ((q - 1 : Nat) : Int) by omega]
        first | rw [ern.out] | rw [show (r : Int) + yn1 = ((r + yn1 : Nat) : Int) by omega]
        have hlt : q - 1 < q := by omega
        have hlt2 : q - 1 < f := by omega
        have hlt3 : q - 1 < 18446744073709551616 := by omega
        clear eqn ern hm hqr ew2
        replace hm2 := Lib.hid hm2
        generalize r + yn1 = rn at *
        generalize q - 1 = qn at *
        by_cases c3 : 4294967296 ≤ rn
        · have d3 : decide ((4294967296 : Int) ≤ (rn : Int)) = true := by simp; omega
          have hm3 : qn = Q1 := by have := hm2.out; rw [if_pos c3] at this; exact this
          replace hm3 := Lib.hid hm3
          go_wp2_with fail
          go_meet
          exact ⟨by rw [hm3.out], rfl⟩
        · have d3 : decide ((4294967296 : Int) ≤ (rn : Int)) = false := by simp; omega
          have hm3 : mend yn1 yn0 un1 f qn rn = Q1 := by have := hm2.out; rw [if_neg c3] at this; exact this
          replace hm3 := Lib.hid hm3
          go_wp2_with fail
          go_roundw
          case measure => simp only [intOf]; omega
          case rel => exact ⟨qn, rn, f, rfl, rfl, hlt2, hlt3, hqn.out, by omega, hm3.out, by trivial⟩
      · have d1 : decide ((4294967296 : Int) ≤ (q : Int)) = false := by simp; omega
        have hqy : q * yn0 < 18446744073709551616 := by
          have := Nat.mul_lt_mul_of_lt_of_le (show q < 4294967296 by omega) (Nat.le_of_lt y0) (by omega)
          omega
        have ew1 : IntKind.u64.wrap ((q : Int) * (yn0 : Int)) = ((q * yn0 : Nat) : Int) := by rw [← Int.natCast_mul]; exact wrap_nat _ hqy
        have hz0 : q = 0 → q * yn0 = 0 := by rintro rfl; simp
        generalize q * yn0 = P at *
        by_cases c2 : 4294967296 * r + un1 < P
        · have d2 : decide (4294967296 * (r : Int) + (un1 : Int) < (P : Int)) = true := by simp; omega
          go_upto_region 18 with fail
          go_upto_region 20 with fail
          have hq0 : 0 < q := by exact Nat.pos_of_ne_zero (fun h => by have := hz0 h; omega)
          have hm2 : (if 4294967296 ≤ r + yn1 then q - 1 else mend yn1 yn0 un1 f (q - 1) (r + yn1)) = Q1 := by have := hm.out; rw [if_pos (Or.inr c2)] at this; exact this
          replace hqn := Lib.hid (hqn.out hq0)
          first | rw [eqn.out hq0] | rw [show (q : Int) - 1 = ((q - 1 : Nat) : Int) by omega]
          first | rw [ern.out] | rw [show (r : Int) + yn1 = ((r + yn1 : Nat) : Int) by omega]
          have hlt : q - 1 < q := by omega
          have hlt2 : q - 1 < f := by omega
          have hlt3 : q - 1 < 18446744073709551616 := by omega
          clear eqn ern hm hqr ew2
          replace hm2 := Lib.hid hm2
          generalize r + yn1 = rn at *
          generalize q - 1 = qn at *
          by_cases c3 : 4294967296 ≤ rn
          · have d3 : decide ((4294967296 : Int) ≤ (rn : Int)) = true := by simp; omega
            have hm3 : qn = Q1 := by have := hm2.out; rw [if_pos c3] at this; exact this
            replace hm3 := Lib.hid hm3
            go_wp2_with fail
            go_meet
            exact ⟨by rw [hm3.out], rfl⟩
          · have d3 : decide ((4294967296 : Int) ≤ (rn : Int)) = false := by simp; omega
            have hm3 : mend yn1 yn0 un1 f qn rn = Q1 := by have := hm2.out; rw [if_neg c3] at this; exact this
            replace hm3 := Lib.hid hm3
            go_wp2_with fail
            go_roundw
            case measure => simp only [intOf]; omega
            case rel => exact ⟨qn, rn, f, rfl, rfl, hlt2, hlt3, hqn.out, by omega, hm3.out, by trivial⟩
        · have d2 : decide (4294967296 * (r : Int) + (un1 : Int) < (P : Int)) = false := by simp; omega
          have hm3 : q = Q1 := by have := hm.out; rw [if_neg (by omega)] at this; exact this
          replace hm3 := Lib.hid hm3
          clear hm
          go_wp2_with fail
          go_meet
          exact ⟨by rw [hm3.out], rfl⟩
  case rest =>
    obtain ⟨rfl, rfl⟩ := hcut
    obtain ⟨R, hR, hdm⟩ := digit_at (show 0 < Y by omega) hQ1.out
    clear hmend hinv hQ1
    have eR : Hid (IntKind.u64.wrap (IntKind.u64.wrap (IntKind.u64.wrap ((U : Int) * 4294967296) + (un1 : Int)) - IntKind.u64.wrap ((Q1 : Int) * (Y : Int))) = (R : Int)) := by
      show _ = _
      rw [← Int.natCast_mul]
      generalize Q1 * Y = P at *
      simp only [IntKind.wrap_u64]
      omega
    replace hdm := Lib.hid hdm
    clear hml hq1
    go_upto_block 2 with fail
    rw [eR.out]
    clear eR
    have hq1 : R / yn1 < 18446744073709551616 := Nat.lt_of_le_of_lt (Nat.div_le_self _ _) (by omega)
    have hmod := Nat.div_add_mod R yn1
    have hml : R % yn1 < yn1 := Nat.mod_lt _ (by omega)
    have hle : R / yn1 * yn1 ≤ R := Nat.div_mul_le_self R yn1
    rw [show IntKind.u64.wrap ((R : Int).tdiv (yn1 : Int)) = ((R / yn1 : Nat) : Int) by rw [← Int.ofNat_tdiv]; exact wrap_nat _ hq1]
    rw [show IntKind.u64.wrap (((R / yn1 : Nat) : Int) * (yn1 : Int)) = ((R / yn1 * yn1 : Nat) : Int) by rw [← Int.natCast_mul]; exact wrap_nat _ (by omega)]
    rw [show IntKind.u64.wrap ((R : Int) - ((R / yn1 * yn1 : Nat) : Int)) = ((R % yn1 : Nat) : Int) by
      rw [← Int.ofNat_sub hle, Nat.mul_comm, show R - yn1 * (R / yn1) = R % yn1 by omega]; exact wrap_nat _ (by omega)]
    have hfirst := mend_first (yn1 := yn1) (yn0 := yn0) (un := un0) (u := R) (by omega) y0 l0
    have hmend := mend_ok (yn1 := yn1) (yn0 := yn0) (un := un0) (u := R) (by omega) y0 l0 (by rw [← hYd.out]; exact hR) (R / yn1 + 1) (R / yn1) (R % yn1) (by omega) (by rw [Nat.mul_comm]; exact hmod) (by omega) hfirst
    have hinv : R / yn1 * yn1 + R % yn1 = R := by rw [Nat.mul_comm]; exact hmod
    have hQ0 : Hid ((R * 4294967296 + un0) / (yn1 * 4294967296 + yn0) = (R * 4294967296 + un0) / Y) := by
      show _ = _
      rw [← hYd.out]
    generalize R / yn1 = qb at *
    generalize R % yn1 = rb at *
    generalize (R * 4294967296 + un0) / (yn1 * 4294967296 + yn0) = Q0 at *
    clear hle hmod hfirst
    go_cut [18] (fun qv wx => qv = .int .u64 Q0 ∧ wx = wc)
    case first =>
      go_wp2_with fail
      go_loopw [18, 16] (fun qv rv wr => ∃ q r f : Nat, qv = .int .u64 q ∧ rv = .int .u64 r ∧ q < f ∧ q < 18446744073709551616 ∧ q * yn1 + r = R ∧ r < 4294967296 ∧ mend yn1 yn0 un0 f q r = Q0 ∧ wc = wr) (fun qv _ _ => (intOf qv).toNat)
      case atStart => exact ⟨qb, rb, qb + 1, rfl, rfl, by omega, by omega, hinv, by omega, hmend, rfl⟩
      case round =>
        obtain ⟨q, r, f, rfl, rfl, hqf, hqb, hqr, hr, hm, rfl⟩ := hrel
        obtain ⟨f, rfl⟩ : ∃ f', f = f' + 1 := ⟨f - 1, by omega⟩
        simp only [mend] at hm
        have ew2 : IntKind.u64.wrap (4294967296 * (r : Int) + (un0 : Int)) = ((4294967296 * r + un0 : Nat) : Int) := by
          rw [show 4294967296 * (r : Int) + (un0 : Int) = ((4294967296 * r + un0 : Nat) : Int) by omega]; exact wrap_nat _ (by omega)
        have eqn : 0 < q → IntKind.u64.wrap ((q : Int) - 1) = ((q - 1 : Nat) : Int) := by
          intro h; rw [show (q : Int) - 1 = ((q - 1 : Nat) : Int) by omega]; exact wrap_nat _ (by omega)
        have ern : IntKind.u64.wrap ((r : Int) + yn1) = ((r + yn1 : Nat) : Int) := by
          rw [show (r : Int) + yn1 = ((r + yn1 : Nat) : Int) by omega]; exact wrap_nat _ (by omega)
        have hqn : 0 < q → (q - 1) * yn1 + (r + yn1) = R := by
          intro h; obtain ⟨q, rfl⟩ : ∃ q', q = q' + 1 := ⟨q - 1, by omega⟩
          rw [Nat.add_mul] at hqr; simp only [Nat.add_sub_cancel]; omega
        replace hm := Lib.hid hm
        replace hqr := Lib.hid hqr
        replace hqn := Lib.hid hqn
        replace eqn := Lib.hid eqn
        replace ern := Lib.hid ern
        by_cases c1 : 4294967296 ≤ q
        · have d1 : decide ((4294967296 : Int) ≤ (q : Int)) = true := by simp; omega
          go_upto_region 25 with fail
          go_upto_region 27 with fail
          have hq0 : 0 < q := by omega
          have hm2 : (if 4294967296 ≤ r + yn1 then q - 1 else mend yn1 yn0 un0 f (q - 1) (r + yn1)) = Q0 := by have := hm.out; rw [if_pos (Or.inl c1)] at this; exact this
          replace hqn := Lib.hid (hqn.out hq0)
          first | rw [eqn.out hq0] | rw [show (q : Int) - 1 = ((q - 1 : Nat) : Int) by omega]
          first | rw [ern.out] | rw [show (r : Int) + yn1 = ((r + yn1 : Nat) : Int) by omega]
          have hlt : q - 1 < q := by omega
          have hlt2 : q - 1 < f := by omega
          have hlt3 : q - 1 < 18446744073709551616 := by omega
          clear eqn ern hm hqr ew2
          replace hm2 := Lib.hid hm2
          generalize r + yn1 = rn at *
          generalize q - 1 = qn at *
          by_cases c3 : 4294967296 ≤ rn
          · have d3 : decide ((4294967296 : Int) ≤ (rn : Int)) = true := by simp; omega
            have hm3 : qn = Q0 := by have := hm2.out; rw [if_pos c3] at this; exact this
            replace hm3 := Lib.hid hm3
            go_wp2_with fail
            go_meet
            exact ⟨by rw [hm3.out], rfl⟩
          · have d3 : decide ((4294967296 : Int) ≤ (rn : Int)) = false := by simp; omega
            have hm3 : mend yn1 yn0 un0 f qn rn = Q0 := by have := hm2.out; rw [if_neg c3] at this; exact this
            replace hm3 := Lib.hid hm3
            go_wp2_with fail
            go_roundw
            case measure => simp only [intOf]; omega
            case rel => exact ⟨qn, rn, f, rfl, rfl, hlt2, hlt3, hqn.out, by omega, hm3.out, by trivial⟩
        · have d1 : decide ((4294967296 : Int) ≤ (q : Int)) = false := by simp; omega
          have hqy : q * yn0 < 18446744073709551616 := by
            have := Nat.mul_lt_mul_of_lt_of_le (show q < 4294967296 by omega) (Nat.le_of_lt y0) (by omega)
            omega
          have ew1 : IntKind.u64.wrap ((q : Int) * (yn0 : Int)) = ((q * yn0 : Nat) : Int) := by rw [← Int.natCast_mul]; exact wrap_nat _ hqy
          have hz0 : q = 0 → q * yn0 = 0 := by rintro rfl; simp
          generalize q * yn0 = P at *
          by_cases c2 : 4294967296 * r + un0 < P
          · have d2 : decide (4294967296 * (r : Int) + (un0 : Int) < (P : Int)) = true := by simp; omega
            go_upto_region 25 with fail
            go_upto_region 27 with fail
            have hq0 : 0 < q := by exact Nat.pos_of_ne_zero (fun h => by have := hz0 h; omega)
            have hm2 : (if 4294967296 ≤ r + yn1 then q - 1 else mend yn1 yn0 un0 f (q - 1) (r + yn1)) = Q0 := by have := hm.out; rw [if_pos (Or.inr c2)] at this; exact this
            replace hqn := Lib.hid (hqn.out hq0)
            first | rw [eqn.out hq0] | rw [show (q : Int) - 1 = ((q - 1 : Nat) : Int) by omega]
            first | rw [ern.out] | rw [show (r : Int) + yn1 = ((r + yn1 : Nat) : Int) by omega]
            have hlt : q - 1 < q := by omega
            have hlt2 : q - 1 < f := by omega
            have hlt3 : q - 1 < 18446744073709551616 := by omega
            clear eqn ern hm hqr ew2
            replace hm2 := Lib.hid hm2
            generalize r + yn1 = rn at *
            generalize q - 1 = qn at *
            by_cases c3 : 4294967296 ≤ rn
            · have d3 : decide ((4294967296 : Int) ≤ (rn : Int)) = true := by simp; omega
              have hm3 : qn = Q0 := by have := hm2.out; rw [if_pos c3] at this; exact this
              replace hm3 := Lib.hid hm3
              go_wp2_with fail
              go_meet
              exact ⟨by rw [hm3.out], rfl⟩
            · have d3 : decide ((4294967296 : Int) ≤ (rn : Int)) = false := by simp; omega
              have hm3 : mend yn1 yn0 un0 f qn rn = Q0 := by have := hm2.out; rw [if_neg c3] at this; exact this
              replace hm3 := Lib.hid hm3
              go_wp2_with fail
              go_roundw
              case measure => simp only [intOf]; omega
              case rel => exact ⟨qn, rn, f, rfl, rfl, hlt2, hlt3, hqn.out, by omega, hm3.out, by trivial⟩
          · have d2 : decide (4294967296 * (r : Int) + (un0 : Int) < (P : Int)) = false := by simp; omega
            have hm3 : q = Q0 := by have := hm.out; rw [if_neg (by omega)] at this; exact this
            replace hm3 := Lib.hid hm3
            clear hm
            go_wp2_with fail
            go_meet
            exact ⟨by rw [hm3.out], rfl⟩
    case rest =>
      obtain ⟨rfl, rfl⟩ := hcut
      obtain ⟨S, hS, hdm2⟩ := digit_at (show 0 < Y by omega) hQ0.out
      clear hmend hinv hQ0
      have eS : Hid (IntKind.u64.wrap (IntKind.u64.wrap (IntKind.u64.wrap ((R : Int) * 4294967296) + (un0 : Int)) - IntKind.u64.wrap ((Q0 : Int) * (Y : Int))) = (S : Int)) := by
        show _ = _
        rw [← Int.natCast_mul]
        generalize Q0 * Y = P at *
        simp only [IntKind.wrap_u64]
        omega
      have eQ : Hid (IntKind.u64.wrap (IntKind.u64.wrap ((Q1 : Int) * 4294967296) + (Q0 : Int)) = ((Q1 * 4294967296 + Q0 : Nat) : Int)) := by
        show _ = _
        have q1b := digit_lt hU l1' hdm.out
        have q0b := digit_lt hR l0 hdm2
        simp only [IntKind.wrap_u64]
        omega
      replace hdm2 := Lib.hid hdm2
      have z : (S : Int) / 2 ^ s = ((S / 2 ^ s : Nat) : Int) := by simp
      obtain ⟨t1, t2⟩ := two_digits hLd.out hS hdm.out hdm2.out
      replace t1 := Lib.hid t1
      replace t2 := Lib.hid t2
      replace z := Lib.hid z
      go_wp2_with fail
      rw [eQ.out, eS.out, z.out]
      go_ret2
      refine ⟨?_, Chg.refl _ _⟩
      have pair : ∀ a b c d : Nat, a = c → b = d → Ending.returned (.tuple #[.int .u64 (c : Int), .int .u64 ((d / 2 ^ s : Nat) : Int)]) = Ending.returned (.tuple #[.int .u64 (a : Int), .int .u64 ((b / 2 ^ s : Nat) : Int)]) := by
        rintro a b _ _ rfl rfl
        rfl
      exact pair _ _ _ _ t1.out t2.out
/-- bits.Div64: the quotient and the rest. -/
theorem div64 (hi lo y : Nat) (hy : y < 18446744073709551616) (hl : lo < 18446744073709551616) (hh : hi < y) (w : World) :
    Calls Try.prog 65 #[.int .u64 hi, .int .u64 lo, .int .u64 y] w fun e w' => e = .returned (.tuple #[.int .u64 (((hi * 18446744073709551616 + lo) / y : Nat) : Int), .int .u64 (((hi * 18446744073709551616 + lo) % y : Nat) : Int)]) ∧ Chg [] w w' := by
  rcases Nat.eq_zero_or_pos hi with h | h
  · subst h
    rw [Nat.zero_mul, Nat.zero_add]
    exact div64_zero lo y hy hl hh w
  · exact div64_big hi lo y hy hl h hh w
end Go.Proofs.Ytlbkjhfnpjbjlaa
/- The money's Scale. -/
namespace Go.Proofs.Ytlbkjhfnpjbjlaa
open Go.RowKit Go.Vx
set_option linter.unusedVariables false
set_option linter.unusedSimpArgs false

/-- P by d, halves to the even one. -/
def roundQ (P d : Nat) : Nat := if d < 2 * (P % d) ∨ (2 * (P % d) = d ∧ P / d % 2 = 1) then P / d + 1 else P / d
def scale (a num den : Int) : Int × Int :=
  if okM a = true ∧ 0 ≤ num ∧ num ≤ 1000000000 ∧ 1 ≤ den ∧ den ≤ 1000000000 then
    if 1000000000000000 < roundQ (a.natAbs * num.toNat) den.toNat then (0, 2)
    else (if a < 0 then -(roundQ (a.natAbs * num.toNat) den.toNat : Int) else roundQ (a.natAbs * num.toNat) den.toNat, 0)
  else (0, 1)
theorem one_all {a : Int} : [a].all okM = okM a := by simp
end Go.Proofs.Ytlbkjhfnpjbjlaa
/- The money's heap: its five methods. -/
namespace Go.Proofs.Ytlbkjhfnpjbjlaa
open Go.RowKit Go.Vx
set_option linter.unusedVariables false
set_option linter.unusedSimpArgs false

abbrev Cut := Int × Int
def cutEnc (x : Cut) : List Value := [.int .u64 x.1, .int .i64 x.2]
def cutLt (x y : Cut) : Bool := decide (y.1 < x.1) || (x.1 == y.1 && decide (x.2 < y.2))
theorem cutLin : Lin cutLt where
  irr x := by simp [cutLt]
  tr x y z h k := by simp [cutLt] at *; omega
  tri x y := by
    obtain ⟨a, b⟩ := x
    obtain ⟨c, d⟩ := y
    simp [cutLt]
    omega
theorem encLenC (x : Cut) : (cutEnc x).length = 2 := rfl
theorem infoCut : (Try.prog.info? 122).map (fun i => (i.zero, i.size, i.bytes)) = some (some (.agg #[.int .u64 0, .int .i64 0]), 2, 16) := by kernel_rfl
abbrev HC := HAt 122 2 cutEnc

theorem ct_len (A : Option Addr) (n c : Nat) (w : World) (hn : n ≤ maxLen) : Calls Try.prog 93 #[.slice A n c] w fun e w' => e = .returned (.int .i64 n) ∧ w = w' := by
  unfold maxLen at hn
  go_enter Try.func93, Try.ntmps93
  go_wp2
  go_ret
  exact ⟨rfl, rfl⟩
set_option maxHeartbeats 2000000 in
theorem ct_less {w : World} {v : Value} {l : List Cut} {F : List Nat} (h : Fix w 122 2 v l.length (l.flatMap cutEnc) F) {i k : Nat} (hi : i < l.length) (hk : k < l.length) (hl : l.length ≤ 1000000) :
    Calls Try.prog 94 #[v, .int .i64 i, .int .i64 k] w fun e w' => e = .returned (.bool (cutLt (nth l i) (nth l k))) ∧ Chg [] w w' := by
  obtain ⟨g, c, rfl, rfl, hci⟩ := h.elem encLenC (by omega) hi
  obtain ⟨g', c', hv, hF, hck⟩ := h.elem encLenC (by omega) hk
  obtain rfl : g = g' := by simpa using hF
  have i0 := (hci 0 (by omega)).1
  have i1 := (hci 1 (by omega)).1
  have k0 := (hck 0 (by omega)).1
  have k1 := (hck 1 (by omega)).1
  simp only [cutEnc, List.getElem?_cons_zero, List.getElem?_cons_succ, Nat.add_zero] at i0 i1 k0 k1
  generalize nth l i = x at *
  generalize nth l k = y at *
  generalize l.length = n at *
  clear hci hck h hv hF
  unfold cutLt
  go_enter Try.func94, Try.ntmps94
  go_wp2_with fail
  by_cases h1 : y.1 < x.1
  · have e1 : decide (y.1 < x.1) = true := by simpa using h1
    go_quiet (fail)
    go_wp2_with fail
    go_ret
    exact ⟨by simp [h1], (Chg.refl _ _).drewN _⟩
  · have e1 : decide (y.1 < x.1) = false := by simpa using h1
    by_cases h2 : x.1 = y.1
    · have e2 : (x.1 == y.1) = true := by simpa using h2
      go_quiet (fail)
      go_wp2_with fail
      go_ret
      exact ⟨by simp [h1, h2], (Chg.refl _ _).drewN _⟩
    · have e2 : (x.1 == y.1) = false := by simpa using h2
      go_quiet (fail)
      go_wp2_with fail
      go_ret
      exact ⟨by simp [h1, h2], (Chg.refl _ _).drewN _⟩
end Go.Proofs.Ytlbkjhfnpjbjlaa
/- The money's Split, without a program: what its loops compute. -/
namespace Go.Vx
open Go.Proofs.Ytlbkjhfnpjbjlaa
set_option linter.unusedVariables false
set_option linter.unusedSimpArgs false

def qAt (N W : Nat) (ws : List Nat) (k : Nat) : Nat := N * nth ws k / W
def rAt (N W : Nat) (ws : List Nat) (k : Nat) : Nat := N * nth ws k % W
def parts0 (N W : Nat) (ws : List Nat) (k : Nat) : List Nat := (ws.take k).map fun x => N * x / W
def cutsTo (N W : Nat) (ws : List Nat) : Nat → List Cut
  | 0 => []
  | k + 1 => ins cutLt (((rAt N W ws k : Nat) : Int), ((k : Nat) : Int)) (cutsTo N W ws k)
def bump (ps : List Nat) (i : Nat) : List Nat := ps.set i (nth ps i + 1)
def bumps : List Nat → List Cut → List Nat
  | ps, [] => ps
  | ps, x :: S => bumps (bump ps x.2.toNat) S
def splitN (N W : Nat) (ws : List Nat) : List Nat :=
  bumps (parts0 N W ws ws.length) ((cutsTo N W ws ws.length).take (N - (parts0 N W ws ws.length).sum))

theorem parts0_succ {N W : Nat} {ws : List Nat} {k : Nat} (hk : k < ws.length) : parts0 N W ws (k + 1) = parts0 N W ws k ++ [qAt N W ws k] := by
  unfold parts0 qAt
  rw [List.take_add_one, List.map_append, at_eq hk]
  simp [hk]
theorem parts0_len {N W : Nat} {ws : List Nat} {k : Nat} (hk : k ≤ ws.length) : (parts0 N W ws k).length = k := by
  unfold parts0
  simp
  omega
theorem sum_mul (N W : Nat) (hW : 0 < W) : ∀ ws : List Nat, (ws.map fun x => N * x / W).sum * W + (ws.map fun x => N * x % W).sum = N * ws.sum
  | [] => by simp
  | x :: ws => by
    have := sum_mul N W hW ws
    have h := Nat.div_add_mod (N * x) W
    simp only [List.map_cons, List.sum_cons, Nat.add_mul, Nat.mul_add]
    rw [Nat.mul_comm W] at h
    omega
theorem sum_rest (N W : Nat) (hW : 0 < W) : ∀ ws : List Nat, (ws.map fun x => N * x % W).sum ≤ ws.length * W
  | [] => by simp
  | x :: ws => by
    have := sum_rest N W hW ws
    have h := Nat.mod_lt (N * x) hW
    simp only [List.map_cons, List.sum_cons, List.length_cons, Nat.add_mul]
    omega
theorem parts0_sum {N W : Nat} {ws : List Nat} (hW : 0 < W) (hs : ws.sum = W) (k : Nat) : (parts0 N W ws k).sum ≤ N := by
  have h1 := sum_mul N W hW (ws.take k)
  have h2 : (ws.take k).sum ≤ W := by
    have : (ws.take k).sum + (ws.drop k).sum = ws.sum := by rw [← List.sum_append, List.take_append_drop]
    omega
  have h3 := Nat.mul_le_mul_left N h2
  refine Nat.le_of_mul_le_mul_right (c := W) ?_ hW
  show ((ws.take k).map fun x => N * x / W).sum * W ≤ N * W
  omega
theorem left_le {N W : Nat} {ws : List Nat} (hW : 0 < W) (hs : ws.sum = W) : N - (parts0 N W ws ws.length).sum ≤ ws.length := by
  have h1 := sum_mul N W hW ws
  have h2 := sum_rest N W hW ws
  have h3 : parts0 N W ws ws.length = ws.map fun x => N * x / W := by unfold parts0; rw [List.take_length]
  rw [h3]
  rw [hs] at h1
  refine Nat.le_of_mul_le_mul_right (c := W) ?_ hW
  rw [Nat.sub_mul]
  omega
theorem cutsTo_len (N W : Nat) (ws : List Nat) : ∀ k, (cutsTo N W ws k).length = k
  | 0 => rfl
  | k + 1 => by rw [cutsTo, (ins_perm _ _).length_eq, List.length_cons, cutsTo_len N W ws k]
theorem cutsTo_mem (N W : Nat) (ws : List Nat) : ∀ k x, x ∈ cutsTo N W ws k → ∃ i, i < k ∧ x = (((rAt N W ws i : Nat) : Int), ((i : Nat) : Int))
  | 0, x, h => by simp [cutsTo] at h
  | k + 1, x, h => by
    rw [cutsTo, (ins_perm _ _).mem_iff, List.mem_cons] at h
    rcases h with h | h
    · exact ⟨k, by omega, h⟩
    · obtain ⟨i, hi, e⟩ := cutsTo_mem N W ws k x h
      exact ⟨i, by omega, e⟩
theorem bump_len (ps : List Nat) (i : Nat) : (bump ps i).length = ps.length := by simp [bump]
theorem sum_set : ∀ (ps : List Nat) (i : Nat) (hi : i < ps.length), (ps.set i (nth ps i + 1)).sum = ps.sum + 1
  | [], i, h => by simp at h
  | x :: ps, 0, h => by simp [nth]; omega
  | x :: ps, i + 1, h => by
    have e : nth (x :: ps) (i + 1) = nth ps i := rfl
    rw [e, List.set_cons_succ, List.sum_cons, List.sum_cons, sum_set ps i (by simpa using h)]
    omega
theorem bump_sum {ps : List Nat} {i : Nat} (hi : i < ps.length) : (bump ps i).sum = ps.sum + 1 := sum_set ps i hi
theorem le_sum : ∀ {ps : List Nat} {i : Nat}, i < ps.length → nth ps i ≤ ps.sum
  | [], i, h => by simp at h
  | x :: ps, 0, h => by simp [nth]
  | x :: ps, i + 1, h => by
    have := le_sum (ps := ps) (i := i) (by simpa using h)
    have e : nth (x :: ps) (i + 1) = nth ps i := rfl
    rw [e, List.sum_cons]
    omega
end Go.Vx
/- The money's heap: its swap, push, pop. -/
namespace Go.Proofs.Ytlbkjhfnpjbjlaa
open Go.RowKit Go.Vx
set_option linter.unusedVariables false
set_option linter.unusedSimpArgs false

set_option maxHeartbeats 4000000 in
theorem ct_swap {w : World} {v : Value} {l : List Cut} {F : List Nat} (h : Fix w 122 2 v l.length (l.flatMap cutEnc) F) {i k : Nat} (hi : i < l.length) (hk : k < l.length) (hl : l.length ≤ 1000000) :
    Calls Try.prog 95 #[v, .int .i64 i, .int .i64 k] w fun e w' => e = .returned (.tuple #[]) ∧ Fix w' 122 2 v (swapAt l i k).length ((swapAt l i k).flatMap cutEnc) F ∧ Chg F w w' := by
  obtain ⟨g, c, rfl, rfl, hci⟩ := h.elem encLenC (by omega) hi
  obtain ⟨g', c', hv, hF, hck⟩ := h.elem encLenC (by omega) hk
  obtain rfl : g = g' := by simpa using hF
  obtain ⟨i0, fi0⟩ := hci 0 (by omega)
  obtain ⟨i1, fi1⟩ := hci 1 (by omega)
  obtain ⟨k0, fk0⟩ := hck 0 (by omega)
  obtain ⟨k1, fk1⟩ := hck 1 (by omega)
  simp only [cutEnc, List.getElem?_cons_zero, List.getElem?_cons_succ, Nat.add_zero] at i0 i1 k0 k1 fi0 fk0
  have e1 := set_flat2 encLenC l i hi (nth l k) rfl
  have e2 := set_flat2 encLenC (l.set i (nth l k)) k (by simpa using hk) (nth l i) rfl
  have hs : Hid (Fix (((((w.setCell ⟨g, i * 2, none⟩ (.int .u64 (nth l k).1)).setCell ⟨g, i * 2 + 1, none⟩ (.int .i64 (nth l k).2)).setCell ⟨g, k * 2, none⟩ (.int .u64 (nth l i).1)).setCell ⟨g, k * 2 + 1, none⟩ (.int .i64 (nth l i).2))) 122 2 (.slice (some ⟨g, 0, none⟩) l.length c) (swapAt l i k).length ((swapAt l i k).flatMap cutEnc) [g]) := by
    have := (((h.store rfl (i * 2) (.int .u64 (nth l k).1)).store rfl (i * 2 + 1) (.int .i64 (nth l k).2)).store rfl (k * 2) (.int .u64 (nth l i).1)).store rfl (k * 2 + 1) (.int .i64 (nth l i).2)
    show Fix _ _ _ _ _ _ _
    rw [length_swap, swapAt, ← e2, ← e1]
    exact this
  clear e1 e2 hci hck h hv hF
  generalize hsw : (swapAt l i k).length = n2 at hs ⊢
  generalize (swapAt l i k).flatMap cutEnc = xs at hs ⊢
  have hxy : i = k → nth l i = nth l k := by rintro rfl; rfl
  generalize nth l i = x at *
  generalize nth l k = y at *
  clear hsw
  generalize l.length = n at *
  go_enter Try.func95, Try.ntmps95
  go_wp2_with fail
  by_cases hik : i = k
  · obtain rfl := hxy hik
    subst hik
    go_region_law (fail)
    all_goals
      go_wp2_with fail
      go_end0
      exact ⟨rfl, hs.out.drew, ((((((Chg.refl _ _).setCell (by simp) _).setCell (by simp) _).setCell (by simp) _).setCell (by simp) _)).drew⟩
  have n1 : ¬ k * 2 = i * 2 := by omega
  have n2' : ¬ k * 2 = i * 2 + 1 := by omega
  have n3 : ¬ k * 2 + 1 = i * 2 := by omega
  have n4 : ¬ k = i := by omega
  go_region_law (fail)
  all_goals
    go_wp2_with fail
    go_end0
    exact ⟨rfl, hs.out.drew, ((((((Chg.refl _ _).setCell (by simp) _).setCell (by simp) _).setCell (by simp) _).setCell (by simp) _)).drew⟩
set_option maxHeartbeats 4000000 in
theorem ct_push {w : World} {p o : Nat} {t : TypeId} {cs : Array Value} {l : List Cut} {F : List Nat} (h : HC w p o t cs l F) (x : Cut) (hl : l.length < 1000000) :
    Calls Try.prog 97 #[.pointer (some ⟨p, o, none⟩), .iface 122 (.agg #[.int .u64 x.1, .int .i64 x.2])] w fun e w' => e = .returned (.tuple #[]) ∧ ∃ F', HC w' p o t cs (l ++ [x]) F' ∧ Chg (p :: F) w w' ∧ ∀ g, g ∈ F' → g ∈ F ∨ w.heap.size ≤ g := by
  obtain ⟨i0, hi, j0, j1, j2⟩ := info_parts infoCut
  obtain ⟨A, c, c0, f0, hb, hf, h1, h2⟩ := h.cell
  obtain ⟨v, -, ho, -, hne⟩ := h
  unfold maxLen at h2
  have ca := cell_al c0
  have hta : ∀ (a b : Value) (w : World), (Instr.typeAssert (.iface 122 (.agg #[a, b])) 20 122 false).run Try.prog w = .ok (.agg #[a, b]) w := fun a b w => by kernel_rfl
  go_enter Try.func97, Try.ntmps97
  go_wp2_with fail
  go_region_law (refine step_append_fix rfl _ _ 116 rfl Try.underlying116 hi j0 j1 j2 rfl (by omega) (n := l.length) (xs := l.flatMap cutEnc) (F := F) rfl (hf.alloc _) rfl (Src.one2 rfl) (by simp [Value.oneCell']) (by unfold maxLen; omega) (by omega) ?_; intro v' w1 F1 ha; obtain ⟨g1, k1, rfl, rfl⟩ := ha.head (by omega); have hb1 := (hb.alloc (.cells #[.int .u64 x.1, .int .i64 x.2] 122)).drew.chg ha.chg (hf.ne_blk hb hne); have d0 : w1.cell? ⟨p, o, none⟩ = some (.slice A l.length c) := (by rw [hb1.cell]; simp [ho]); have e0 := hb1.frozen o)
  all_goals
    go_wp2_with fail
    go_end0
    have hq : Chg [p] w1 (w1.setCell ⟨p, o, none⟩ (.slice (some ⟨g1, 0, none⟩) (l.length + 1) k1)) := (Chg.refl _ _).setCell (by simp) _
    refine ⟨rfl, [g1], ⟨.slice (some ⟨g1, 0, none⟩) (l.length + 1) k1, ?_, ho, ?_, hne⟩, ?_, ?_⟩
    · have := hb1.set_ o (.slice (some ⟨g1, 0, none⟩) (l.length + 1) k1)
      simpa using this
    · have := ha.fix.chg hq (ha.fix.not_mem hb1 hne)
      simpa [cutEnc] using this
    · exact ((((Chg.refl (p :: F) w).alloc (.cells #[.int .u64 x.1, .int .i64 x.2] 122)).drew.trans ha.chg (by intro g hg; left; simp [hg])).trans hq (by simp))
    · intro g hg
      rcases ha.foot with e | e
      · left; rw [← e]; exact hg
      · right; rw [e] at hg; simp at hg; omega
set_option maxHeartbeats 4000000 in
theorem ct_pop {w : World} {p o : Nat} {t : TypeId} {cs : Array Value} {l : List Cut} {F : List Nat} (h : HC w p o t cs l F) (h0 : 0 < l.length) (hl : l.length ≤ 1000000) :
    Calls Try.prog 96 #[.pointer (some ⟨p, o, none⟩)] w fun e w' => e = .returned (.iface 122 (.agg #[.int .u64 (nth l (l.length - 1)).1, .int .i64 (nth l (l.length - 1)).2])) ∧ HC w' p o t cs (l.take (l.length - 1)) F ∧ Chg [p] w w' := by
  obtain ⟨A, c, c0, f0, hb, hf, h1, h2⟩ := h.cell
  obtain ⟨v, -, ho, -, hne⟩ := h
  unfold maxLen at h2
  obtain ⟨m, hm⟩ : ∃ m, l.length = m + 1 := ⟨l.length - 1, by omega⟩
  rw [hm] at c0 hb h1 ⊢
  simp only [Nat.add_sub_cancel] at *
  obtain ⟨g, c', hv, hF, hcl⟩ := hf.elem encLenC (by omega) (k := m) (by omega)
  injection hv with hA _ hc
  subst hA hc hF
  have x0 := (hcl 0 (by omega)).1
  have x1 := (hcl 1 (by omega)).1
  simp only [cutEnc, List.getElem?_cons_zero, List.getElem?_cons_succ, Nat.add_zero] at x0 x1
  have y0 := cell_al x0
  have y1 := cell_al x1
  have c1 := cell_al c0
  have f1 : ∀ o', (w.alloc o').frozen? ⟨p, o, none⟩ = false := fun o' => (hb.alloc o').frozen o
  have hpn : ¬ w.heap.size = p := by have := hb.lt; omega
  have hpn2 : ¬ p = w.heap.size := by have := hb.lt; omega
  clear hcl
  generalize nth l m = x at *
  go_enter Try.func96, Try.ntmps96
  go_wp2_with fail
  go_ret
  have hq : Chg [p] w ((w.alloc (.cells #[.int .u64 x.1, .int .i64 x.2] 122)).setCell ⟨p, o, none⟩ (.slice (some ⟨g, 0, none⟩) m c)) := ((Chg.refl _ _).alloc _).setCell (by simp) _
  have hlm : (l.take m).length = m := by simp; omega
  refine ⟨rfl, ⟨.slice (some ⟨g, 0, none⟩) m c, ?_, ho, ?_, hne⟩, hq⟩
  · have := (hb.alloc (.cells #[.int .u64 x.1, .int .i64 x.2] 122)).set_ o (.slice (some ⟨g, 0, none⟩) m c)
    simpa using this
  · rw [hlm, take_flat encLenC]
    exact (hf.shorter (m := m) (by omega)).chg hq (hf.not_mem hb hne)
end Go.Proofs.Ytlbkjhfnpjbjlaa
