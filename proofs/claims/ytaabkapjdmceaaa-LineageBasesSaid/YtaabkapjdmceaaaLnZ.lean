/- Lineage: the law's Build: both lineages made alike. -/
import Derived.Test.YtaabkapjdmceaaaLnY
import Derived.Test.YtaabkapjdmceaaaOpen
namespace Go.Proofs.Ytaabkapjdmceaaa
open Go.RowKit Go.Vx Go.Maps Go.Sort
set_option linter.unusedVariables false
set_option linter.unusedSimpArgs false

def pairCells (x : Int × Int) : List Value := [.int .i64 x.1, .int .i64 x.2]
theorem pairCells_len (x : Int × Int) : (pairCells x).length = 2 := rfl
def pairAt (x : Int × Int) (k : Nat) : Int := if k = 0 then x.1 else x.2
theorem pair_cell {w : World} {A : Option Addr} {n : Nat} {l : List (Int × Int)} (hs : Src w 2 A n (l.flatMap pairCells)) {i : Nat} (hi : i < l.length) : ∃ ad, A = some ad ∧ ∀ k, k < 2 → w.cell? ((ad.add (i * 2)).add k) = some (.int .i64 (pairAt l[i] k)) := by
  have hl : l.length = n := by have := hs.1; rw [flatMap_len pairCells_len] at this; omega
  obtain ⟨ad, rfl, hc⟩ := hs.2 (by omega)
  refine ⟨ad, rfl, fun k hk => ?_⟩
  rw [vx_add]
  apply hc
  rw [flatMap_at pairCells_len l i hi k hk, at_eq hi]
  match k, hk with
  | 0, _ => rfl
  | 1, _ => rfl
theorem mod_key (x : Int) (i : Nat) (hi : i ≤ 30) : ∃ r : Nat, r ≤ i ∧ (x.tmod ((i : Int) + 1) + i + 1).tmod ((i : Int) + 1) = r ∧ -((i : Int) + 1) < x.tmod ((i : Int) + 1) ∧ x.tmod ((i : Int) + 1) < (i : Int) + 1 := by
  have e1 : x.tmod ((i : Int) + 1) < (i : Int) + 1 := Int.tmod_lt_of_pos x (by omega)
  have e2 : -((i : Int) + 1) < x.tmod ((i : Int) + 1) := by
    have := Int.tmod_lt_of_pos (-x) (b := (i : Int) + 1) (by omega)
    rw [Int.neg_tmod] at this
    omega
  have e3 := Int.tmod_nonneg (a := x.tmod ((i : Int) + 1) + i + 1) ((i : Int) + 1) (by omega)
  have e4 : (x.tmod ((i : Int) + 1) + i + 1).tmod ((i : Int) + 1) < (i : Int) + 1 := Int.tmod_lt_of_pos _ (by omega)
  exact ⟨((x.tmod ((i : Int) + 1) + i + 1).tmod ((i : Int) + 1)).toNat, by omega, by omega, e2, e1⟩
/-- What Build leaves. -/
def BuiltAt (w : World) (n : Nat) (e : Ending) (w' : World) : Prop := ∃ lp rp C, e = .returned (.tuple #[.pointer (some ⟨lp, 0, none⟩), .pointer (some ⟨rp, 0, none⟩), .bool true]) ∧ Two w w' w'.heap.size lp rp C C ∧ C.length = n
set_option maxRecDepth 100000 in
set_option maxHeartbeats 8000000 in
theorem ln_build {w : World} {A : Option Addr} {n c : Nat} {l : List (Int × Int)} (hs : Src w 2 A n (l.flatMap pairCells)) (hn : n ≤ 30) : Calls Try.prog 10 #[.slice A n c] w (BuiltAt w n) := by
  obtain ⟨i1, hi1, k0, k1, k2⟩ := info_parts lnIntInfo
  have hl : l.length = n := by have := hs.1; rw [flatMap_len pairCells_len] at this; omega
  replace hl := Lib.hid hl
  have h2 := Two.start (Chg.refl [] w)
  go_enter Try.func10, Try.ntmps10
  go_wp2_with fail
  have h2' : Two w ((w.alloc (.cells #[.slice none 0 0] 26)).alloc (.cells #[.slice none 0 0] 53)) ((w.alloc (.cells #[.slice none 0 0] 26)).alloc (.cells #[.slice none 0 0] 53)).heap.size w.heap.size (w.heap.size + 1) [] [] := by
    have e : ((w.alloc (.cells #[.slice none 0 0] 26)).alloc (.cells #[.slice none 0 0] 53)).heap.size = w.heap.size + 2 := by simp [World.size_alloc]
    rw [e]
    exact h2
  clear h2
  generalize (w.alloc (.cells #[.slice none 0 0] 26)).alloc (.cells #[.slice none 0 0] 53) = wa at *
  generalize w.heap.size + 1 = rp at *
  generalize hlp : w.heap.size = lp at *
  replace hlp := Lib.hid hlp
  go_loopw [7] (fun iv wr => ∃ (i : Nat) (C : Lin0), i ≤ n ∧ iv = .int .i64 i ∧ Two w wr wr.heap.size lp rp C C ∧ C.length = i) (fun iv _ => n - (intOf iv).toNat)
  case atStart => exact ⟨0, [], by omega, rfl, h2', rfl⟩
  case round =>
    clear h2'
    obtain ⟨i, C, hi, rfl, h2, hC⟩ := hrel
    obtain ⟨w1, hw1⟩ : ∃ w1, w1 = wr := ⟨_, rfl⟩
    subst hw1
    by_cases hlt : i < n
    · obtain ⟨ad, rfl, hc⟩ := pair_cell (hs.chg h2.chg (by simp)) (i := i) (by rw [hl.out]; exact hlt)
      generalize (l[i]'(by rw [hl.out]; exact hlt)) = x at *
      have hc1 : ∀ w', Chg [] w1 w' → ∀ k, k < 2 → w'.cell? ((ad.add (i * 2)).add k) = some (.int .i64 (pairAt x k)) := fun w' hz k hk => (hz.cell (World.block_lt_of_cell? _ _ (hc k hk)) (by simp)).trans (hc k hk)
      clear hc hs
      replace hC := Lib.hid hC
      go_wp2_with fail
      go_loopw [8, 9] (fun pv kv wr => ∃ (k : Nat) (A' : Option Addr) (c' : Nat) (q : List Nat) (F : List Nat), k ≤ 2 ∧ kv = .int .i64 k ∧ pv = .slice A' q.length c' ∧ Fix wr 3 1 (.slice A' q.length c') q.length (natVals q) F ∧ q.length ≤ k ∧ q.Nodup ∧ (∀ p ∈ q, 1 ≤ p ∧ p ≤ i) ∧ Chg [] w1 wr ∧ (∀ g ∈ F, w1.heap.size ≤ g)) (fun _ kv _ => 2 - (intOf kv).toNat)
      case atStart => exact ⟨0, none, 0, [], [], by omega, rfl, rfl, Fix.nil _ _ _, by simp, by simp, by simp, Chg.refl _ _, by simp⟩
      case round =>
        obtain ⟨k, A', c', q, F, hk, rfl, rfl, hf, hq1, hq2, hq3, hz, hF⟩ := hrel
        by_cases hgo : k < 2 ∧ 0 < i
        · obtain ⟨hk2, hi0⟩ := hgo
          have c1 := hc1 wr hz k hk2
          clear hc1
          generalize pairAt x k = y at *
          obtain ⟨r, hr, hr1, hr2, hr3⟩ := mod_key y i (by omega)
          have q1 : IntKind.i64.wrap ((i : Int) + 1) = (i : Int) + 1 := by rw [IntKind.wrap_i64]; omega
          have q2 : ¬ (i : Int) + 1 = 0 := by omega
          have q3 : IntKind.i64.wrap (y.tmod ((i : Int) + 1)) = y.tmod ((i : Int) + 1) := by rw [IntKind.wrap_i64]; omega
          have q4 : IntKind.i64.wrap (y.tmod ((i : Int) + 1) + i) = y.tmod ((i : Int) + 1) + i := by rw [IntKind.wrap_i64]; omega
          have q5 : IntKind.i64.wrap (y.tmod ((i : Int) + 1) + i + 1) = y.tmod ((i : Int) + 1) + i + 1 := by rw [IntKind.wrap_i64]; omega
          have q6 : IntKind.i64.wrap (r : Int) = r := by rw [IntKind.wrap_i64]; omega
          by_cases hr0 : r = 0
          · have b0 : decide (0 < (r : Int)) = false := by simp; omega
            go_wp2_with fail
            exact ⟨⟨k + 1, A', c', q, F, by omega, by go_num, rfl, hf, by omega, hq2, hq3, hz, hF⟩, by simp [intOf]; omega⟩
          · have b0 : decide (0 < (r : Int)) = true := by simp; omega
            match q, hf, hq1, hq2, hq3 with
            | [], hf, hq1, hq2, hq3 =>
              simp only [List.length_nil] at hf ⊢
              go_wp2_with first
                | (at_builtin; refine wpList_append_fix rfl (.tmp 62) (.tmp 64) 27 rfl Try.underlying27 hi1 k0 k1 k2 rfl (by omega) rfl (hf.alloc _) rfl (Src.one1 rfl) (by simp [Value.oneCell']) (by unfold maxLen; omega) (by omega) ?_; intro v3 w3 F3 hA3)
              obtain ⟨A3, c3, rfl, -⟩ := _root_.id hA3.fix
              have hz3 : Chg [] w1 w3 := (hz.alloc _).trans hA3.chg (fun g hg => .inr (hF g hg))
              have hsz := hz.size
              refine ⟨⟨k + 1, A3, c3, [r], F3, by omega, by go_num, rfl, by simpa [natVals] using hA3.fix, by (try simp at hq1 ⊢) <;> omega, by simp, by simp; omega, hz3, fun g hg => ?_⟩, by simp [intOf]; omega⟩
              rcases hA3.foot with e | e
              · rw [e] at hg
                exact hF g hg
              · rw [e] at hg
                simp at hg
                omega
            | [p], hf, hq1, hq2, hq3 =>
              simp only [List.length_cons, List.length_nil, Nat.zero_add] at hf ⊢
              have c2 : ∃ g, A' = some ⟨g, 0, none⟩ ∧ wr.cell? ⟨g, 0, none⟩ = some (.int .i64 (p : Nat)) := by
                obtain ⟨g, c', hB, -, -, -, hc, -⟩ := hf.at_ (k := 0) (j := 0) (by omega) (by omega)
                exact ⟨g, by injection hB, by simpa [natVals] using hc⟩
              obtain ⟨g, rfl, c2⟩ := c2
              by_cases hpr : p = r
              · have b1 : ((p : Int) == (r : Int)) = true := by rw [hpr]; simp
                go_wp2_with fail
                exact ⟨⟨k + 1, some ⟨g, 0, none⟩, c', [p], F, by omega, by go_num, rfl, hf, by (try simp at hq1 ⊢) <;> omega, hq2, hq3, hz, hF⟩, by simp [intOf]; omega⟩
              · have b1 : ((p : Int) == (r : Int)) = false := by simp; omega
                go_wp2_with first
                  | (at_builtin; refine wpList_append_fix rfl (.tmp 62) (.tmp 64) 27 rfl Try.underlying27 hi1 k0 k1 k2 rfl (by omega) rfl (hf.alloc _) rfl (Src.one1 rfl) (by simp [Value.oneCell']) (by unfold maxLen; omega) (by omega) ?_; intro v3 w3 F3 hA3)
                obtain ⟨A3, c3, rfl, -⟩ := _root_.id hA3.fix
                have hz3 : Chg [] w1 w3 := (hz.alloc _).trans hA3.chg (fun g hg => .inr (hF g hg))
                have hsz := hz.size
                refine ⟨⟨k + 1, A3, c3, [p, r], F3, by omega, by go_num, rfl, by simpa [natVals] using hA3.fix, by (try simp at hq1 ⊢) <;> omega, by simpa using hpr, fun z hz => by simp at hz hq3; omega, hz3, fun g hg => ?_⟩, by simp [intOf]; omega⟩
                rcases hA3.foot with e | e
                · rw [e] at hg
                  exact hF g hg
                · rw [e] at hg
                  simp at hg
                  omega
            | _ :: _ :: _, hf, hq1, hq2, hq3 => simp at hq1; omega
        · have h2' := h2.keep hz
          have hth : ∀ p ∈ q, isThere C p = true := fun p hp => isThere_iff.2 (by rw [hC.out]; exact hq3 p hp)
          have hCl : C.length < 400 := by rw [hC.out]; omega
          have hadL := h2'.addL hf (i : Int) ⟨#[97, 110, 110]⟩ hCl (by omega) (by decide) (by decide) (by omega) hq2 hth
          have hgen : ∀ p ∈ q, genAt C p ≤ 400 := fun p hp => h2.gen (by omega) (hth p hp)
          have hadR := fun w3 (h3 : Two w w3 w3.heap.size lp rp (addC C (i : Int) ⟨#[97, 110, 110]⟩ q) C) (hf3 : Fix w3 3 1 (.slice A' q.length c') q.length (natVals q) F) => h3.addR hf3 (i : Int) ⟨#[97, 110, 110]⟩ hCl (by omega) (by decide) (by decide) (by omega) hq2 hth hgen
          have hC' : (addC C (i : Int) ⟨#[97, 110, 110]⟩ q).length = i + 1 := by unfold addC; rw [List.length_append, hC.out]; rfl
          rw [hC.out] at hadL hadR
          generalize addC C (i : Int) ⟨#[97, 110, 110]⟩ q = C2 at *
          clear hc1 hq1 hq2 hq3 hth hgen h2'
          replace hC' := Lib.hid hC'
          rcases (show k = 2 ∨ (k < 2 ∧ decide (0 < (i : Int)) = false) by simp; omega) with rfl | ⟨hk2, hi0⟩
          all_goals
            go_wp2_with fail
            refine hadL.mono ?_
            rintro e w3 ⟨rfl, h3, S, hc3, hS⟩
            have hf3 := hf.chg hc3 (fun g hg hm => by have := (hS g hm).2; have := hF g hg; omega)
            have hR := hadR _ h3 hf3
            clear hadL hadR hc3 hS hf hf3 h3 hz h2 hF
            go_wp2_with fail
            refine hR.mono ?_
            rintro e w4 ⟨rfl, h4⟩
            clear hR
            go_wp2_with fail
            go_roundw
            case measure => simp [intOf]; omega
            case rel => exact ⟨i + 1, C2, by omega, by go_num, h4, hC'.out⟩
    · obtain rfl : i = n := by omega
      go_wp2_with fail
      refine bodyPost_ret (v := .tuple #[.pointer (some ⟨lp, 0, none⟩), .pointer (some ⟨rp, 0, none⟩), .bool true]) (by simp [results, Try.f10, go_sem]) rfl ?_
      exact ⟨lp, rp, C, rfl, h2, hC⟩
end Go.Proofs.Ytaabkapjdmceaaa
