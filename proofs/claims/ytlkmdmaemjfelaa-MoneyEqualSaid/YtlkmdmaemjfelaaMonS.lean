/- MoneyEqual. -/
import Derived.Test.YtlkmdmaemjfelaaMonQ
namespace Go.Vx
open Go.Proofs.Ytlkmdmaemjfelaa
set_option linter.unusedVariables false
set_option linter.unusedSimpArgs false

theorem ins_last {x : Cut} : ∀ {l : List Cut}, (∀ y ∈ l, cutLt y x = true) → ins cutLt x l = l ++ [x]
  | [], _ => rfl
  | y :: l, h => by
    rw [ins, if_pos (h y (by simp)), ins_last fun z hz => h z (by simp [hz])]
    rfl
theorem nth_replicate {n w k : Nat} (hk : k < n) : nth (List.replicate n w) k = w := by
  rw [at_eq (by simpa using hk)]
  simp
theorem cuts_equal {N W n w : Nat} : ∀ k, k ≤ n → cutsTo N W (List.replicate n w) k = (List.range k).map fun i => (((N * w % W : Nat) : Int), ((i : Nat) : Int))
  | 0, _ => rfl
  | k + 1, h => by
    have e : rAt N W (List.replicate n w) k = N * w % W := by rw [rAt, nth_replicate (by omega)]
    rw [cutsTo, cuts_equal k (by omega), e, ins_last, List.range_succ, List.map_append]
    · rfl
    · intro y hy
      obtain ⟨i, hi, rfl⟩ := List.mem_map.1 hy
      have := List.mem_range.1 hi
      simp [cutLt]
      omega
theorem parts_equal {N W n w : Nat} : (parts0 N W (List.replicate n w) n) = List.replicate n (N * w / W) := by
  unfold parts0
  simp
theorem range_count (c : Int) (k L : Nat) : ((List.range L).map fun i => (c, ((i : Nat) : Int))).countP (partIs k) = if k < L then 1 else 0 := by
  induction L with
  | zero => simp
  | succ L ih =>
    rw [List.range_succ, List.map_append, List.countP_append, ih]
    simp only [List.map_cons, List.map_nil, List.countP_cons, List.countP_nil, partIs, Int.toNat_natCast]
    by_cases e : L = k
    · subst e; simp
    · by_cases h : k < L
      · simp [h, e, show k < L + 1 by omega]
      · simp [h, e, show ¬ k < L + 1 by omega]
theorem split_equal {N n w k : Nat} (hn : 0 < n) (hw : 0 < w) (hk : k < n) : nth (splitN N (n * w) (List.replicate n w)) k = if k < N % n then N / n + 1 else N / n := by
  have hq : N * w / (n * w) = N / n := Nat.mul_div_mul_right _ _ hw
  have hL : N - n * (N / n) = N % n := by have := Nat.div_add_mod N n; omega
  have hlt := Nat.mod_lt N hn
  unfold splitN
  rw [List.length_replicate, parts_equal, hq, cuts_equal n (Nat.le_refl _), List.sum_replicate_nat, hL, ← List.map_take, List.take_range, Nat.min_eq_left (Nat.le_of_lt hlt), bumps_nth, nth_replicate hk, range_count]
  · split <;> rfl
  · intro x hx
    obtain ⟨i, hi, rfl⟩ := List.mem_map.1 hx
    have := List.mem_range.1 hi
    simp
    omega
theorem tdiv_sg (a : Int) (n : Nat) : a.tdiv n = sg a (a.natAbs / n) ∧ a.tmod n = sg a (a.natAbs % n) := by
  unfold sg
  split
  · rename_i h
    have e : a = -(a.natAbs : Int) := by omega
    generalize a.natAbs = N at *
    subst e
    rw [Int.neg_tdiv, Int.neg_tmod]
    exact ⟨rfl, rfl⟩
  · rename_i h
    have e : a = (a.natAbs : Int) := by omega
    generalize a.natAbs = N at *
    subst e
    exact ⟨rfl, rfl⟩
end Go.Vx
namespace Go.Proofs.Ytlkmdmaemjfelaa
open Go.RowKit Go.Vx
set_option linter.unusedVariables false
set_option linter.unusedSimpArgs false

theorem weigh_equal {n : Nat} {w : Int} (hn : n ≤ 20) (h1 : 1 ≤ w) (h2 : w ≤ 1000000) : weigh (List.replicate n w) = n * w := by
  have hall : (List.replicate n w).all okW = true := by
    rw [List.all_eq_true]
    intro x hx
    rw [(List.mem_replicate.1 hx).2]
    exact okW_iff.2 (by omega)
  have hs : ∀ n : Nat, (List.replicate n w).sum = n * w := by
    intro n
    induction n with
    | zero => simp
    | succ n ih =>
      rw [List.replicate_succ, List.sum_cons, ih, Int.natCast_succ, Int.add_mul]
      omega
  unfold weigh
  rw [if_pos ⟨by simpa using hn, hall⟩, hs]
set_option maxHeartbeats 4000000 in
set_option maxRecDepth 8000 in
theorem equal_in {a : Int} (ha : okM a = true) {n : Nat} {v : Int} (hn1 : 1 ≤ n) (hn2 : n ≤ 20) (hv1 : 1 ≤ v) (hv2 : v ≤ 1000000) (w : World) :
    Calls Try.prog 6 #[.int .i64 a, .int .i64 n, .int .i64 v] w fun e w' => e = .returned (.bool true) ∧ Chg [] w w' := by
  have hA := okM_iff.1 ha
  obtain ⟨x, rfl⟩ := Int.eq_ofNat_of_zero_le (show 0 ≤ v by omega)
  have hw := weigh_equal (n := n) hn2 hv1 hv2
  have hmap : (List.replicate n (x : Int)).map Int.toNat = List.replicate n x := by simp
  have hnv : weigh (List.replicate n (x : Int)) ≠ 0 := by
    rw [hw]
    have : (0 : Int) < (n : Int) * (x : Int) := Int.mul_pos (by omega) (by omega)
    omega
  have hsp := fun (w : World) (A : Option Addr) (c : Nat) (hs : Src w 1 A n ((List.replicate n (x : Int)).map (Value.int .i64))) => split_good (a := a) (c := c) hs ha hnv
  rw [hmap, hw, show ((n : Int) * (x : Int)).toNat = n * x by rw [← Int.natCast_mul, Int.toNat_natCast]] at hsp
  have hT := fun k (hk : k < n) => split_equal (N := a.natAbs) (n := n) (w := x) (by omega) (by omega) hk
  have hTl : (splitN a.natAbs (n * x) (List.replicate n x)).length = n := by rw [split_len]; simp
  generalize splitN a.natAbs (n * x) (List.replicate n x) = T at *
  simp only [signed_map] at hsp
  have hfit := fits1 a
  rw [ha] at hfit
  have b1 : decide ((n : Int) < 1) = false := by simp; omega
  have b2 : decide (20 < (n : Int)) = false := by simp; omega
  have b3 : decide ((x : Int) < 1) = false := by simp; omega
  have b4 : decide (1000000 < (x : Int)) = false := by simp; omega
  obtain ⟨i0, hi, j0, j1, j2⟩ := info_parts infoInt
  clear hw hmap hnv ha
  go_enter Try.func6, Try.ntmps6
  go_wp2_with (first | (go_at_call 19; refine (hfit _ _ (by exact Src.one1 rfl)).mono ?_; rintro e w' ⟨rfl, rfl⟩) | (go_at_call 10; refine (m_alive _).mono ?_; rintro e w0 ⟨rfl, hc0⟩))
  have hcz := ((Chg.refl [] w).alloc (.cells #[.int .i64 a] 3)).trans' hc0
  clear hc0 hfit
  go_loopw [7, 8] (fun lv iv wr => ∃ (k : Nat) (F : List Nat), k ≤ n ∧ iv = .int .i64 k ∧ Fix wr 3 1 lv k ((List.replicate k (x : Int)).map (Value.int .i64)) F ∧ (∀ g, g ∈ F → w.heap.size ≤ g) ∧ Chg [] w wr) (fun _ iv _ => n - (intOf iv).toNat)
  case atStart => exact ⟨0, [], by omega, rfl, Fix.nil _ _ _, by simp, hcz⟩
  case round =>
    obtain ⟨k, F, hk, rfl, hf, hF, hc⟩ := hrel
    by_cases hkn : k < n
    · go_wp2_with (at_builtin; refine wpList_append_fix rfl (.tmp 43) (.tmp 45) 22 rfl Try.underlying22 hi j0 j1 j2 rfl (by omega) rfl (hf.alloc _) rfl (Src.one1 rfl) (by simp [Value.oneCell']) (by unfold maxLen; omega) (by omega) ?_; intro v' w1 F1 ha)
      go_roundw
      case measure => simp [intOf]; omega
      case rel =>
        refine ⟨k + 1, F1, by omega, by go_num, ?_, ?_, (hc.alloc _).trans ha.chg (fun g hg => .inr (hF g hg))⟩
        · rw [List.replicate_succ', List.map_append]
          exact ha.fix
        · intro g hg
          rcases ha.foot with e | e
          · exact hF g (by rw [← e]; exact hg)
          · rw [e] at hg
            have := hc.size
            simp at hg
            omega
    · obtain rfl : k = n := by omega
      have hf0 := hf
      obtain ⟨A, c, rfl, -⟩ := hf0
      have hsp2 := hsp _ _ c hf.src
      clear hsp
      go_wp2_with fail
      refine hsp2.mono ?_
      rintro e w1 ⟨v, F', rfl, hr, hFF, hc1⟩
      obtain ⟨R, c', rfl, rfl⟩ : ∃ R c', v = .slice (some ⟨R, 0, none⟩) k c' ∧ F' = [R] := by
        obtain ⟨g, c', e1, -, -, e2, -⟩ := hr.at_ (k := 0) (j := 0) (by omega) (by omega)
        exact ⟨g, c', e1, e2⟩
      have hcz := hc.trans' hc1
      obtain ⟨td, tm⟩ := tdiv_sg a k
      have hm : Hid (max (a.tmod k) (-(a.tmod k)) = ((a.natAbs % k : Nat) : Int)) := by
        show _ = _
        rw [tm]
        unfold sg
        split <;> omega
      have hNk : a.natAbs / k ≤ a.natAbs := Nat.div_le_self _ _
      have htb : -1000000000000000 ≤ a.tmod k ∧ a.tmod k ≤ 1000000000000000 := by
        have := Nat.mod_le a.natAbs k
        rw [tm]
        unfold sg
        split <;> omega
      have hdb : -1000000000000000 ≤ a.tdiv k ∧ a.tdiv k ≤ 1000000000000000 := by
        rw [td]
        unfold sg
        generalize a.natAbs / k = q at *
        split <;> omega
      have nz : ¬ (k : Int) = 0 := by omega
      have hcell : ∀ wr, Chg [] w1 wr → ∀ i, i < k → wr.cell? ⟨R, i, none⟩ = some (.int .i64 (sg a (nth T i))) := by
        intro wr hc i hi
        obtain ⟨u, hu, h2, -⟩ := (hr.chg hc (by simp)).one_at hi
        rw [(nth_of_map (by omega)).2] at hu
        rw [h2, ← hu]
      replace td := Lib.hid td
      replace tm := Lib.hid tm
      obtain ⟨hta, htb⟩ := htb
      obtain ⟨hda, hdb⟩ := hdb
      clear hr hsp2 hFF hc hc1 hF hf
      dsimp only
      go_wp2_with fail
      go_loopw [11] (fun iv wr => ∃ i : Nat, i ≤ k ∧ iv = .int .i64 i ∧ Chg [] w1 wr) (fun iv _ => k - (intOf iv).toNat)
      case atStart => exact ⟨0, by omega, rfl, Chg.refl _ _⟩
      case round =>
        obtain ⟨i, hi, rfl, hc2⟩ := hrel
        by_cases hik : i < k
        · have d0 := hcell _ hc2 i hik
          have hTi := hT i hik
          replace hTi := Lib.hid hTi
          clear hcell hT
          by_cases hlt : i < a.natAbs % k
          · have b0 : decide ((i : Int) < max (a.tmod k) (-(a.tmod k))) = true := by rw [hm.out]; simp only [decide_eq_true_eq]; omega
            have hy : nth T i = a.natAbs / k + 1 := by rw [hTi.out, if_pos hlt]
            by_cases h0 : a < 0
            · have hb : decide (a < 0) = true := by simpa using h0
              have he : sg a (nth T i) = a.tdiv k - 1 := by
                rw [hy, td.out]
                unfold sg
                rw [if_pos h0, if_pos h0]
                omega
              clear hy hlt h0 hTi
              rw [he] at d0; clear he
              go_wp2_with fail
              go_quiet (fail)
              go_wp2_with fail
              go_roundw
              case measure => simp [intOf]; omega
              case rel => exact ⟨i + 1, by omega, by go_num, hc2.drewN _⟩
            · have hb : decide (a < 0) = false := by simpa using h0
              have he : sg a (nth T i) = a.tdiv k + 1 := by
                rw [hy, td.out]
                unfold sg
                rw [if_neg h0, if_neg h0]
                omega
              clear hy hlt h0 hTi
              rw [he] at d0; clear he
              go_wp2_with fail
              go_quiet (fail)
              go_wp2_with fail
              go_roundw
              case measure => simp [intOf]; omega
              case rel => exact ⟨i + 1, by omega, by go_num, hc2.drewN _⟩
          · have b0 : decide ((i : Int) < max (a.tmod k) (-(a.tmod k))) = false := by rw [hm.out]; simp only [decide_eq_false_iff_not]; omega
            have hy : nth T i = a.natAbs / k := by rw [hTi.out, if_neg hlt]
            have he : sg a (nth T i) = a.tdiv k := by
              rw [hy, td.out]
            clear hy hlt hTi
            rw [he] at d0; clear he
            go_wp2_with fail
            go_quiet (fail)
            go_wp2_with fail
            go_roundw
            case measure => simp [intOf]; omega
            case rel => exact ⟨i + 1, by omega, by go_num, hc2.drewN _⟩
        · obtain rfl : i = k := by omega
          go_wp2_with fail
          go_ret
          exact ⟨by trivial, hcz.trans' hc2⟩
set_option maxRecDepth 8000 in
set_option maxHeartbeats 1000000 in
theorem moneyEqual_walk (a : Int) (wa : (Lit.int .i64 a).wf = true) (n : Int) (wn : (Lit.int .i64 n).wf = true) (v : Int) (wv : (Lit.int .i64 v).wf = true) (w : World) :
    Calls Try.prog 6 #[.int .i64 a, .int .i64 n, .int .i64 v] w fun e w' => e = .returned (.bool true) ∧ Chg [] w w' := by
  by_cases h : okM a = true ∧ 1 ≤ n ∧ n ≤ 20 ∧ 1 ≤ v ∧ v ≤ 1000000
  · obtain ⟨h1, h2, h3, h4, h5⟩ := h
    obtain ⟨m, rfl⟩ := Int.eq_ofNat_of_zero_le (show 0 ≤ n by omega)
    exact equal_in h1 (by omega) (by omega) h4 h5 w
  · have hfit := fits1 a
    cases ho : okM a with
    | false =>
      rw [ho] at hfit
      go_enter Try.func6, Try.ntmps6
      go_wp2_with (first | (go_at_call 19; refine (hfit _ _ (by exact Src.one1 rfl)).mono ?_; rintro e w' ⟨rfl, rfl⟩) | (go_at_call 10; refine (m_alive _).mono ?_; rintro e w0 ⟨rfl, hc0⟩))
      go_ret
      exact ⟨by trivial, ((Chg.refl [] w).alloc _).trans' hc0⟩
    | true =>
      rw [ho] at hfit
      replace h : ¬ (1 ≤ n ∧ n ≤ 20 ∧ 1 ≤ v ∧ v ≤ 1000000) := fun k => h ⟨ho, k⟩
      have hb : (decide (n < 1) = true) ∨ (decide (n < 1) = false ∧ decide (20 < n) = true) ∨ (decide (n < 1) = false ∧ decide (20 < n) = false ∧ decide (v < 1) = true) ∨ (decide (n < 1) = false ∧ decide (20 < n) = false ∧ decide (v < 1) = false ∧ decide (1000000 < v) = true) := by
        simp only [decide_eq_true_eq, decide_eq_false_iff_not]
        omega
      clear h
      rcases hb with b1 | ⟨b1, b2⟩ | ⟨b1, b2, b3⟩ | ⟨b1, b2, b3, b4⟩
      all_goals
        go_enter Try.func6, Try.ntmps6
        go_wp2_with (first | (go_at_call 19; refine (hfit _ _ (by exact Src.one1 rfl)).mono ?_; rintro e w' ⟨rfl, rfl⟩) | (go_at_call 10; refine (m_alive _).mono ?_; rintro e w0 ⟨rfl, hc0⟩))
        go_ret
        exact ⟨by trivial, ((Chg.refl [] w).alloc _).trans' hc0⟩
end Go.Proofs.Ytlkmdmaemjfelaa
