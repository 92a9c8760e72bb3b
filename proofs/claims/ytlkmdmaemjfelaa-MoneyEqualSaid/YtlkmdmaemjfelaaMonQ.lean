/- MoneyFair. -/
import Derived.Test.YtlkmdmaemjfelaaMonF
import Derived.Test.YtlkmdmaemjfelaaMonP
import Derived.Deep.QuietTactic
namespace Go.Proofs.Ytlkmdmaemjfelaa
open Go.RowKit Go.Vx
set_option linter.unusedVariables false
set_option linter.unusedSimpArgs false

theorem signed_map (a : Int) (T : List Nat) : signedAll a T = (T.map (sg a)).map (Value.int .i64) := by
  unfold signedAll
  rw [List.map_map]
  rfl
/-- What Split gives, told in one. -/
structure FairT (a : Int) (l : List Int) (T : List Nat) : Prop where
  len : T.length = l.length
  sum : T.sum = a.natAbs
  zero : ∀ k, k < l.length → nth l k = 0 → nth T k = 0
  mono : ∀ i k, i < l.length → k < l.length → nth l k < nth l i → nth T k ≤ nth T i
  near : ∀ k, k < l.length → a.natAbs / l.sum.toNat * (nth l k).toNat + a.natAbs % l.sum.toNat * (nth l k).toNat / l.sum.toNat ≤ nth T k ∧ nth T k ≤ a.natAbs / l.sum.toNat * (nth l k).toNat + a.natAbs % l.sum.toNat * (nth l k).toNat / l.sum.toNat + 1
  nat : ∀ k, k < l.length → 0 ≤ nth l k ∧ nth l k ≤ 1000000
  pos : 0 < l.sum
  few : l.length ≤ 20
  tot : l.sum ≤ 20000000
theorem fairT {a : Int} {l : List Int} (hw : weigh l ≠ 0) : FairT a l (splitN a.natAbs (weigh l).toNat (l.map Int.toNat)) := by
  have hcond : l.length ≤ 20 ∧ l.all okW = true := Decidable.byContradiction fun k => hw (by unfold weigh; rw [if_neg k])
  obtain ⟨h20, hok⟩ := hcond
  have hwl : weigh l = l.sum := by unfold weigh; rw [if_pos ⟨h20, hok⟩]
  have hnat : ∀ k, k < l.length → 0 ≤ nth l k ∧ nth l k ≤ 1000000 := fun k hk => by
    rw [at_eq hk]
    exact okW_iff.1 (List.all_eq_true.1 hok _ (List.getElem_mem hk))
  have hso := sum_okW hok
  have hsum : ∀ l : List Int, l.all okW = true → (l.map Int.toNat).sum = l.sum.toNat := by
    intro l
    induction l with
    | nil => simp
    | cons x l ih =>
      intro h
      simp only [List.all_cons, Bool.and_eq_true] at h
      have := okW_iff.1 h.1
      have := ih h.2
      have := sum_okW h.2
      simp only [List.map_cons, List.sum_cons]
      omega
  have hs := hsum l hok
  rw [hwl] at hw ⊢
  have hW : 0 < l.sum.toNat := by omega
  have hlen : (l.map Int.toNat).length = l.length := by simp
  have hnth : ∀ k, k < l.length → nth (l.map Int.toNat) k = (nth l k).toNat := fun k hk => nth_map _ hk
  refine ⟨by rw [split_len, hlen], split_sum hW hs, fun k hk h0 => split_zero hW hs (by omega) (by rw [hnth k hk, h0]; rfl), fun i k hi hk h => split_mono hW hs (by omega) (by omega) (by rw [hnth k hk, hnth i hi]; have := hnat k hk; omega), fun k hk => ?_, hnat, by omega, h20, by omega⟩
  rw [low_of hW, ← hnth k hk]
  exact split_near (by omega)
theorem w64 (n : Nat) (h : n ≤ 4000000000000000000) : wrap64 (n : Int) = (n : Int) := by unfold wrap64; omega
theorem low_wrap {N W x B : Nat} (h : N / W * x + N % W * x / W ≤ B) (hB : B ≤ 1000000000000000) (hW : W ≤ 20000000) (hx : x ≤ 1000000) (hN : N ≤ 1000000000000000) (h0 : 0 < W) :
    wrap64 (wrap64 (wrap64 ((N : Int) / (W : Int)) * (x : Int)) + wrap64 ((wrap64 ((N : Int) % (W : Int) * (x : Int))).tdiv (W : Int))) = ((N / W * x + N % W * x / W : Nat) : Int) := by
  have h1 : N / W ≤ N := Nat.div_le_self _ _
  have h2 : N % W < W := Nat.mod_lt _ h0
  have h3 : N % W * x ≤ 20000000 * 1000000 := Nat.mul_le_mul (by omega) hx
  have h4 : N % W * x / W ≤ N % W * x := Nat.div_le_self _ _
  rw [← Int.natCast_ediv, ← Int.natCast_emod, w64 _ (by omega), ← Int.natCast_mul, ← Int.natCast_mul, w64 (N % W * x) (Nat.le_trans h3 (by decide)), ← Int.ofNat_tdiv, w64 (N % W * x / W) (Nat.le_trans h4 (Nat.le_trans h3 (by decide))), w64 (N / W * x) (Nat.le_trans (Nat.le_trans (Nat.le_add_right _ _) h) (by omega)), ← Int.natCast_add, w64 _ (Nat.le_trans h (by omega))]
theorem nth_of_map {T : List Nat} {a : Int} {k : Nat} (hk : k < T.length) : (T.map (sg a)).map (Value.int .i64) = (T.map (sg a)).map (Value.int .i64) ∧ ((T.map (sg a)).map (Value.int .i64))[k]? = some (.int .i64 (sg a (nth T k))) := by
  refine ⟨rfl, ?_⟩
  rw [List.getElem?_map, List.getElem?_map, List.getElem?_eq_getElem hk, at_eq hk]
  rfl
theorem fair_add {a : Int} (ha : okM a = true) {l : List Int} {T : List Nat} (h : FairT a l T) : addUp (T.map (sg a)) = (a, 0) := by
  have hA := okM_iff.1 ha
  have hall : (T.map (sg a)).all okM = true := by
    rw [List.all_eq_true]
    intro x hx
    obtain ⟨t, ht, rfl⟩ := List.mem_map.1 hx
    obtain ⟨k, hk, e⟩ := List.mem_iff_getElem.1 ht
    have := le_sum (ps := T) (i := k) hk
    rw [at_eq hk, e, h.sum] at this
    rw [okM_iff]
    unfold sg
    split <;> omega
  unfold addUp told
  rw [if_pos hall, sg_sum, h.sum, sg_abs, if_pos ha]
set_option maxHeartbeats 4000000 in
set_option maxRecDepth 8000 in
theorem moneyFair_in {w : World} {a : Int} {A : Option Addr} {n c : Nat} {l : List Int} (hs : Src w 1 A n (l.map (Value.int .i64))) (h20 : n ≤ 20) :
    Calls Try.prog 8 #[.int .i64 a, .slice A n c] w fun e w' => e = .returned (.bool true) ∧ Chg [] w w' := by
  have hl : l.length = n := by have := hs.1; simpa using this
  by_cases hok : okM a = true ∧ weigh l ≠ 0
  · obtain ⟨ha, hw⟩ := hok
    have hF := fairT (a := a) hw
    have hsp := fun w (hs : Src w 1 A n (l.map (Value.int .i64))) => split_good (a := a) (c := c) hs ha hw
    generalize splitN a.natAbs (weigh l).toNat (l.map Int.toNat) = T at *
    simp only [signed_map] at hsp
    have hadd := fair_add ha hF
    have hA := okM_iff.1 ha
    have hn0 : 0 < n := by
      rcases Nat.eq_zero_or_pos n with h | h
      · have := hF.pos
        rw [List.length_eq_zero_iff.1 (hl.trans h)] at this
        simp at this
      · exact h
    obtain ⟨ad, rfl, hcw⟩ := hs.2 hn0
    have hTl := hF.len
    rw [hl] at hTl
    have hmax : max a (-a) = (a.natAbs : Int) := by omega
    clear hw
    replace hl := Lib.hid hl
    replace hTl := Lib.hid hTl
    replace hmax := Lib.hid hmax
    replace ha := Lib.hid ha
    go_enter Try.func8, Try.ntmps8
    go_wp2_with (go_at_call 10; refine (m_alive _).mono ?_; rintro e w0 ⟨rfl, hc0⟩)
    refine (hsp _ (hs.chg hc0 (by simp))).mono ?_
    rintro e w1 ⟨v, F, rfl, hf, hFF, hc1⟩
    obtain ⟨R, c', rfl, rfl⟩ : ∃ R c', v = .slice (some ⟨R, 0, none⟩) n c' ∧ F = [R] := by
      obtain ⟨g, c', e1, -, -, e2, -⟩ := hf.at_ (k := 0) (j := 0) hn0 (by omega)
      exact ⟨g, c', e1, e2⟩
    have hadd2 := m_add (c := c') hf.src (by omega)
    rw [hadd] at hadd2
    obtain ⟨W, hW⟩ := Int.eq_ofNat_of_zero_le (show 0 ≤ l.sum by have := hF.pos; omega)
    have hWpos : 0 < W := by have := hF.pos; omega
    have hWb : W ≤ 20000000 := by have := hF.tot; omega
    have hat : ∀ i, i < n → ∃ x : Nat, nth l i = (x : Int) ∧ x ≤ 1000000 ∧ (x = 0 → nth T i = 0) ∧ a.natAbs / W * x + a.natAbs % W * x / W ≤ nth T i ∧ nth T i ≤ a.natAbs / W * x + a.natAbs % W * x / W + 1 ∧ nth T i ≤ a.natAbs ∧ (l.take (i + 1)).sum = (l.take i).sum + nth l i ∧ 0 ≤ (l.take i).sum ∧ (l.take i).sum ≤ 20000000 := by
      intro i hi
      have hi' : i < l.length := by rw [hl.out]; exact hi
      have h1 := hF.nat i hi'
      have h2 := hF.near i hi'
      rw [hW, Int.toNat_natCast] at h2
      have h3 := le_sum (ps := T) (i := i) (by rw [hTl.out]; exact hi)
      rw [hF.sum] at h3
      have h4 := sum_take hi'
      rw [← at_eq hi'] at h4
      have hok : (l.take i).all okW = true ∧ (l.take i).length ≤ 20 := by
        refine ⟨List.all_eq_true.2 fun z hz => ?_, by have := hF.few; simp; omega⟩
        obtain ⟨k, hk, e⟩ := List.mem_iff_getElem.1 (List.mem_of_mem_take hz)
        rw [← e, ← at_eq hk]
        exact okW_iff.2 (hF.nat k hk)
      have h5 := sum_okW hok.1
      exact ⟨(nth l i).toNat, by omega, by omega, fun h => hF.zero i hi' (by omega), h2.1, h2.2, h3, h4, by omega, by omega⟩
    have hmono : ∀ i k, i < n → k < n → nth l k < nth l i → nth T k ≤ nth T i := fun i k hi hk h => hF.mono i k (by rw [hl.out]; exact hi) (by rw [hl.out]; exact hk) h
    have hcell : ∀ wr, Chg [] w wr → Fix wr 3 1 (.slice (some ⟨R, 0, none⟩) n c') n ((T.map (sg a)).map (Value.int .i64)) [R] → ∀ i, i < n → wr.cell? (ad.add i) = some (.int .i64 (nth l i)) ∧ wr.cell? ⟨R, i, none⟩ = some (.int .i64 (sg a (nth T i))) := by
      intro wr hc hf i hi
      obtain ⟨ad', e1, h1⟩ := (hs.chg hc (by simp)).2 (by omega)
      obtain rfl : ad = ad' := by simpa using e1
      obtain ⟨u, hu, h2, -⟩ := hf.one_at hi
      rw [(nth_of_map (by rw [hTl.out]; exact hi)).2] at hu
      refine ⟨h1 i _ ?_, by rw [h2, ← hu]⟩
      rw [List.getElem?_map, List.getElem?_eq_getElem (by rw [hl.out]; exact hi), ← at_eq]
      rfl
    have hWs : Hid ((l.take n).sum = (W : Int)) := by
      show _ = _
      rw [← hl.out, List.take_length, hW]
    clear hW hF hsp hcw hs hadd
    dsimp only
    go_wp2_with fail
    refine hadd2.mono ?_
    rintro e w2 ⟨rfl, hc2⟩
    have hf2 := hf.chg hc2 (by simp)
    have hcz := (hc0.trans' hc1).trans' hc2
    clear hc0 hc1 hc2 hf hadd2 hFF
    dsimp only
    go_wp2_with fail
    rw [hmax.out]
    have hNb : a.natAbs ≤ 1000000000000000 := by omega
    have hsg : ∀ t : Nat, t ≤ a.natAbs → -1000000000000000 ≤ sg a t ∧ sg a t ≤ 1000000000000000 ∧ max (sg a t) (-(sg a t)) = (t : Int) ∧ (t = 0 → sg a t = 0) ∧ (sg a t < 0 → a < 0) ∧ (0 < sg a t → 0 ≤ a) := by
      intro t ht
      unfold sg
      split <;> omega
    generalize hN : a.natAbs = N at *
    clear hmax ha
    replace hN := Lib.hid hN
    go_loopw [10] (fun iv wr => ∃ i : Nat, i ≤ n ∧ iv = .int .i64 i ∧ Fix wr 3 1 (.slice (some ⟨R, 0, none⟩) n c') n ((T.map (sg a)).map (Value.int .i64)) [R] ∧ Chg [] w wr) (fun iv _ => n - (intOf iv).toNat)
    case atStart => exact ⟨0, by omega, rfl, hf2, hcz⟩
    case round =>
      obtain ⟨i, hi, rfl, hf, hc⟩ := hrel
      clear hf2 hcz
      by_cases hlt : i < n
      · obtain ⟨x, hx, hxb, hx0, hn1, hn2, hTN, -, -, -⟩ := hat i hlt
        obtain ⟨d1, d2⟩ := hcell wr hc hf i hlt
        obtain ⟨s1, s2, s3, s4, s5, s6⟩ := hsg _ hTN
        rw [hx] at d1
        replace hx := Lib.hid hx
        obtain ⟨y, hy⟩ : ∃ y, y = sg a (nth T i) := ⟨_, rfl⟩
        rw [← hy] at d2 s1 s2 s3 s4 s5 s6
        have key : (x = 0 ∧ y = 0) ∨ (¬ x = 0 ∧ y = 0) ∨ (¬ x = 0 ∧ y < 0 ∧ a < 0) ∨ (¬ x = 0 ∧ 0 < y ∧ 0 ≤ a) := by
          by_cases h0 : x = 0
          · exact .inl ⟨h0, s4 (hx0 h0)⟩
          · rcases Int.lt_trichotomy y 0 with h | h | h
            · exact .inr (.inr (.inl ⟨h0, h, s5 h⟩))
            · exact .inr (.inl ⟨h0, h⟩)
            · exact .inr (.inr (.inr ⟨h0, h, s6 h⟩))
        clear s4 s5 s6 hx0
        replace hy := Lib.hid hy
        replace s3 := Lib.hid s3
        replace hn1 := Lib.hid hn1
        replace hn2 := Lib.hid hn2
        have go : (((x : Int) == 0) = true ∧ (y != 0) = false ∧ decide (y < 0) = false ∧ decide (0 < y) = false) ∨ (((x : Int) == 0) = false ∧ decide (y < 0) = false ∧ decide (0 < y) = false) ∨ (((x : Int) == 0) = false ∧ decide (y < 0) = true ∧ decide (0 < a) = false ∧ decide (0 < y) = false) ∨ (((x : Int) == 0) = false ∧ decide (y < 0) = false ∧ decide (0 < y) = true ∧ decide (a < 0) = false) := by
          rcases key with ⟨k1, k2⟩ | ⟨k1, k2⟩ | ⟨k1, k2, k3⟩ | ⟨k1, k2, k3⟩
          · exact .inl ⟨by simp [k1], by simp [k2], by simp [k2], by simp [k2]⟩
          · exact .inr (.inl ⟨by simp [k1], by simp [k2], by simp [k2]⟩)
          · exact .inr (.inr (.inl ⟨by simp [k1], by simp [k2], by simp; omega, by simp; omega⟩))
          · exact .inr (.inr (.inr ⟨by simp [k1], by simp; omega, by simp [k2], by simp; omega⟩))
        clear key
        rcases go with ⟨g1, g2, g3, g4⟩ | ⟨g1, g2, g3⟩ | ⟨g1, g2, g3, g4⟩ | ⟨g1, g2, g3, g4⟩
        all_goals
          go_upto_region 15 with fail
        all_goals
          clear g1 g2 g3
          try clear g4
          go_wp2_with fail
          go_loopw [11] (fun kv wr2 => ∃ k : Nat, k ≤ n ∧ kv = .int .i64 k ∧ Fix wr2 3 1 (.slice (some ⟨R, 0, none⟩) n c') n ((T.map (sg a)).map (Value.int .i64)) [R] ∧ Chg [] w wr2) (fun kv _ => n - (intOf kv).toNat)
          case atStart => exact ⟨0, by omega, rfl, hf, hc⟩
          case round =>
            obtain ⟨k, hk, rfl, hfk, hck⟩ := hrel
            by_cases hkn : k < n
            · obtain ⟨d1, d2⟩ := hcell _ hck hfk i hlt
              obtain ⟨d3, d4⟩ := hcell _ hck hfk k hkn
              obtain ⟨z, hz, hzb, -, -, -, hTk, -, -, -⟩ := hat k hkn
              obtain ⟨r1, r2, r3, -, -, -⟩ := hsg _ hTk
              have hmk := hmono i k hlt hkn
              rw [hx.out] at d1
              rw [hz] at d3
              rw [hx.out, hz] at hmk
              rw [← hy.out] at d2
              obtain ⟨u, hu⟩ : ∃ u, u = sg a (nth T k) := ⟨_, rfl⟩
              rw [← hu] at d4 r1 r2 r3
              clear hz hu
              by_cases hgt : z < x
              · have q1 : decide ((z : Int) < (x : Int)) = true := by simp; omega
                have q2 : decide (max y (-y) < max u (-u)) = false := by
                  rw [s3.out, r3]
                  have := hmk (by omega)
                  simp
                  omega
                clear hmk r3
                go_wp2_with fail
                go_quiet (fail)
                go_wp2_with fail
                go_roundw
                case measure => simp [intOf]; omega
                case rel => exact ⟨k + 1, by omega, by go_num, hfk, hck.drewN _⟩
              · have q1 : decide ((z : Int) < (x : Int)) = false := by simp; omega
                clear hmk r3
                go_wp2_with fail
                go_quiet (fail)
                go_wp2_with fail
                go_roundw
                case measure => simp [intOf]; omega
                case rel => exact ⟨k + 1, by omega, by go_num, hfk, hck.drewN _⟩
            · obtain rfl : k = n := by omega
              clear hmono
              go_wp2_with fail
              go_loopw [12, 13] (fun tv kv wr3 => ∃ m : Nat, m ≤ k ∧ kv = .int .i64 m ∧ tv = .int .i64 (l.take m).sum ∧ Fix wr3 3 1 (.slice (some ⟨R, 0, none⟩) k c') k ((T.map (sg a)).map (Value.int .i64)) [R] ∧ Chg [] w wr3) (fun _ kv _ => k - (intOf kv).toNat)
              case atStart => exact ⟨0, by omega, rfl, by simp, hfk, hck⟩
              case round =>
                obtain ⟨m, hm, rfl, rfl, hfm, hcm⟩ := hrel
                by_cases hmn : m < k
                · obtain ⟨d3, d4⟩ := hcell _ hcm hfm m hmn
                  obtain ⟨z, hz, hzb, -, -, -, -, ht1, ht2, ht3⟩ := hat m hmn
                  rw [hz] at d3 ht1
                  replace ht1 := Lib.hid ht1
                  clear hz d4
                  generalize (l.take m).sum = t at *
                  go_wp2_with fail
                  go_roundw
                  case measure => simp [intOf]; omega
                  case rel => exact ⟨m + 1, by omega, by go_num, by rw [ht1.out], hfm, hcm⟩
                · obtain rfl : m = k := by omega
                  obtain ⟨d1, d2⟩ := hcell _ hcm hfm i hlt
                  rw [hx.out] at d1
                  rw [← hy.out] at d2
                  rw [hWs.out]
                  have nz : ¬ (W : Int) = 0 := by omega
                  have nz2 : ¬ (0 : Int) = W := by omega
                  clear hcell hat hsg hWs hy hx
                  go_upto_region 25 with fail
                  go_quiet (fail)
                  rw [s3.out]
                  go_upto_region 26 with fail
                  go_quiet (fail)
                  go_upto_region 27 with fail
                  rw [low_wrap hn1.out (by omega) hWb hxb hNb hWpos]
                  have b1 : decide (((nth T i : Nat) : Int) < ((N / W * x + N % W * x / W : Nat) : Int)) = false := by have := hn1.out; simp only [decide_eq_false_iff_not]; omega
                  have b2 : decide (((N / W * x + N % W * x / W : Nat) : Int) + 1 < ((nth T i : Nat) : Int)) = false := by have := hn2.out; simp only [decide_eq_false_iff_not]; omega
                  have b3 : ((N / W * x + N % W * x / W : Nat) : Int) ≤ 1000000000000000 := by have := hn1.out; omega
                  have b4 : ¬ (N / W * x + N % W * x / W + 1 < nth T i) := by have := hn2.out; omega
                  have b5 : ¬ (nth T i < N / W * x + N % W * x / W) := by have := hn1.out; omega
                  have b6 : ¬ (((N / W * x + N % W * x / W : Nat) : Int) + 1 < ((nth T i : Nat) : Int)) := by have := hn2.out; omega
                  clear hN s3 hn1 hn2
                  generalize N / W * x + N % W * x / W = low at *
                  generalize nth T i = part at *
                  go_wp2_with fail
                  go_roundw
                  case measure => simp [intOf]; omega
                  case rel => exact ⟨i + 1, by omega, by go_num, hfm, hcm.drewN _⟩
      · obtain rfl : i = n := by omega
        go_wp2_with fail
        go_ret
        exact ⟨by trivial, hc⟩
  · refine ?_
    have hsp := fun w (hs : Src w 1 A n (l.map (Value.int .i64))) => split_bad (a := a) (c := c) hs (by omega) hok
    clear hok
    go_enter Try.func8, Try.ntmps8
    go_wp2_with (go_at_call 10; refine (m_alive _).mono ?_; rintro e w0 ⟨rfl, hc0⟩)
    refine (hsp _ (hs.chg hc0 (by simp))).mono ?_
    rintro e w1 ⟨rfl, hc1⟩
    dsimp only
    go_wp2_with fail
    go_ret
    exact ⟨by trivial, hc0.trans' hc1⟩
end Go.Proofs.Ytlkmdmaemjfelaa
