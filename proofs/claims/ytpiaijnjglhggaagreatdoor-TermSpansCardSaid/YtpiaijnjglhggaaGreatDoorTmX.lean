/- TermSpans. -/
import Derived.Test.YtpiaijnjglhggaaGreatDoorTmD
import Derived.Test.YtpiaijnjglhggaaGreatDoorBkYInts
namespace Go.Proofs.YtpiaijnjglhggaaGreatDoor
open Go.RowKit Go.Vx
set_option linter.unusedVariables false
set_option linter.unusedSimpArgs false

/-- All months from one to another one. -/
def spanC (f t : Int) : List Int := if (okM f && okM t) = true then (List.range (t - f + 1).toNat).map fun i : Nat => f + (i : Int) else []
theorem spanC_len (f t : Int) : (spanC f t).length ≤ 1200 := by
  unfold spanC
  split
  · rename_i h
    simp at h
    have h1 := okM_of h.1
    have h2 := okM_of h.2
    simp
    omega
  · simp
theorem r1_validX (p : Int) (w : World) : Calls Tryz.prog 7 #[.int .i64 p] w fun e w' => e = .returned (.bool (okM p)) ∧ w = w' := by
  have h1 : 0 ≤ p → Hid (decide (p ≤ 1199) = okM p) := fun h => Lib.hid (by unfold okM; simp [h])
  have h2 : p < 0 → Hid (false = okM p) := fun h => Lib.hid (by unfold okM; simp; omega)
  go_enter Tryz.func7, Tryz.ntmps7
  go_wp2
  · go_ret
    exact ⟨ret_bool (h1 (by omega)).out, rfl⟩
  · go_ret
    exact ⟨ret_bool (h2 (by omega)).out, rfl⟩
theorem oneIntsX (l : List Int) : ∀ u ∈ l.map (Value.int .i64), u.oneCell' = true := fun u hu => by
  obtain ⟨x, -, rfl⟩ := List.mem_map.1 hu
  rfl
theorem el_intsX (S : List Int) : ElInts (S.map (Value.int .i64)) := fun k u h => by
  have := List.mem_of_getElem? h
  obtain ⟨x, -, rfl⟩ := List.mem_map.1 this
  exact ⟨x, rfl⟩
def SpanPost (w : World) (S : List Int) (e : Ending) (w' : World) : Prop := ∃ A c F, e = .returned (.slice A S.length c) ∧ Fix w' 3 1 (.slice A S.length c) S.length (S.map (Value.int .i64)) F ∧ (∀ g, g ∈ F → w.heap.size ≤ g) ∧ Chg [] w w'
theorem valid2 (f t : Int) (w : World) :
    Calls Tryz.prog 13 #[.slice (some ⟨w.heap.size, 0, none⟩) 2 2] (w.alloc (.cells #[.int .i64 f, .int .i64 t] 3)) fun e w' => e = .returned (.bool (okM f && okM t)) ∧ Chg [] w w' :=
  (tm_valid (l := [f, t]) (Src.lit rfl rfl) (by omega)).mono fun e w' h => ⟨by rw [h.1]; simp, ((Chg.refl [] w).alloc _).trans' h.2⟩
set_option maxRecDepth 8000 in
set_option maxHeartbeats 4000000 in
theorem tm_span (f t : Int) (wf : (Lit.int .i64 f).wf = true) (wt : (Lit.int .i64 t).wf = true) (w : World) : Calls Tryz.prog 5 #[.int .i64 f, .int .i64 t] w (SpanPost w (spanC f t)) := by
  obtain ⟨i0, hi, j0, j1, j2⟩ := info_parts bkInfoInts
  have hv := valid2 f t
  cases hb : (okM f && okM t) with
  | false =>
    have hS : Hid (spanC f t = []) := Lib.hid (by unfold spanC; rw [hb]; simp)
    rw [hS.out]
    rw [hb] at hv
    clear hb
    go_enter Tryz.func5, Tryz.ntmps5
    go_wp2_with fail
    refine (hv _).mono ?_
    rintro e w1 ⟨rfl, hc1⟩
    dsimp only
    go_wp2_with fail
    go_ret
    exact ⟨none, 0, [], rfl, Fix.nil _ _ _, by simp, hc1⟩
  | true =>
    rw [hb] at hv
    have hb' := hb
    simp at hb'
    have h1 := okM_of hb'.1
    have h2 := okM_of hb'.2
    obtain ⟨f0, f1⟩ := h1
    obtain ⟨t0, t1⟩ := h2
    have hok := hb'.1
    clear hb'
    have hmax : max (t - f + 1) 0 = (((t - f + 1).toNat : Nat) : Int) := by omega
    have hS : Hid (spanC f t = (List.range (t - f + 1).toNat).map fun i : Nat => f + (i : Int)) := Lib.hid (by unfold spanC; rw [hb, if_pos rfl])
    have hN : (t - f + 1).toNat ≤ 1200 := by omega
    have hN2 : 0 < (t - f + 1).toNat → f + ((t - f + 1).toNat : Int) = t + 1 := by omega
    generalize (t - f + 1).toNat = N at *
    have hon : ∀ k : Nat, k < N → ∀ w : World, Calls Tryz.prog 14 #[.int .i64 f, .int .i64 k] w fun e w' => e = .returned (.tuple #[.int .i64 (f + k), .int .i64 0]) ∧ w = w' := fun k hk w => by
      have h := tm_on f k w
      have e : onC f k = (f + k, 0) := by
        unfold onC
        rw [hok, if_pos (by simp; omega)]
      rw [e] at h
      exact h
    replace hN2 := Lib.hid hN2
    clear hb hok
    go_enter Tryz.func5, Tryz.ntmps5
    go_wp2_with fail
    refine (hv _).mono ?_
    rintro e w1 ⟨rfl, hc1⟩
    dsimp only
    go_wp2_with fail
    go_loopw [5, 7, 8, 9, 22] (fun ov _ _ _ kv wr => ∃ (k : Nat) (F : List Nat), k ≤ N ∧ kv = .int .i64 k ∧ Fix wr 3 1 ov k (((List.range k).map fun i : Nat => f + (i : Int)).map (Value.int .i64)) F ∧ (∀ g, g ∈ F → w.heap.size ≤ g) ∧ Chg [] w wr) (fun _ _ _ _ kv _ => N - (intOf kv).toNat)
    case atStart => exact ⟨0, [], by omega, rfl, by simpa using Fix.nil _ _ _, by simp, hc1⟩
    case round =>
      obtain ⟨k, F, hk, rfl, hf, hF, hz⟩ := hrel
      obtain ⟨A, c, rfl, -⟩ := id hf
      by_cases hlt : k < N
      · have h3 := hon k hlt
        have h4 := hN2.out
        have h5 : f + (k : Int) ≤ 1199 := by omega
        have hnew : Hid ((((List.range k).map fun i : Nat => f + (i : Int)).map (Value.int .i64)) ++ [Value.int .i64 (f + (k : Int))] = (((List.range (k + 1)).map fun i : Nat => f + (i : Int)).map (Value.int .i64))) := Lib.hid (by rw [List.range_succ]; simp)
        clear h4 hmax hon
        go_wp2_with fail
        refine (h3 _).mono ?_
        rintro e w2 ⟨rfl, rfl⟩
        dsimp only
        go_wp2_with (at_builtin; refine wpList_append_fix rfl _ _ 36 rfl Tryz.underlying36 hi j0 j1 j2 rfl (by omega) rfl (hf.alloc _) rfl (Src.one1 rfl) (by simp [Value.oneCell']) (by unfold maxLen; omega) (by omega) ?_; intro v' w3 F3 ha)
        have hfx := ha.fix
        rw [hnew.out] at hfx
        have hF3 : ∀ g, g ∈ F3 → w.heap.size ≤ g := by
          intro g hg
          have := hz.size
          rcases ha.foot with e | e
          · exact hF g (by rw [← e]; exact hg)
          · rw [e] at hg; simp at hg; omega
        have hz3 := (hz.alloc (.cells #[.int .i64 (f + (k : Int))] 3)).trans ha.chg (fun g hg => .inr (hF g hg))
        go_roundw
        case measure => simp [intOf]; omega
        case rel => exact ⟨k + 1, F3, by omega, by go_num, hfx, hF3, hz3⟩
      · obtain rfl : N = k := by omega
        clear hmax hon
        go_wp2_with fail
        go_ret
        have hSl : (spanC f t).length = N := by rw [hS.out]; simp
        refine ⟨A, c, F, ?_, ?_, hF, hz⟩
        · rw [hSl]; rfl
        · rw [hSl, hS.out]
          exact hf
set_option maxRecDepth 100000 in
set_option maxHeartbeats 8000000 in
theorem termSpans_walkL {w : World} (ht : Tab w) (f : Int) (wf : (Lit.int .i64 f).wf = true) (t : Int) (wt : (Lit.int .i64 t).wf = true) :
    Calls Tryz.prog 3 #[.int .i64 f, .int .i64 t] w fun e w' => e = .returned (.bool true) ∧ Chg [] w w' := by
  have hal := tm_alive ht
  have hsp := tm_span f t wf wt
  have hva := r1_validX
  have hSl := spanC_len f t
  have hcase : (okM f = false ∧ spanC f t = []) ∨ (okM f = true ∧ okM t = false ∧ spanC f t = []) ∨ (okM f = true ∧ okM t = true ∧ decide (f ≤ t) = false ∧ spanC f t = []) ∨
      (okM f = true ∧ okM t = true ∧ decide (f ≤ t) = true ∧ 0 ≤ f ∧ f ≤ t ∧ t ≤ 1199 ∧ ((spanC f t).length : Int) = t - f + 1 ∧ ∀ i : Nat, i < (spanC f t).length → (spanC f t)[i]? = some (f + (i : Int))) := by
    unfold spanC
    cases h1 : okM f with
    | false => simp
    | true =>
      cases h2 : okM t with
      | false => simp
      | true =>
        have e1 := okM_of h1
        have e2 := okM_of h2
        by_cases h3 : f ≤ t
        · right; right; right
          refine ⟨rfl, rfl, by simpa using h3, e1.1, h3, e2.2, by simp; omega, fun i hi => ?_⟩
          rw [show (true && true) = true from rfl, if_pos rfl, List.length_map, List.length_range] at hi
          rw [show (true && true) = true from rfl, if_pos rfl, List.getElem?_map, List.getElem?_range hi]
          rfl
        · right; right; left
          refine ⟨rfl, rfl, by simpa using h3, ?_⟩
          have : (t - f + 1).toNat = 0 := by omega
          simp [this]
  generalize spanC f t = S at *
  go_enter Tryz.func3, Tryz.ntmps3
  go_wp2_with fail
  refine hal.mono ?_
  rintro e w1 ⟨rfl, hz1⟩
  dsimp only
  go_wp2_with fail
  have hB0 := BookInts.new w1
  have hz2 := hz1.alloc (.cells #[.slice none 0 0, .slice none 0 0, .slice none 0 0, .slice none 0 0, .slice none 0 0, .slice none 0 0, .slice none 0 0, .slice none 0 0, .slice none 0 0, .slice none 0 0, .slice none 0 0, .slice none 0 0, .slice none 0 0, .slice none 0 0, .slice none 0 0, .slice none 0 0, .slice none 0 0, .slice none 0 0, .slice none 0 0, .slice none 0 0] 35)
  have hpw : w.heap.size ≤ w1.heap.size := hz1.size
  generalize w1.heap.size = p at *
  clear hz1
  go_loopw [6, 7, 8, 9] (fun iv _ _ _ wr => ∃ (j : Nat) (L : List Kept) (R : List Nat), j ≤ 2 ∧ iv = .int .i64 j ∧ BookInts wr p L R ∧ L.length = j ∧ (∀ K ∈ L, ElInts K.xs ∧ K.n ≤ 90000) ∧ (∀ g' ∈ R, p < g') ∧ Chg [] w wr) (fun iv _ _ _ _ => 2 - (intOf iv).toNat)
  case atStart => exact ⟨0, [], [], by omega, rfl, hB0, rfl, by simp, by simp, hz2⟩
  case round =>
    clear hB0 hz2
    obtain ⟨j, L, R, hj, rfl, hB, hLl, hE, hR, hz⟩ := hrel
    replace hLl := Lib.hid hLl
    by_cases hlt : j < 2
    · go_wp2_with fail
      refine (hsp _).mono ?_
      rintro e w2 ⟨A2, c2, F2, rfl, hf2, hF2, hc2⟩
      have hB2 := hB.keep hc2
      have hz2 := hz.trans' hc2
      have hpl := hB.lt
      have hs2 := hc2.size
      have hRl := hB.foot
      dsimp only
      go_wp2_with fail
      refine (bky_addInts hB2 (by rw [hLl.out]; omega) (K := ⟨.slice A2 S.length c2, S.length, S.map (Value.int .i64), F2⟩) hf2 (oneIntsX S) (fun g hg h => by have := hF2 g hg; have := hRl g h; omega) (by show S.length ≤ 1000000; omega)).mono ?_
      rintro e w4 ⟨rfl, R4, hB4, hR4, hc4⟩
      have hd2 : ∀ g ∈ F2, g ∉ p :: R := fun g hg h => by
        have := hF2 g hg
        rcases List.mem_cons.1 h with rfl | h
        · omega
        · have := hRl g h; omega
      have hf4 := hf2.chg hc4 hd2
      have hz4 : Chg [] w w4 := hz2.trans hc4 (fun g' hg' => by
        right
        rcases List.mem_cons.1 hg' with rfl | h
        · omega
        · have := hR g' h; omega)
      have hE' : ∀ K ∈ L ++ [⟨.slice A2 S.length c2, S.length, S.map (Value.int .i64), F2⟩], ElInts K.xs ∧ K.n ≤ 90000 := by
        intro K hK
        rcases List.mem_append.1 hK with hK | hK
        · exact hE K hK
        · obtain rfl : K = _ := by simpa using hK
          exact ⟨el_intsX S, by show S.length ≤ 90000; omega⟩
      have hR5 : ∀ g' ∈ R4, p < g' := by
        intro g' hg'
        rcases hR4 g' hg' with h | h | h
        · exact hR g' h
        · have := hF2 g' h; omega
        · omega
      dsimp only
      clear hf2 hd2 hB2 hz2 hc2 hc4 hR4 hF2 hsp hal
      rcases hcase with ⟨h1, rfl⟩ | ⟨h1, h2, rfl⟩ | ⟨h1, h2, h3, rfl⟩ | ⟨h1, h2, h3, h4, h5, h6, h7, h8⟩
      case inr.inr.inr =>
        have v1 := hva f
        have v2 := hva t
        rw [h1] at v1
        rw [h2] at v2
        have hat : ∀ wr, Chg [] w4 wr → ∀ i : Nat, i < S.length → ∃ g, A2 = some ⟨g, 0, none⟩ ∧ wr.cell? ⟨g, i, none⟩ = some (.int .i64 (f + (i : Int))) := by
          intro wr hc i hi
          obtain ⟨g, e1, e2, e3⟩ := (hf4.chg hc (by simp)).el hi
          obtain ⟨e4, -⟩ := e3 0 (by omega)
          rw [Nat.mul_one, Nat.add_zero, List.getElem?_map, h8 i hi] at e4
          exact ⟨g, e1, e4⟩
        clear h8 h1 h2
        generalize hn : S.length = n at *
        replace hn := Lib.hid hn
        replace h7 : t - f + 1 = (n : Int) := h7.symm
        have h9 : (n : Int) ≤ 1200 := by omega
        go_wp2_with fail
        refine (v1 _).mono ?_
        rintro e w5 ⟨rfl, rfl⟩
        dsimp only
        go_wp2_with fail
        refine (v2 _).mono ?_
        rintro e w5 ⟨rfl, rfl⟩
        dsimp only
        go_wp2_with fail
        obtain ⟨wo, rfl⟩ : ∃ wo : World, wo = wr := ⟨_, rfl⟩
        go_loopw [9] (fun iv wr => ∃ i : Nat, i ≤ n ∧ iv = .int .i64 i ∧ w4 = wr) (fun iv _ => n - (intOf iv).toNat)
        case atStart => exact ⟨0, by omega, rfl, rfl⟩
        case round =>
          obtain ⟨i, hin, rfl, rfl⟩ := hrel
          by_cases hil : i < n
          · obtain ⟨g, rfl, y1⟩ := hat w4 (Chg.refl _ _) i hil
            have hfb : f + (i : Int) ≤ 2400 := by omega
            clear hat
            go_wp2_with fail
            go_roundw
            case measure => simp [intOf]; omega
            case rel => exact ⟨i + 1, by omega, by go_num, by trivial⟩
          · obtain rfl : n = i := by omega
            go_wp2_with fail
            exact ⟨⟨j + 1, _, R4, by omega, by go_num, hB4, by simp [hLl.out], hE', hR5, hz4⟩, by simp [intOf]; omega⟩
      all_goals
        have v1 := hva f
        have v2 := hva t
        simp only [h1] at v1
        try simp only [h2] at v2
        go_wp2_with fail
        refine (v1 _).mono ?_
        rintro e w5 ⟨rfl, rfl⟩
        dsimp only
        go_wp2_with fail
        try (refine (v2 _).mono ?_
             rintro e w5 ⟨rfl, rfl⟩
             dsimp only
             go_wp2_with fail)
        obtain ⟨wo, rfl⟩ : ∃ wo : World, wo = wr := ⟨_, rfl⟩
        go_loopw [9] (fun iv wr => iv = .int .i64 0 ∧ w4 = wr) (fun iv _ => 0)
        case atStart => exact ⟨rfl, rfl⟩
        case round =>
          obtain ⟨rfl, rfl⟩ := hrel
          go_wp2_with fail
          exact ⟨⟨j + 1, _, R4, by omega, by go_num, hB4, by simp [hLl.out], hE', hR5, hz4⟩, by simp [intOf]; omega⟩
    · obtain rfl : j = 2 := by omega
      have hap := bky_apartInts hB hE (by rw [hLl.out]; omega)
      go_wp2_with fail
      refine hap.mono ?_
      rintro e w3 ⟨rfl, hc3⟩
      dsimp only
      go_wp2_with fail
      go_ret
      exact ⟨by trivial, hz.trans hc3 (fun g' hg' => by have := hR g' hg'; right; omega)⟩
end Go.Proofs.YtpiaijnjglhggaaGreatDoor
