/- slices.AppendSeq, Collect, Sorted over whole numbers, against an iterator; a chart's codes in their order. -/
import Derived.Test.YtfcedgglehedjaaItA
namespace Go.Proofs.Ytfcedgglehedjaa
open Go.RowKit Go.Vx Go.Maps Go.Sort Go.Shelf
set_option linter.unusedVariables false
set_option linter.unusedSimpArgs false
attribute [local go_sem] Oper.semAt_some

theorem wpListIn_append_fix {F0 : Fence} {n' : Nat} {P : Program} {w : World} {ops : Array Oper} {rest : List Oper} {o : Oper} {a : Act} {Q : Exit → Act → World → Prop} (hgd : o.guard = none) (s x : Operand) (t : TypeId)
    (ho : o.op = .call { callee := .builtin .append, args := #[s, x], argTypes := #[t, t] })
    {e : TypeId} {i : TypeInfo} {z : Value} {size bytes : Nat} (ht : P.underlying t = some (.slice e)) (hi : P.info? e = some i) (hz : i.zero = some z)
    (hsize : i.size = size) (hby : i.bytes = bytes) (hzs : z.cells.size = size) (hsz : 0 < size)
    {v : Value} {n : Nat} {xs : List Value} {F : List Nat} (hs : a.eval s = v) (h : Fix w e size v n xs F)
    {A : Option Addr} {m c : Nat} {news : List Value} (hx : a.eval x = .slice A m c) (hr : Src w size A m news) (h1 : ∀ u ∈ news, u.oneCell' = true)
    (h63 : n + m ≤ maxLen) (hbytes : (n + m) * bytes ≤ 140737488355328)
    (hk : ∀ v' w' F', Appended w w' e size v v' n m xs news F F' → wpListIn F0 n' P ops Q rest (a.put o.dst v') w') : wpListIn F0 n' P ops Q (o :: rest) a w := by
  refine wpListIn_plain hgd fun K hK => ?_
  obtain ⟨v', w', F', hrun, h2⟩ := run_append_fix (P := P) (ty := o.type) w ht hi hz hsize hby hzs hsz h hr h1 h63 hbytes (c := c)
  unfold Oper.wpIn
  refine ⟨?_, ?_⟩
  · simp [Oper.about, ho, resolve, Target.leads, Sem.run_pure]
  · rw [Oper.semAt_plain F0 _ _ (by rw [ho]; intro c hc'; cases hc')]
    simp [execOp, ho, resolve, invoke, builtin, hs, hx, hrun, Result.andThen]
    exact hK _ _ (hk v' w' F' h2)
theorem itIntInfo : (Try.prog.info? 3).map (fun i => (i.zero, i.size, i.bytes)) = some (some (.int .i64 0), 1, 8) := by kernel_rfl
/-- Between two rounds. -/
def ApI (w : World) (Bs : Nat) (pre : List Int) (W : World) : Prop := ∃ v F, Blk W Bs 40 #[v] ∧ Fix W 3 1 v pre.length (pre.map encI) F ∧ (∀ g ∈ F, w.heap.size ≤ g) ∧ Below w.heap.size w W
theorem chg_of_grown {W W' : World} {row : Option Nat} (hg : W.grownBy W' row) : Chg row.toList W W' := (Chg.refl _ W).grown hg (fun k e => by simp [e])
theorem apI_own (w : World) (Bs B : Nat) (hB : w.heap.size ≤ B) : OwnFrom B (ApI w Bs) := fun s W W' row h hg hr => by
  obtain ⟨v, F, h1, h2, h3, h4⟩ := h
  have hc := chg_of_grown hg
  have hn : ∀ g t cs, W.heap[g]? = some (.cells cs t (0, 0)) → g ∉ row.toList := fun g t cs hgc hm => by
    have e : row = some g := by simpa using hm
    obtain ⟨-, o, ho, hcl⟩ := hr g e
    rw [hgc] at ho
    cases ho
    cases hcl
  refine ⟨v, F, h1.chg hc (hn _ _ _ h1), h2.chg hc (fun g hgF => ?_), h3, h4.grown hg (by have := h4.size; omega) (fun k e => Nat.le_trans hB (hr k e).1)⟩
  obtain ⟨A, c, -, -, -, -, h5⟩ := h2
  rcases h5 with ⟨-, rfl⟩ | ⟨g', cur, -, rfl, hb, -⟩
  · cases hgF
  · obtain rfl : g = g' := by simpa using hgF
    exact hn _ _ _ hb
theorem others_of_chg {F : List Nat} {W W' : World} (h : Chg F W W') (hF : ∀ g ∈ F, ∃ cs t, W.heap[g]? = some (.cells cs t (0, 0))) : KeepsOthers W W' := ⟨h.size, fun k o hk ho => by
  by_cases hm : k ∈ F
  · obtain ⟨cs, t, hc⟩ := hF k hm
    rw [hk] at hc
    cases hc
    cases ho
  · exact h.get hk hm⟩
theorem below_of_chg {n : Nat} {F : List Nat} {W W' : World} (h : Chg F W W') (hF : ∀ g ∈ F, n ≤ g) (hn : n ≤ W.heap.size) : Below n W W' := ⟨h.os, h.tape, h.output, h.size, fun i hi => h.block i (by omega) (fun hm => by have := hF i hm; omega)⟩
theorem fix_cellsOf {w : World} {e : TypeId} {size n : Nat} {v : Value} {xs : List Value} {F : List Nat} (h : Fix w e size v n xs F) : ∀ g ∈ F, ∃ cs t, w.heap[g]? = some (.cells cs t (0, 0)) := by
  obtain ⟨A, c, -, -, -, -, h5⟩ := h
  rcases h5 with ⟨-, rfl⟩ | ⟨g', cur, -, rfl, hb, -⟩
  · simp
  · intro g hg
    obtain rfl : g = g' := by simpa using hg
    exact ⟨_, _, hb⟩
set_option maxRecDepth 100000 in
set_option maxHeartbeats 4000000 in
theorem it_append {gf : Nat} {lb : Array Value} (hFg : Fence.wide.fn gf) (eg : ∀ args w, (callFunc gf args).run Try.prog w = .ok (.enter gf args) w) {S : List Int → Prop} {N : Nat} (hN : N ≤ 1000000) (w : World) (hseq : SeqStopsK Fence.wide 7 Try.prog gf lb (fun x => #[encI x]) KeepsWalks S (fun _ => True) N w) :
    CallsIn Fence.wide 8 Try.prog 27 #[.slice none 0 0, .func (.func gf) #[] lb] w fun e w' => ∃ v ss F, e = .returned v ∧ S ss ∧ Fix w' 3 1 v ss.length (ss.map encI) F ∧ (∀ g ∈ F, w.heap.size ≤ g) ∧ Below w.heap.size w w' := by
  obtain ⟨i1, hi1, k0, k1, k2⟩ := info_parts itIntInfo
  refine callsIn_of_wp_marks Try.func27 rfl trivial ?_ rfl
  simp only [Try.ntmps27, List.size_toArray, List.length_cons, List.length_nil, Nat.reduceAdd, Nat.reduceSub, Array.replicate_succ, Array.replicate_zero, List.push_toArray, List.append_toArray, List.nil_append, List.cons_append]
  gi_wp2
  have hb0 : Below w.heap.size w (w.alloc (.cells #[.slice none 0 0] 40)) := (Below.refl _ w).alloc (Nat.le_refl _) _
  have hI0 : ApI w w.heap.size [] (w.alloc (.cells #[.slice none 0 0] 40)) := ⟨_, [], Blk.new _ _ _, Fix.nil _ _ _, by simp, hb0⟩
  have hs0 : (w.alloc (.cells #[.slice none 0 0] 40)).heap.size = w.heap.size + 1 := by simp [World.size_alloc]
  generalize w.alloc (.cells #[.slice none 0 0] 40) = W0 at *
  refine wpIn_rangeFunc_ownF (F := Fence.wide) (n := 8) rfl (by omega) (gf := gf) (lb := lb) rfl hFg eg hseq walksK_t (walksK_b) hb0 (fun _ => rfl)
    (ApI w w.heap.size) (fun _ _ _ => False) (apI_own w w.heap.size W0.heap.size (by omega)) (fun _ _ _ _ _ h _ _ => h.elim) hI0
    (fun x => { tmps := #[.slice none 0 0, .func (.func gf) #[] lb, .pointer (some ⟨w.heap.size, 0, none⟩), undef, .slice none 0 0, encI x, .func (.func gf) #[] lb, encI x, undef, undef, undef, undef, undef], defers := [] })
    ?assign ?body ?done ?stop
  case assign =>
    intro l x W K hK
    gi_wp2
    exact hK
  case body =>
    rintro l pre x W ⟨v, F, h1, h2, h3, h4⟩ hlt
    have c1 : W.cell? ⟨w.heap.size, 0, none⟩ = some v := h1.cell 0
    obtain ⟨A0, c0, rfl, -⟩ := _root_.id h2
    gi_wp2_with (first
      | (gi_at_builtin; refine wpListIn_append_fix rfl _ _ 40 rfl Try.underlying40 hi1 k0 k1 k2 rfl (by omega) rfl (h2.alloc (.cells #[encI x] 3)) rfl (Src.one1 (x := encI x) (t := 3) rfl) (by simp [Value.oneCell']) (by unfold maxLen; omega) (by omega) ?_; intro v' w' F' hA; have h5 := (h1.alloc (.cells #[encI x] 3)).chg hA.chg (h2.ne_blk h1 (by decide)); have c5 : w'.cell? ⟨w.heap.size, 0, none⟩ = some (.slice A0 pre.length c0) := h5.cell 0; have f5 : w'.frozen? ⟨w.heap.size, 0, none⟩ = false := h5.frozen 0; obtain ⟨g', c', rfl, rfl⟩ := hA.head (by omega); go_frame)
      | gi_in)
    have hc1 := (Chg.refl (w.heap.size :: F) (W.alloc (.cells #[encI x] 3))).trans' (hA.chg.mono (by simp +contextual))
    have hc2 := hc1.setCell (p := ⟨w.heap.size, 0, none⟩) (.inl (by simp)) (.slice (some ⟨g', 0, none⟩) (pre.length + 1) c')
    have hko : KeepsOthers W (w'.setCell ⟨w.heap.size, 0, none⟩ (.slice (some ⟨g', 0, none⟩) (pre.length + 1) c')) := (KeepsOthers.alloc W _).trans (others_of_chg hc2 (fun g hg => by
      rcases List.mem_cons.1 hg with rfl | hg
      · exact ⟨_, _, h1.alloc _⟩
      · exact fix_cellsOf (h2.alloc (.cells #[encI x] 3)) g hg))
    have hbl := (h4.alloc h4.size (.cells #[encI x] 3)).trans (below_of_chg hc2 (fun g hg => by
      rcases List.mem_cons.1 hg with rfl | hg
      · exact Nat.le_refl _
      · exact h3 g hg) (by have := h4.size; simp; omega))
    have hl1 : (pre ++ [x]).length = pre.length + 1 := by simp
    refine ⟨hko, hko.walks, _, [g'], h5.set_ 0 _, ?_, fun g hg => ?_, hbl⟩
    · rw [hl1, List.map_append]
      exact hA.fix.far_blk h5 (by decide) 0 _
    · rcases hA.foot with e | e
      · rw [e] at hg
        exact h3 g hg
      · rw [e] at hg
        have := h4.size
        simp at hg
        omega
  case done =>
    rintro D ys W hD hS ⟨v, F, h1, h2, h3, h4⟩ hK
    have c1 : W.cell? ⟨w.heap.size, 0, none⟩ = some v := h1.cell 0
    gi_wp2
    refine ⟨by simp, .inl ⟨_, _, rfl, run_takeDeferred hK, ?_⟩⟩
    have hg := grownBy_putObj' W D (.deferred none)
    have hc : Chg [D] W (W.putObj D (.deferred none)) := chg_of_grown hg
    exact ⟨_, results_tmp rfl _ _ _, v, ys, F, rfl, hS, h2.chg hc (fun g hgF hm => by
      obtain rfl : g = D := by simpa using hm
      obtain ⟨cs, t, hcs⟩ := fix_cellsOf h2 g hgF
      rw [hK] at hcs
      cases hcs), h3, h4.grown hg h4.size (fun k e => by cases e; omega)⟩
  case stop =>
    rintro D c pre W hD - h
    exact h.elim
set_option maxHeartbeats 1000000 in
theorem it_collect {gf : Nat} {lb : Array Value} (hFg : Fence.wide.fn gf) (eg : ∀ args w, (callFunc gf args).run Try.prog w = .ok (.enter gf args) w) {S : List Int → Prop} {N : Nat} (hN : N ≤ 1000000) (w : World) (hseq : SeqStopsK Fence.wide 7 Try.prog gf lb (fun x => #[encI x]) KeepsWalks S (fun _ => True) N w) :
    Calls Try.prog 22 #[.func (.func gf) #[] lb] w fun e w' => ∃ v ss F, e = .returned v ∧ S ss ∧ Fix w' 3 1 v ss.length (ss.map encI) F ∧ (∀ g ∈ F, w.heap.size ≤ g) ∧ Chg [] w w' := by
  have ha := callsIn_wide.1 (it_append hFg eg hN w hseq)
  go_enter Try.func22, Try.ntmps22
  go_wp2_with (go_at_call 27; refine ha.mono ?_; rintro e w' ⟨v, ss, F, rfl, h1, h2, h3, h4⟩)
  go_ret
  exact ⟨v, ss, F, rfl, h1, h2, h3, .of_below h4⟩
theorem chg_grownBy {w w' : World} {g : Nat} (h : w.grownBy w' (some g)) : Chg [g] w w' := ⟨h.os, h.tape, h.output, h.size, fun k hk hn => h.block k hk (by simpa using fun e => hn (by simp [e]))⟩
theorem sort_ints {w : World} {A : Option Addr} {n c : Nat} {l : List Int} {F : List Nat} (h : Fix w 3 1 (.slice A n c) n (l.map encI) F) (hn : n ≤ 1000000) :
    Calls Try.prog 23 #[.slice A n c] w fun e w' => e = .returned (.tuple #[]) ∧ Fix w' 3 1 (.slice A n c) n ((l.mergeSort fun x y => decide (x ≤ y)).map encI) F ∧ Chg F w w' := by
  obtain ⟨A', c', hv, h1, h2, h3, h4⟩ := id h
  cases hv
  simp only [List.length_map, Nat.mul_one] at h1
  rcases Nat.eq_zero_or_pos n with hz | hz
  · subst hz
    have : l = [] := List.eq_nil_of_length_eq_zero h1
    subst this
    refine (Try.slices_Sort_int_none A c w).mono ?_
    rintro e w' ⟨rfl, rfl⟩
    exact ⟨rfl, by simpa using h, Chg.refl _ _⟩
  · rcases h4 with ⟨rfl, -⟩ | ⟨g, cur, rfl, rfl, hb, hs, ht⟩
    · omega
    · rw [Nat.mul_one, ← h1] at ht
      subst h1
      have hH := holds_of_blockI (hb : w.heap[g]? = some (.cells cur _ (0, 0))) ht
      refine (Try.slices_Sort_int g 0 c l w hH hb.lt (by omega)).mono ?_
      rintro e w' ⟨rfl, k, os, rfl⟩
      have hll : (l.mergeSort fun x y => decide (x ≤ y)).length = l.length := (List.mergeSort_perm _ _).length_eq
      have hr := ownsRow_sortedI (n := k) (os := os) (base := 0) hll (Nat.zero_le _) (hb : w.heap[g]? = some (.cells cur _ (0, 0))) h2 h3 hs
      refine ⟨rfl, ?_, chg_grownBy (grownBy_sortedI _)⟩
      have := Fix.of_own hr
      simpa [Value.ownBlock] using this
theorem it_sorted {gf : Nat} {lb : Array Value} (hFg : Fence.wide.fn gf) (eg : ∀ args w, (callFunc gf args).run Try.prog w = .ok (.enter gf args) w) {S : List Int → Prop} {N : Nat} (hN : N ≤ 1000000) (hS : ∀ ss, S ss → ss.length ≤ 1000000) (w : World) (hseq : SeqStopsK Fence.wide 7 Try.prog gf lb (fun x => #[encI x]) KeepsWalks S (fun _ => True) N w) :
    Calls Try.prog 18 #[.func (.func gf) #[] lb] w fun e w' => ∃ v ss F, e = .returned v ∧ S ss ∧ Fix w' 3 1 v ss.length ((ss.mergeSort fun x y => decide (x ≤ y)).map encI) F ∧ (∀ g ∈ F, w.heap.size ≤ g) ∧ Chg [] w w' := by
  have ha := it_collect hFg eg hN w hseq
  have hs := fun (w' : World) A n c (l : List Int) F => @sort_ints w' A n c l F
  go_enter Try.func18, Try.ntmps18
  go_wp2_with fail
  refine ha.mono ?_
  rintro e w1 ⟨v, ss, F, rfl, h1, h2, h3, h4⟩
  obtain ⟨A, c, rfl, -⟩ := _root_.id h2
  go_wp2_with fail
  refine (hs _ _ _ _ _ _ h2 (hS _ h1)).mono ?_
  rintro e w2 ⟨rfl, h5, h6⟩
  go_wp2_with fail
  go_ret
  exact ⟨_, ss, F, rfl, h1, h5, h3, h4.trans h6 (fun g hg => .inr (h3 g hg))⟩
end Go.Proofs.Ytfcedgglehedjaa
