/- Lineage: the climb's five methods. -/
import Derived.Test.YtaabkapjdmceaaaLnC
import Derived.Deep.RegionLaw
import Derived.StillTailTactics
import Derived.Deep.RegionHeld3
namespace Go.Proofs.Ytaabkapjdmceaaa
open Go.RowKit Go.Vx
set_option linter.unusedVariables false
set_option linter.unusedSimpArgs false

theorem lnIntInfo : (Try.prog.info? 3).map (fun i => (i.zero, i.size, i.bytes)) = some (some (.int .i64 0), 1, 8) := by kernel_rfl
/-- The climb at p over the lineage at lp: what is next, as it stands in the slice. -/
structure CmAt (w : World) (p lp bs : Nat) (Q : List LC) (R : List Nat) (l : List Nat) (F : List Nat) : Prop where
  ex : ∃ A c, Blk w p 62 #[.pointer (some ⟨lp, 0, none⟩), .slice A l.length c, .map (some bs)] ∧ Fix w 3 1 (.slice A l.length c) l.length (natVals l) F ∧ l.length ≤ c ∧ c ≤ maxLen
  lin : LinAt w lp Q R
  sepL : lp ∉ F
  sepR : ∀ g ∈ R, g ∉ F
  pR : p ∉ R
  plp : p ≠ lp
  bF : bs ∉ F
  bp : bs ≠ p
  bl : bs < w.heap.size
  bR : bs ∉ R
  blp : bs ≠ lp
  there : ∀ x ∈ l, isThere (comsOf Q) x = true
section
variable {w : World} {p lp bs : Nat} {Q : List LC} {R : List Nat} {l : List Nat} {F : List Nat}
theorem CmAt.keep {w' : World} (h : CmAt w p lp bs Q R l F) (k : Chg [] w w') : CmAt w' p lp bs Q R l F := by
  obtain ⟨A, c, h1, h2, h3⟩ := h.ex
  exact ⟨⟨A, c, h1.chg k (by simp), h2.chg k (by simp), h3⟩, h.lin.keep k, h.sepL, h.sepR, h.pR, h.plp, h.bF, h.bp, Nat.lt_of_lt_of_le h.bl k.size, h.bR, h.blp, h.there⟩
theorem CmAt.mchg {w' : World} (h : CmAt w p lp bs Q R l F) (k : Chg [bs] w w') : CmAt w' p lp bs Q R l F := by
  obtain ⟨A, c, h1, h2, h3⟩ := h.ex
  exact ⟨⟨A, c, h1.chg k (by simpa using fun e => h.bp e.symm), h2.chg k (fun g hg => by simp; rintro rfl; exact h.bF hg), h3⟩, h.lin.chg k (by simpa using fun e => h.blp e.symm) (fun g hg => by simp; rintro rfl; exact h.bR hg), h.sepL, h.sepR, h.pR, h.plp, h.bF, h.bp, Nat.lt_of_lt_of_le h.bl k.size, h.bR, h.blp, h.there⟩
theorem CmAt.pF (h : CmAt w p lp bs Q R l F) : p ∉ F := by
  obtain ⟨A, c, h1, h2, h3⟩ := h.ex
  exact h2.ne_blk h1 (by decide)
theorem there_le {id : Nat} (h : isThere (comsOf Q) id = true) : 1 ≤ id ∧ id ≤ Q.length := by
  have := isThere_iff.1 h
  simpa using this
theorem cm_len (h : CmAt w p lp bs Q R l F) (hl : l.length ≤ 1000000) : Calls Try.prog 26 #[.pointer (some ⟨p, 0, none⟩)] w fun e w' => e = .returned (.int .i64 l.length) ∧ w = w' := by
  obtain ⟨A, c, hb, hf, h1, h2⟩ := h.ex
  have c1 : w.cell? ⟨p, 1, none⟩ = some (.slice A l.length c) := hb.cell 1
  go_enter Try.func26, Try.ntmps26
  go_wp2
  go_ret
  exact ⟨rfl, rfl⟩
theorem nat_at {x : Nat} {c : Nat} {g : Nat} (h : Fix w 3 1 (.slice (some ⟨g, 0, none⟩) l.length c) l.length (natVals l) F) {k : Nat} (hk : k < l.length) : w.cell? ⟨g, k, none⟩ = some (.int .i64 (nth l k : Nat)) ∧ w.frozen? ⟨g, k, none⟩ = false := by
  obtain ⟨g', e1, e2, e3⟩ := h.el hk
  injection e1 with e1
  injection e1 with e1
  subst e1
  obtain ⟨h1, h2⟩ := e3 0 (by omega)
  rw [Nat.mul_one, Nat.add_zero] at h1 h2
  refine ⟨?_, h2⟩
  rw [h1, natVals, List.getElem?_map, List.getElem?_eq_getElem hk, at_eq hk]
  rfl
set_option maxRecDepth 8000 in
set_option maxHeartbeats 4000000 in
theorem cm_less (h : CmAt w p lp bs Q R l F) {i k : Nat} (hi : i < l.length) (hk : k < l.length) (hl : l.length ≤ 1000000) :
    Calls Try.prog 71 #[.pointer (some ⟨p, 0, none⟩), .int .i64 i, .int .i64 k] w fun e w' => e = .returned (.bool (lnLt (comsOf Q) (nth l i) (nth l k))) ∧ Chg [] w w' := by
  obtain ⟨A, c, hb, hf, h1, h2⟩ := h.ex
  obtain ⟨g, rfl, rfl, -⟩ := hf.el hi
  have a0 : w.cell? ⟨p, 0, none⟩ = some (.pointer (some ⟨lp, 0, none⟩)) := hb.cell 0
  have a1 : w.cell? ⟨p, 1, none⟩ = some (.slice (some ⟨g, 0, none⟩) l.length c) := hb.cell 1
  obtain ⟨a2, -⟩ := nat_at (x := 0) hf hi
  obtain ⟨a3, -⟩ := nat_at (x := 0) hf hk
  have t1 := h.there _ (by rw [at_eq hi]; exact List.getElem_mem hi : nth l i ∈ l)
  have t2 := h.there _ (by rw [at_eq hk]; exact List.getElem_mem hk : nth l k ∈ l)
  obtain ⟨t3, t4⟩ := there_le t1
  obtain ⟨t5, t6⟩ := there_le t2
  obtain ⟨x, hx⟩ : ∃ x, nth l i = x + 1 := ⟨nth l i - 1, by omega⟩
  obtain ⟨y, hy⟩ : ∃ y, nth l k = y + 1 := ⟨nth l k - 1, by omega⟩
  rw [hx] at a2 t4 ⊢
  rw [hy] at a3 t6 ⊢
  obtain ⟨gq, cq, b0, q1, q2, x0, x1, x2, x3, x4⟩ := h.lin.cells (k := x) (by omega)
  obtain ⟨gq', cq', b0', -, -, y0, y1, y2, y3, y4⟩ := h.lin.cells (k := y) (by omega)
  rw [b0] at b0'
  injection b0' with b0'
  injection b0' with b1' _ b2'
  injection b1' with b1'
  injection b1' with b1'
  subst b1' b2'
  obtain ⟨e1, -, e2⟩ := h.lin.gen_at (k := x) (by omega)
  obtain ⟨e3, -, e4⟩ := h.lin.gen_at (k := y) (by omega)
  have hres : Hid (lnLt (comsOf Q) (x + 1) (y + 1) = (decide (Q[y].com.gen < Q[x].com.gen) || (Q[x].com.gen == Q[y].com.gen && decide (y < x)))) := Lib.hid (by unfold lnLt; rw [e1, e3]; simp)
  rw [hres.out]
  obtain ⟨PA, pa, hpx, -⟩ := (show Fix w 3 1 Q[x].pv Q[x].com.par.length (natVals Q[x].com.par) Q[x].pF from h.lin.each _ (List.getElem_mem _))
  obtain ⟨PB, pb, hpy, -⟩ := (show Fix w 3 1 Q[y].pv Q[y].com.par.length (natVals Q[y].com.par) Q[y].pF from h.lin.each _ (List.getElem_mem _))
  rw [hpx] at x2
  rw [hpy] at y2
  push_cast at a2 a3 x0 y0
  clear hpx hpy
  generalize Q[x].com.gen = gx at *
  generalize Q[y].com.gen = gy at *
  generalize Q[x].com.par.length = nx at *
  generalize Q[y].com.par.length = ny at *
  generalize Q[x].com.root = rx at *
  generalize Q[y].com.root = ry at *
  generalize Q[x].com.author = ax at *
  generalize Q[y].com.author = ay at *
  have n1 := World.new_ne w _ a0
  have n2 := World.new_ne w _ a1
  have n3 := World.new_ne w _ b0
  have n4 := World.new_ne w _ a2
  have n5 := World.new_ne w _ a3
  have n6 := World.new_ne w _ x0
  have n7 := World.new_ne w _ y0
  clear e1 e3 t1 t2 hx hy hf hb h hres
  generalize l.length = n at *
  generalize Q.length = m at *
  go_enter Try.func71, Try.ntmps71
  go_wp2_with fail
  have u1 : IntKind.i64.wrap (x : Int) = (x : Int) := IntWalk.i64_in _ (by unfold maxLen at q2; omega)
  have u2 : IntKind.i64.wrap (y : Int) = (y : Int) := IntWalk.i64_in _ (by unfold maxLen at q2; omega)
  have u3 : x < m := by omega
  have u4 : y < m := by omega
  go_region_held3 (fun w' => w'.cell? ⟨p, 0, none⟩ = some (.pointer (some ⟨lp, 0, none⟩)) ∧ w'.cell? ⟨p, 1, none⟩ = some (.slice (some ⟨g, 0, none⟩) n c) ∧ w'.cell? ⟨lp, 0, none⟩ = some (.slice (some ⟨gq, 0, none⟩) m cq) ∧ w'.cell? ⟨g, i, none⟩ = some (.int .i64 ((x : Int) + 1)) ∧ w'.cell? ⟨g, k, none⟩ = some (.int .i64 ((y : Int) + 1)) ∧
      w'.cell? ⟨gq, x * 5, none⟩ = some (.int .i64 ((x : Int) + 1)) ∧ w'.cell? ⟨gq, x * 5 + 1, none⟩ = some (.int .i64 gx) ∧ w'.cell? ⟨gq, x * 5 + 2, none⟩ = some (.slice PA nx pa) ∧ w'.cell? ⟨gq, x * 5 + 3, none⟩ = some (.int .i64 rx) ∧ w'.cell? ⟨gq, x * 5 + 4, none⟩ = some (.string ax) ∧
      w'.cell? ⟨gq, y * 5, none⟩ = some (.int .i64 ((y : Int) + 1)) ∧ w'.cell? ⟨gq, y * 5 + 1, none⟩ = some (.int .i64 gy) ∧ w'.cell? ⟨gq, y * 5 + 2, none⟩ = some (.slice PB ny pb) ∧ w'.cell? ⟨gq, y * 5 + 3, none⟩ = some (.int .i64 ry) ∧ w'.cell? ⟨gq, y * 5 + 4, none⟩ = some (.string ay)) (go_keep) (fail)
  all_goals
    by_cases g1 : gy < gx
    · have r1 : decide ((gy : Int) < (gx : Int)) = true := by simpa using g1
      go_wp2_with fail
      go_ret
      exact ⟨by simp [g1], (((Chg.refl [] w).alloc _).alloc _).drew⟩
    · have r1 : decide ((gy : Int) < (gx : Int)) = false := by simpa using g1
      by_cases g2 : gx = gy
      · have r2 : ((gx : Int) == (gy : Int)) = true := by simp; omega
        by_cases g3 : y < x
        · have r3 : decide ((y : Int) < (x : Int)) = true := by simpa using g3
          go_wp2_with fail
          go_ret
          exact ⟨by simp [g1, g2, g3], (((Chg.refl [] w).alloc _).alloc _).drew⟩
        · have r3 : decide ((y : Int) < (x : Int)) = false := by simpa using g3
          go_wp2_with fail
          go_ret
          exact ⟨by simp [g1, g2, g3], (((Chg.refl [] w).alloc _).alloc _).drew⟩
      · have r2 : ((gx : Int) == (gy : Int)) = false := by simp; omega
        go_wp2_with fail
        go_ret
        exact ⟨by simp [g1, g2], (((Chg.refl [] w).alloc _).alloc _).drew⟩
set_option maxRecDepth 8000 in
set_option maxHeartbeats 4000000 in
theorem cm_swap (h : CmAt w p lp bs Q R l F) {i k : Nat} (hi : i < l.length) (hk : k < l.length) (hl : l.length ≤ 1000000) :
    Calls Try.prog 74 #[.pointer (some ⟨p, 0, none⟩), .int .i64 i, .int .i64 k] w fun e w' => e = .returned (.tuple #[]) ∧ CmAt w' p lp bs Q R (swapAt l i k) F ∧ Chg F w w' := by
  have hpF := h.pF
  obtain ⟨A, c, hb, hf, h1, h2⟩ := h.ex
  obtain ⟨g, rfl, hF, -⟩ := hf.el hi
  have a1 : w.cell? ⟨p, 1, none⟩ = some (.slice (some ⟨g, 0, none⟩) l.length c) := hb.cell 1
  obtain ⟨a2, f2⟩ := nat_at (x := 0) (g := g) (by exact hf) hi
  obtain ⟨a3, f3⟩ := nat_at (x := 0) (g := g) (by exact hf) hk
  have hs : Hid (Fix ((w.setCell ⟨g, i, none⟩ (.int .i64 (nth l k : Nat))).setCell ⟨g, k, none⟩ (.int .i64 (nth l i : Nat))) 3 1 (.slice (some ⟨g, 0, none⟩) l.length c) l.length (natVals (swapAt l i k)) F) := Lib.hid (by
    have := (hf.store rfl i (.int .i64 (nth l k : Nat))).store rfl k (.int .i64 (nth l i : Nat))
    have e : ((natVals l).set i (.int .i64 (nth l k : Nat))).set k (.int .i64 (nth l i : Nat)) = natVals (swapAt l i k) := by
      unfold swapAt natVals
      rw [List.map_set, List.map_set]
    rw [e] at this
    exact this)
  have hgp : g ≠ p := fun e => hpF (by rw [hF, e]; simp)
  have hCh : ∀ w', Chg F w w' → Fix w' 3 1 (.slice (some ⟨g, 0, none⟩) l.length c) l.length (natVals (swapAt l i k)) F → CmAt w' p lp bs Q R (swapAt l i k) F := fun w' hc hx =>
    ⟨⟨_, c, by rw [length_swap]; exact hb.chg hc hpF, by rw [length_swap]; exact hx, by rw [length_swap]; exact h1, h2⟩, h.lin.chg hc h.sepL h.sepR, h.sepL, h.sepR, h.pR, h.plp, h.bF, h.bp, Nat.lt_of_lt_of_le h.bl hc.size, h.bR, h.blp, fun x hx => h.there x ((perm_swap hi hk).mem_iff.1 hx)⟩
  replace hCh := Lib.hid hCh
  have hgF : g ∈ F := by rw [hF]; simp
  clear hF
  have hxy : i = k → nth l i = nth l k := by rintro rfl; rfl
  clear hf hb h
  generalize nth l i = x at *
  generalize nth l k = y at *
  generalize hn : l.length = n at *
  replace hn := Lib.hid hn
  go_enter Try.func74, Try.ntmps74
  go_wp2_with fail
  by_cases hik : i = k
  · obtain rfl := hxy hik
    subst hik
    go_region
    all_goals
      go_wp2_with fail
      go_end0
      have hq : Chg F w _ := ((Chg.refl F w).setCell (p := ⟨g, i, none⟩) (.inl hgF) (.int .i64 (x : Nat))).setCell (p := ⟨g, i, none⟩) (.inl hgF) (.int .i64 (x : Nat))
      exact ⟨rfl, hCh.out _ hq.drew hs.out.drew, hq.drew⟩
  have n4 : ¬ k = i := by omega
  have n5 : ¬ i = k := hik
  go_region
  all_goals
    go_wp2_with fail
    go_end0
    have hq : Chg F w _ := ((Chg.refl F w).setCell (p := ⟨g, i, none⟩) (.inl hgF) (.int .i64 (y : Nat))).setCell (p := ⟨g, k, none⟩) (.inl hgF) (.int .i64 (x : Nat))
    exact ⟨rfl, hCh.out _ hq.drew hs.out.drew, hq.drew⟩
set_option maxRecDepth 8000 in
set_option maxHeartbeats 4000000 in
theorem cm_push (h : CmAt w p lp bs Q R l F) (x : Nat) (hx : isThere (comsOf Q) x = true) (hl : l.length < 1000000) :
    Calls Try.prog 73 #[.pointer (some ⟨p, 0, none⟩), .iface 3 (.int .i64 x)] w fun e w' => e = .returned (.tuple #[]) ∧ ∃ F', CmAt w' p lp bs Q R (l ++ [x]) F' ∧ Chg (p :: F) w w' ∧ ∀ g, g ∈ F' → g ∈ F ∨ w.heap.size ≤ g := by
  obtain ⟨i0, hi, j0, j1, j2⟩ := info_parts lnIntInfo
  have hpF := h.pF
  have hlp := h.lin.plt
  have hRl := h.lin.lt
  obtain ⟨A, c, hb, hf, h1, h2⟩ := h.ex
  have a1 : w.cell? ⟨p, 1, none⟩ = some (.slice A l.length c) := hb.cell 1
  have ca := cell_al a1
  have hbl := hb.lt
  have hta : ∀ (a : Value) (w : World), (Instr.typeAssert (.iface 3 a) 20 3 false).run Try.prog w = .ok a w := fun a w => by kernel_rfl
  go_enter Try.func73, Try.ntmps73
  go_wp2_with fail
  go_region_law (refine step_append_fix rfl _ _ 27 rfl Try.underlying27 hi j0 j1 j2 rfl (by omega) rfl (hf.alloc _) rfl (Src.one1 rfl) (by simp [Value.oneCell']) (by unfold maxLen; omega) (by omega) ?_; intro v' w1 F1 ha; obtain ⟨g1, k1, rfl, rfl⟩ := ha.head (by omega); have hb1 := (hb.alloc (.cells #[.int .i64 (x : Nat)] 3)).drew.chg ha.chg hpF; have d0 : w1.cell? ⟨p, 1, none⟩ = some (.slice A l.length c) := hb1.cell 1; have d1 : w1.frozen? ⟨p, 1, none⟩ = false := hb1.frozen 1)
  all_goals
    go_wp2_with fail
    go_end0
    have hg1 : g1 ∈ F ∨ w.heap.size ≤ g1 := by
      rcases ha.foot with e | e
      · left; rw [← e]; simp
      · right; simp at e; omega
    have hq : Chg [p] w1 (w1.setCell ⟨p, 1, none⟩ (.slice (some ⟨g1, 0, none⟩) (l.length + 1) k1)) := (Chg.refl _ _).setCell (by simp) _
    have hz : Chg F w w1 := ((((Chg.refl F w).alloc (.cells #[.int .i64 (x : Nat)] 3)).drew).trans ha.chg (fun g hg => .inl hg))
    have hb2 := hb1.set_ 1 (.slice (some ⟨g1, 0, none⟩) (l.length + 1) k1)
    have hpg : p ∉ [g1] := ha.fix.ne_blk hb1 (by decide)
    have hcap := ha.fix
    obtain ⟨_, _, e5, -, q1, q2, -⟩ := id hcap
    injection e5 with _ _ e5
    subst e5
    refine ⟨rfl, [g1], ⟨⟨some ⟨g1, 0, none⟩, k1, by rw [List.length_append]; exact hb2, ?_, by rw [List.length_append]; exact q1, q2⟩, (h.lin.chg hz h.sepL h.sepR).chg hq (by simpa using fun e => h.plp e.symm) (fun g hg => by simp; rintro rfl; exact h.pR hg), ?_, ?_, h.pR, h.plp, ?_, h.bp, Nat.lt_of_lt_of_le (Nat.lt_of_lt_of_le h.bl hz.size) hq.size, h.bR, h.blp, ?_⟩, ?_, ?_⟩
    · have := hcap.chg hq (fun g hg => by simp; rintro rfl; exact hpg hg)
      rw [List.length_append]
      unfold natVals at this ⊢
      rw [List.map_append]
      exact this
    · rcases hg1 with e | e
      · simp; rintro rfl; exact h.sepL e
      · simp; omega
    · intro g hg
      have := hRl g hg
      rcases hg1 with e | e
      · simp; rintro rfl; exact h.sepR g hg e
      · simp; omega
    · rcases hg1 with e | e
      · simp; rintro rfl; exact h.bF e
      · simp
        have := h.bl
        omega
    · intro y hy
      rcases List.mem_append.1 hy with hy | hy
      · exact h.there y hy
      · obtain rfl : y = x := by simpa using hy
        exact hx
    · exact (hz.mono (by simp +contextual)).trans hq (by simp)
    · intro g hg
      obtain rfl : g = g1 := by simpa using hg
      exact hg1
set_option maxRecDepth 8000 in
set_option maxHeartbeats 4000000 in
theorem cm_pop (h : CmAt w p lp bs Q R l F) (h0 : 0 < l.length) (hl : l.length ≤ 1000000) :
    Calls Try.prog 72 #[.pointer (some ⟨p, 0, none⟩)] w fun e w' => e = .returned (.iface 3 (.int .i64 (nth l (l.length - 1) : Nat))) ∧ CmAt w' p lp bs Q R (l.take (l.length - 1)) F ∧ Chg [p] w w' := by
  have hpF := h.pF
  obtain ⟨A, c, hb, hf, h1, h2⟩ := h.ex
  obtain ⟨m, hm⟩ : ∃ m, l.length = m + 1 := ⟨l.length - 1, by omega⟩
  obtain ⟨g, rfl, hF, -⟩ := hf.el (k := m) (by omega)
  have a1 : w.cell? ⟨p, 1, none⟩ = some (.slice (some ⟨g, 0, none⟩) l.length c) := hb.cell 1
  have f1 : w.frozen? ⟨p, 1, none⟩ = false := hb.frozen 1
  obtain ⟨a2, -⟩ := nat_at (x := 0) (g := g) (k := m) (by exact hf) (by omega)
  have hfs : Fix w 3 1 (.slice (some ⟨g, 0, none⟩) m c) m (natVals (l.take m)) F := by
    have := hf.shorter (m := m) (by omega)
    rw [Nat.mul_one] at this
    unfold natVals at this ⊢
    rwa [← List.map_take] at this
  have hfin : ∀ w', Chg [p] w w' → Blk w' p 62 #[.pointer (some ⟨lp, 0, none⟩), .slice (some ⟨g, 0, none⟩) m c, .map (some bs)] → CmAt w' p lp bs Q R (l.take m) F := fun w' hc hx =>
    ⟨⟨_, c, by rw [List.length_take, show min m l.length = m by omega]; exact hx, by rw [List.length_take, show min m l.length = m by omega]; exact hfs.chg hc (fun g hg => by simp; rintro rfl; exact hpF hg), by simp; omega, h2⟩, h.lin.chg hc (by simpa using fun e => h.plp e.symm) (fun g hg => by simp; rintro rfl; exact h.pR hg), h.sepL, h.sepR, h.pR, h.plp, h.bF, h.bp, Nat.lt_of_lt_of_le h.bl hc.size, h.bR, h.blp, fun x hx => h.there x (List.mem_of_mem_take hx)⟩
  replace hfin := Lib.hid hfin
  have hb' := hb.set_ 1 (.slice (some ⟨g, 0, none⟩) m c)
  rw [hm] at a1 ⊢
  simp only [Nat.add_sub_cancel]
  generalize nth l m = x at *
  have hm' := Lib.hid hm
  rw [hm] at h1 hl
  have h3 : m ≤ c := by omega
  unfold maxLen at h2
  clear hm hf hb h
  go_enter Try.func72, Try.ntmps72
  go_wp2_with fail
  go_ret
  have hq : Chg [p] w (w.setCell ⟨p, 1, none⟩ (.slice (some ⟨g, 0, none⟩) m c)) := (Chg.refl _ _).setCell (by simp) _
  exact ⟨rfl, hfin.out _ hq hb', hq⟩
end
end Go.Proofs.Ytaabkapjdmceaaa
