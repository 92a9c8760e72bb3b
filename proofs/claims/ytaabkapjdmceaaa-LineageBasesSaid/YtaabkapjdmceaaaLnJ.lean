/- Lineage: Get. -/
import Derived.Test.YtaabkapjdmceaaaLnI
import Derived.Test.YtaabkapjdmceaaaLnC1
namespace Go.Proofs.Ytaabkapjdmceaaa
open Go.RowKit Go.Vx Go.Maps
set_option linter.unusedVariables false
set_option linter.unusedSimpArgs false
section
variable {w : World} {lp : Nat} {Q : List LC} {R : List Nat}
theorem ln_get_no (h : LinAt w lp Q R) (hQ : Q.length ≤ 400) (id : Int) (hi : isThere (comsOf Q) id.toNat = false) :
    Calls Try.prog 14 #[.pointer (some ⟨lp, 0, none⟩), .int .i64 id] w fun e w' => e = .returned (.tuple #[.agg #[.int .i64 0, .int .i64 0, .slice none 0 0, .int .i64 0, .string ⟨#[]⟩], .bool false]) ∧ Chg [] w w' := by
  have hT := fun w' (k : Chg [] w w') => ln_there (h.keep k) (by omega) id
  rw [thereI_nat, hi] at hT
  go_enter Try.func14, Try.ntmps14
  go_wp2_with (go_at_call 18; refine (hT _ ((Chg.refl _ _).alloc _)).mono ?_; rintro e w' ⟨rfl, rfl⟩)
  refine bodyPost_ret (v := .tuple #[.agg #[.int .i64 0, .int .i64 0, .slice none 0 0, .int .i64 0, .string ⟨#[]⟩], .bool false]) (by rw [results_cell_tmp rfl]; go_simp) rfl ?_
  exact ⟨rfl, (Chg.refl _ _).alloc _⟩
set_option maxRecDepth 100000 in
set_option maxHeartbeats 4000000 in
theorem ln_get (h : LinAt w lp Q R) (hQ : Q.length ≤ 400) {i : Nat} (hi : i < Q.length) :
    Calls Try.prog 14 #[.pointer (some ⟨lp, 0, none⟩), .int .i64 ((i + 1 : Nat) : Int)] w fun e w' => ∃ v F, e = .returned (.tuple #[.agg #[.int .i64 ((i + 1 : Nat) : Int), .int .i64 (Q[i].com.gen : Nat), v, .int .i64 Q[i].com.root, .string Q[i].com.author], .bool true]) ∧ Fix w' 3 1 v Q[i].com.par.length (natVals Q[i].com.par) F ∧ (∀ g ∈ F, w.heap.size ≤ g) ∧ Chg [] w w' := by
  have hT := fun w' (k : Chg [] w w') => ln_there (h.keep k) (by omega) ((i + 1 : Nat) : Int)
  have hth : isThere (comsOf Q) (i + 1) = true := isThere_iff.2 ⟨by omega, by rw [List.length_map]; omega⟩
  rw [thereI_nat, Int.toNat_natCast, hth] at hT
  have hcs := fun w' (k : Chg [] w w') => (h.keep k).cells hi
  have hpar : Fix w 3 1 Q[i].pv Q[i].com.par.length (natVals Q[i].com.par) Q[i].pF := h.each _ (List.getElem_mem hi)
  have h2 := h.two _ (List.getElem_mem hi)
  have hgl := (h.gen_at hi).2.2
  have hlt := h.lt
  have hft := h.foot _ (List.getElem_mem hi)
  generalize Q[i].com.gen = G at *
  generalize Q[i].com.root = ro at *
  generalize Q[i].com.author = au at *
  generalize Q[i].com.par = P at *
  generalize Q[i].pF = pF at *
  generalize Q[i].pv = pv at *
  obtain ⟨A, c, rfl, -⟩ := _root_.id hpar
  have hxw : ((i + 1 : Nat) : Int) - 1 = (i : Int) := by omega
  go_enter Try.func14, Try.ntmps14
  go_wp2_with (go_at_call 18; refine (hT _ ((Chg.refl _ _).alloc _)).mono ?_; rintro e w' ⟨rfl, rfl⟩; obtain ⟨gq, cq, e0, q1, q2, e1, e2, e3, e4, e5⟩ := hcs _ ((Chg.refl [] w).alloc (.cells #[.int .i64 0, .int .i64 0, .slice none 0 0, .int .i64 0, .string ⟨#[]⟩] 43)); have d1 := cell_al e1; have d2 := cell_al e2; have d3 := cell_al e3; have d4 := cell_al e4; have d5 := cell_al e5)
  have hk0 : Chg [] w (w.alloc (.cells #[.int .i64 0, .int .i64 0, .slice none 0 0, .int .i64 0, .string ⟨#[]⟩] 43)) := (Chg.refl _ _).alloc _
  have hB0 := Blk.new w 43 #[.int .i64 0, .int .i64 0, .slice none 0 0, .int .i64 0, .string ⟨#[]⟩]
  have hpa := hpar.chg hk0 (by simp)
  have hsz : (w.alloc (.cells #[.int .i64 0, .int .i64 0, .slice none 0 0, .int .i64 0, .string ⟨#[]⟩] 43)).heap.size = w.heap.size + 1 := World.size_alloc _ _
  clear e0 e1 e2 e3 e4 e5 d1 d2 d3 d4 d5 hcs hT
  generalize w.alloc (.cells #[.int .i64 0, .int .i64 0, .slice none 0 0, .int .i64 0, .string ⟨#[]⟩] 43) = wa at *
  have hB1 := Blk.new wa 43 #[.int .i64 ((i : Int) + 1), .int .i64 (G : Nat), .slice A P.length c, .int .i64 ro, .string au]
  rw [hsz] at hB1
  refine (cloneInts (Fix.src (hpa.alloc _)) (oneNats _) (by omega)).mono ?_
  rintro e w1 ⟨v, F, rfl, hf, hz, hF⟩
  have hzz := (hk0.alloc _).trans' hz
  replace hF : ∀ g ∈ F, w.heap.size + 2 ≤ g := fun g hg => by
    have := hF g hg
    rw [World.size_alloc, hsz] at this
    omega
  obtain ⟨A1, c1, rfl, -⟩ := _root_.id hf
  have hb0 := (hB0.alloc _).chg hz (by simp)
  have hb1 := hB1.chg hz (by simp)
  have z0 := hb0.cell 0
  have z1 := hb0.cell 1
  have z2 := hb0.cell 2
  have z3 := hb0.cell 3
  have z4 := hb0.cell 4
  have y0 := hb0.frozen 0
  have y1 := hb0.frozen 1
  have y2 := hb0.frozen 2
  have y3 := hb0.frozen 3
  have y4 := hb0.frozen 4
  have x0 := hb1.cell 0
  have x1 := hb1.cell 1
  have x2 := hb1.cell 2
  have x3 := hb1.cell 3
  have x4 := hb1.cell 4
  have u2 := hb1.frozen 2
  simp at z0 z1 z2 z3 z4 x0 x1 x2 x3 x4
  clear hB0 hB1 hb0 hb1 hsz hpa hk0
  go_wp2_with fail
  refine bodyPost_ret (v := .tuple #[.agg #[.int .i64 ((i + 1 : Nat) : Int), .int .i64 (G : Nat), .slice A1 P.length c1, .int .i64 ro, .string au], .bool true]) (by rw [results_cell_tmp rfl]; go_simp) rfl ?_
  have key : ∀ W', Chg [w.heap.size, w.heap.size + 1] w1 W' → Fix W' 3 1 (.slice A1 P.length c1) P.length (natVals P) F ∧ (∀ g ∈ F, w.heap.size ≤ g) ∧ Chg [] w W' := by
    intro W' k
    refine ⟨hf.chg k (fun g hg hm => ?_), fun g hg => ?_, hzz.trans k (fun g hg => ?_)⟩
    · have := hF g hg
      simp at hm
      omega
    · have := hF g hg
      omega
    · simp at hg
      omega
  refine ⟨_, F, rfl, key _ ?_⟩
  exact ((((((Chg.refl _ w1).setCell (by simp) _).setCell (by simp) _).setCell (by simp) _).setCell (by simp) _).setCell (by simp) _).setCell (by simp) _
end
end Go.Proofs.Ytaabkapjdmceaaa
