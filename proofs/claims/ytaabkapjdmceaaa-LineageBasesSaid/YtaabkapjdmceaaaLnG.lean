/- Lineage: History, walked. -/
import Derived.Test.YtaabkapjdmceaaaLnF
namespace Go.Proofs.Ytaabkapjdmceaaa
open Go.RowKit Go.Vx Go.Maps
set_option linter.unusedVariables false
set_option linter.unusedSimpArgs false

theorem meet_len (C : Lin0) (st : List Nat × List Nat) (id : Nat) : (meetL C st id).1.length ≤ st.1.length + 1 ∧ (meetL C st id).2.length ≤ st.2.length + 1 := by
  unfold meetL
  split
  · simp [(ins_perm _ _).length_eq]
  · omega
theorem meets_len (C : Lin0) : ∀ (ps : List Nat) (st : List Nat × List Nat), (ps.foldl (meetL C) st).1.length ≤ st.1.length + ps.length ∧ (ps.foldl (meetL C) st).2.length ≤ st.2.length + ps.length
  | [], st => by simp
  | p :: ps, st => by
    have h1 := meet_len C st p
    have h2 := meets_len C ps (meetL C st p)
    rw [List.foldl_cons, List.length_cons]
    omega
theorem foldl_take {α β : Type} (f : β → α → β) (b : β) (l : List α) {k : Nat} (hk : k < l.length) : (l.take (k + 1)).foldl f b = f ((l.take k).foldl f b) l[k] := by
  rw [List.take_succ_eq_append_getElem hk, List.foldl_append]
  rfl
abbrev AnyC : Nat → Prop := fun _ => True
theorem inv_len {C : Lin0} {Cl : Nat → Prop} {out S seen : List Nat} (h : LnInv C Cl out S seen) : seen.length ≤ C.length ∧ out.length + S.length = seen.length := by
  refine ⟨len_there h.nod fun x hx => (h.cl x hx).1, ?_⟩
  have := h.perm.length_eq
  rwa [List.length_append] at this
/-- How far the history's walk has come. -/
structure HistAt (w0 w : World) (p lp bs : Nat) (Q : List LC) (R : List Nat) (S seen F : List Nat) : Prop where
  cm : CmS w p lp bs Q R S F
  sn : SeenAt w bs seen
  fr : ∀ g ∈ p :: bs :: F, w0.heap.size ≤ g
  chg : Chg [] w0 w
section
variable {w0 w : World} {p lp bs : Nat} {Q : List LC} {R S seen F : List Nat}
theorem HistAt.lt (h : HistAt w0 w p lp bs Q R S seen F) : ∀ g ∈ p :: bs :: F, g < w.heap.size := by
  obtain ⟨l, hc, -⟩ := h.cm
  obtain ⟨A, c, hb, hf, -⟩ := hc.ex
  intro g hg
  simp only [List.mem_cons] at hg
  rcases hg with rfl | rfl | hg
  · exact hb.lt
  · exact hc.bl
  · exact hf.lt g hg
theorem HistAt.keep {w' : World} (h : HistAt w0 w p lp bs Q R S seen F) (k : Chg [] w w') : HistAt w0 w' p lp bs Q R S seen F := ⟨h.cm.keep k, h.sn.chg k (by simp), h.fr, h.chg.trans' k⟩
/-- Other memory changes. -/
theorem HistAt.other {w' : World} {T : List Nat} (h : HistAt w0 w p lp bs Q R S seen F) (k : Chg T w w') (hT : ∀ g ∈ T, w0.heap.size ≤ g ∧ g ∉ p :: bs :: F) (hR : ∀ g ∈ lp :: R, g < w0.heap.size) : HistAt w0 w' p lp bs Q R S seen F := by
  obtain ⟨l, hc, hr⟩ := h.cm
  obtain ⟨A, c, hb, hf, h1, h2⟩ := hc.ex
  have hp : p ∉ T := fun h => (hT p h).2 (by simp)
  have hbs : bs ∉ T := fun h => (hT bs h).2 (by simp)
  refine ⟨⟨l, ⟨⟨A, c, hb.chg k hp, hf.chg k (fun g hg h => (hT g h).2 (by simp [hg])), h1, h2⟩, hc.lin.chg k (fun h => ?_) (fun g hg h => ?_), hc.sepL, hc.sepR, hc.pR, hc.plp, hc.bF, hc.bp, Nat.lt_of_lt_of_le hc.bl k.size, hc.bR, hc.blp, hc.there⟩, hr⟩, h.sn.chg k hbs, h.fr, h.chg.trans k (fun g hg => .inr (hT g hg).1)⟩
  · have := (hT lp h).1
    have := hR lp (by simp)
    omega
  · have := (hT g h).1
    have := hR g (by simp [hg])
    omega
theorem hist_len (h : HistAt w0 w p lp bs Q R S seen F) (hS : S.length ≤ 1000) : Calls Try.prog 26 #[.pointer (some ⟨p, 0, none⟩)] w fun e w' => e = .returned (.int .i64 S.length) ∧ w = w' := by
  obtain ⟨l, hc, hr⟩ := h.cm
  have hll := hr.2.1.length_eq
  have := cm_len hc (by omega)
  rwa [hll] at this
theorem hist_pop {x : Nat} (h : HistAt w0 w p lp bs Q R (x :: S) seen F) (hS : S.length ≤ 1000) :
    Calls Try.prog 27 #[.iface 59 (.pointer (some ⟨p, 0, none⟩))] w fun e w' => e = .returned (.iface 3 (.int .i64 x)) ∧ HistAt w0 w' p lp bs Q R S seen F ∧ Chg (p :: F) w w' := by
  have hbF := fun l (hc : CmAt w p lp bs Q R l F) => (⟨hc.bF, hc.bp⟩ : _ ∧ _)
  obtain ⟨l, hc, -⟩ := id h.cm
  refine (cm_Pop h.cm (by omega)).mono ?_
  rintro e w' ⟨rfl, h1, h2⟩
  refine ⟨rfl, ⟨h1, h.sn.chg h2 ?_, h.fr, h.chg.trans h2 fun g hg => .inr (h.fr g ?_)⟩, h2⟩
  · intro hg
    rcases List.mem_cons.1 hg with e | hg
    · exact hc.bp e
    · exact hc.bF hg
  · rcases List.mem_cons.1 hg with e | hg
    · simp [e]
    · simp [hg]
theorem hist_meet (h : HistAt w0 w p lp bs Q R S seen F) (id : Int) (hS : S.length ≤ 1000) (hn : seen.length ≤ 1000) (hQ : Q.length ≤ 1000) :
    Calls Try.prog 25 #[.pointer (some ⟨p, 0, none⟩), .int .i64 id] w fun e w' => e = .returned (.tuple #[]) ∧ ∃ F', HistAt w0 w' p lp bs Q R (meetL (comsOf Q) (S, seen) id.toNat).1 (meetL (comsOf Q) (S, seen) id.toNat).2 F' ∧ Chg (p :: bs :: F) w w' ∧ ∀ g ∈ F', g ∈ F ∨ w.heap.size ≤ g := by
  refine (cm_meet h.cm h.sn id hS hn hQ).mono ?_
  rintro e w' ⟨rfl, F', h1, h2, h3, h4⟩
  refine ⟨rfl, F', ⟨h1, h2, fun g hg => ?_, h.chg.trans h3 (fun g hg => .inr (h.fr g hg))⟩, h3, h4⟩
  simp only [List.mem_cons] at hg
  rcases hg with rfl | rfl | hg
  · exact h.fr _ (by simp)
  · exact h.fr _ (by simp)
  · rcases h4 g hg with e | e
    · exact h.fr g (by simp [e])
    · have := h.chg.size; omega
end
def lenV : Value → Nat
  | .slice _ n _ => n
  | _ => 0
set_option maxRecDepth 100000 in
set_option maxHeartbeats 16000000 in
theorem ln_history {w : World} {lp : Nat} {Q : List LC} {R : List Nat} (h : LinAt w lp Q R) (hQ : Q.length ≤ 400) {A : Option Addr} {n c : Nat} {l : List Int} (hs : Src w 1 A n (l.map (Value.int .i64))) (hn : n ≤ 1000000) :
    Calls Try.prog 15 #[.pointer (some ⟨lp, 0, none⟩), .slice A n c] w fun e w' => ∃ v F, e = .returned v ∧ Fix w' 3 1 v (hist (comsOf Q) (l.map Int.toNat)).length (natVals (hist (comsOf Q) (l.map Int.toNat))) F ∧ (∀ g ∈ F, w.heap.size ≤ g) ∧ Chg [] w w' := by
  obtain ⟨i0, hi, j0, j1, j2⟩ := info_parts lnIntInfo
  have hl : l.length = n := by have := hs.1; simpa using this
  have hmm := @run_makeMap Try.prog
  have hta : ∀ (a : Value) (w : World), (Instr.typeAssert (.iface 3 a) 20 3 false).run Try.prog w = .ok a w := fun a w => by kernel_rfl
  have hlpl := h.plt
  have hRl := h.lt
  have hLR : ∀ g ∈ lp :: R, g < w.heap.size := fun g hg => by
    rcases List.mem_cons.1 hg with rfl | hg
    · exact hlpl
    · exact hRl g hg
  have hC : (comsOf Q).length = Q.length := by simp
  have hH : Hid (hist (comsOf Q) (l.map Int.toNat) = histL (comsOf Q) (Q.length + 1) ((l.map Int.toNat).foldl (meetL (comsOf Q)) ([], []))) := Lib.hid (by unfold hist; rw [hC])
  generalize hist (comsOf Q) (l.map Int.toNat) = H at *
  have hwf := Lib.hid h.wf
  have hcell : ∀ w', Chg [] w w' → ∀ k, (hk : k < n) → ∃ ad, A = some ad ∧ w'.cell? (ad.add k) = some (.int .i64 (l[k]'(by omega))) := by
    intro w' hc k hk
    obtain ⟨ad, ha, hcc⟩ := (hs.chg hc (by simp)).2 (by omega)
    exact ⟨ad, ha, hcc k _ (by rw [List.getElem?_map, List.getElem?_eq_getElem (by omega)]; rfl)⟩
  replace hl := Lib.hid hl
  replace hC := Lib.hid hC
  go_enter Try.func15, Try.ntmps15
  go_wp2_with fail
  have hA0 : HistAt w ((w.alloc (.map #[] 0)).alloc (.cells #[.pointer (some ⟨lp, 0, none⟩), .slice none 0 0, .map (some w.heap.size)] 62)) (w.heap.size + 1) lp w.heap.size Q R [] [] [] := by
    have hc0 : Chg [] w ((w.alloc (.map #[] 0)).alloc (.cells #[.pointer (some ⟨lp, 0, none⟩), .slice none 0 0, .map (some w.heap.size)] 62)) := ((Chg.refl _ _).alloc _).alloc _
    have hb := Blk.new (w.alloc (.map #[] 0)) 62 #[.pointer (some ⟨lp, 0, none⟩), .slice none 0 0, .map (some w.heap.size)]
    have hsn := (SeenAt.new w).chg ((Chg.refl [] (w.alloc (.map #[] 0))).alloc (.cells #[.pointer (some ⟨lp, 0, none⟩), .slice none 0 0, .map (some w.heap.size)] 62)) (by simp)
    simp only [World.size_alloc] at hb
    refine ⟨⟨[], ⟨⟨none, 0, hb, Fix.nil _ _ _, Nat.le_refl _, Nat.zero_le _⟩, h.keep hc0, by simp, by simp, fun hg => ?_, ?_, by simp, by omega, by simp; omega, fun hg => ?_, ?_, by simp⟩, Rep.nil⟩, hsn, fun g hg => ?_, hc0⟩
    · have := hRl _ hg; omega
    · omega
    · have := hRl _ hg; omega
    · omega
    · simp at hg; omega
  generalize (w.alloc (.map #[] 0)).alloc (.cells #[.pointer (some ⟨lp, 0, none⟩), .slice none 0 0, .map (some w.heap.size)] 62) = wa at *
  have hbp := Lib.hid (rfl : w.heap.size = w.heap.size)
  generalize hp0 : w.heap.size + 1 = p at *
  generalize hb0 : w.heap.size = bs at hA0 ⊢
  replace hp0 := Lib.hid hp0
  replace hb0 := Lib.hid hb0
  go_wp2_with fail
  go_loopw [8, 21] (fun _ kv wr => ∃ (k : Nat) (S seen F : List Nat), k ≤ n ∧ kv = .int .i64 k ∧ Hid ((S, seen) = ((l.map Int.toNat).take k).foldl (meetL (comsOf Q)) ([], [])) ∧ HistAt w wr p lp bs Q R S seen F ∧ LnInv (comsOf Q) AnyC [] S seen) (fun _ kv _ => n - (intOf kv).toNat)
  case atStart => exact ⟨0, [], [], [], by omega, rfl, Lib.hid rfl, hA0, ⟨List.Pairwise.nil, List.nodup_nil, List.Perm.refl _, by simp, by simp, List.Pairwise.nil, by simp⟩⟩
  case round =>
    obtain ⟨k, S, seen, F, hk, rfl, hst, hA, hI⟩ := hrel
    obtain ⟨hl1, hl2⟩ := inv_len hI
    have hl1' : seen.length ≤ 400 := by rw [hC.out] at hl1; omega
    have hl2' : S.length ≤ 400 := by simp at hl2; omega
    by_cases hlt : k < n
    · obtain ⟨ad, rfl, hck⟩ := hcell _ hA.chg k hlt
      have hlk : k < (l.map Int.toNat).length := by rw [List.length_map, hl.out]; exact hlt
      have hfold := foldl_take (meetL (comsOf Q)) ([], []) _ hlk
      rw [← hst.out, List.getElem_map] at hfold
      generalize l[k]'(by omega) = id at *
      have hm := hist_meet hA id (by omega) (by omega) (by omega)
      have hI2 := (meet_inv hI (Cl := AnyC) (id := id.toNat) (fun _ => trivial) (by simp)).1
      generalize meetL (comsOf Q) (S, seen) id.toNat = st at *
      obtain ⟨S2, seen2⟩ := st
      replace hfold := Lib.hid hfold
      clear hst hl1 hl2 hI hlk
      go_wp2_with (go_at_call 25; refine hm.mono ?_; rintro e w2 ⟨rfl, F2, hA2, -, -⟩)
      go_roundw
      case measure => simp [intOf]; omega
      case rel => exact ⟨k + 1, S2, seen2, F2, by omega, by go_num, Lib.hid hfold.out.symm, hA2, hI2⟩
    · obtain rfl : n = k := by omega
      clear hcell
      rw [List.take_of_length_le (by rw [List.length_map, hl.out]; exact Nat.le_refl _)] at hst
      rw [← hst.out] at hH
      clear hst hl1 hl2
      go_wp2_with fail
      go_loopw [9] (fun ov wr => ∃ (out S seen F Fo : List Nat), HistAt w wr p lp bs Q R S seen F ∧ LnInv (comsOf Q) AnyC out S seen ∧ Fix wr 3 1 ov out.length (natVals out) Fo ∧ Hid (H = out ++ histL (comsOf Q) (Q.length + 1 - out.length) (S, seen)) ∧ (∀ g ∈ Fo, w.heap.size ≤ g ∧ g ∉ p :: bs :: F)) (fun ov _ => Q.length + 1 - lenV ov)
      case atStart => exact ⟨[], S, seen, F, [], hA, hI, Fix.nil _ _ _, hH, by simp⟩
      case round =>
        clear hH hA hI hl1' hl2' hA0
        clear S seen F
        obtain ⟨out, S, seen, F, Fo, hA, hI, hfx, hH, hFo⟩ := hrel
        obtain ⟨hl1, hl2⟩ := inv_len hI
        rw [hC.out] at hl1
        have hL := hist_len hA (by omega)
        obtain ⟨Ao, co, rfl, -⟩ := id hfx
        cases S with
        | nil =>
          have hHo : H = out := by
            rw [hH.out]
            cases Q.length + 1 - out.length <;> simp [histL]
          subst hHo
          clear hH hl1 hl2
          go_wp2_with fail
          refine hL.mono ?_
          rintro e w2 ⟨rfl, rfl⟩
          go_wp2_with fail
          go_ret
          exact ⟨_, Fo, rfl, hfx, fun g hg => (hFo g hg).1, hA.chg⟩
        | cons x S =>
          have hxs : x ∈ seen := hI.perm.mem_iff.1 (by simp)
          have hxt := isThere_iff.1 (hI.cl x hxs).1
          rw [hC.out] at hxt
          obtain ⟨i, rfl⟩ : ∃ i, x = i + 1 := ⟨x - 1, by omega⟩
          have hiQ : i < Q.length := by omega
          simp only [List.length_cons] at hl2
          have hfu : Q.length + 1 - out.length = Q.length - out.length + 1 := by omega
          rw [hfu] at hH
          have hH2 : H = (out ++ [i + 1]) ++ histL (comsOf Q) (Q.length - out.length) ((parAt (comsOf Q) (i + 1)).foldl (meetL (comsOf Q)) (S, seen)) := by rw [hH.out]; simp [histL]
          replace hH2 := Lib.hid hH2
          clear hH hfu
          have hI2 := (pop_inv hwf.out (Cl := AnyC) (fun _ _ _ _ _ => trivial) hI).1
          have hml := fun j => meets_len (comsOf Q) ((parAt (comsOf Q) (i + 1)).take j) (S, seen)
          have hgp := (h.gen_at hiQ).2.1
          have hpar : Fix w 3 1 Q[i].pv Q[i].com.par.length (natVals Q[i].com.par) Q[i].pF := h.each _ (List.getElem_mem hiQ)
          have htw := h.two _ (List.getElem_mem hiQ)
          have hcells := fun w' (hc : Chg [] w w') => (h.keep hc).cells hiQ
          rw [hgp] at hI2 hH2 hml
          clear hgp
          generalize Q[i].com.par = par at *
          generalize hpv : Q[i].pv = pv at *
          generalize Q[i].pF = pF at *
          obtain ⟨B, pc, rfl, -⟩ := id hpar
          replace hpar := Lib.hid hpar
          replace hpv := Lib.hid hpv
          have hPp := hist_pop hA (by omega)
          have hxw : ((i + 1 : Nat) : Int) - 1 = (i : Int) := by omega
          go_wp2_with fail
          refine hL.mono ?_
          rintro e w2 ⟨rfl, rfl⟩
          go_wp2_with fail
          refine hPp.mono ?_
          rintro e w3 ⟨rfl, hA3, hz3⟩
          have hfx3 := hfx.chg hz3 (fun g hg h => (hFo g hg).2 (by simp at h ⊢; rcases h with h | h <;> simp [h]))
          have hlt3 := hA3.lt
          go_wp2_with (at_builtin; refine wpList_append_fix rfl _ _ 27 rfl Try.underlying27 hi j0 j1 j2 rfl (by omega) rfl (hfx3.alloc _) rfl (Src.one1 rfl) (by simp [Value.oneCell']) (by unfold maxLen; omega) (by omega) ?_; intro v' w4 F4 ha; have hz4 : Chg Fo w3 w4 := ((Chg.refl Fo w3).alloc _).trans' ha.chg; have hA4 := hA3.other hz4 hFo hLR; obtain ⟨gq, cq, d0, dq1, dq2, -, -, d2, -, -⟩ := hcells _ hA4.chg)
          have hfx4 : Fix w4 3 1 v' (out ++ [i + 1]).length (natVals (out ++ [i + 1])) F4 := by
            have := ha.fix
            rw [List.length_append, List.length_singleton]
            simpa [natVals] using this
          have hF4 : ∀ g ∈ F4, w.heap.size ≤ g ∧ g ∉ p :: bs :: F := by
            intro g hg
            rcases ha.foot with e | e
            · exact hFo g (by rw [← e]; exact hg)
            · rw [e] at hg
              have hs3 := hA3.chg.size
              simp only [World.size_alloc, List.mem_singleton] at hg
              subst hg
              refine ⟨by omega, fun hg => ?_⟩
              have := hlt3 _ hg
              omega
          clear hA hPp hL hA3 hfx hfx3 hFo hlt3 hz3 hz4 hcells hI
          go_loopw [50] (fun kv wr => ∃ (j : Nat) (S1 seen1 F1 : List Nat), j ≤ par.length ∧ kv = .int .i64 j ∧ Hid ((S1, seen1) = (par.take j).foldl (meetL (comsOf Q)) (S, seen)) ∧ HistAt w wr p lp bs Q R S1 seen1 F1 ∧ Fix wr 3 1 v' (out ++ [i + 1]).length (natVals (out ++ [i + 1])) F4 ∧ ∀ g ∈ F4, w.heap.size ≤ g ∧ g ∉ p :: bs :: F1) (fun kv _ => par.length - (intOf kv).toNat)
          case atStart => exact ⟨0, S, seen, F, by omega, rfl, Lib.hid rfl, hA4, hfx4, hF4⟩
          case round =>
            clear hA4 hF4 hfx4 ha d0 d2
            obtain ⟨j, S1, seen1, F1, hj, rfl, hst, hA1, hfx1, hF1⟩ := hrel
            by_cases hjl : j < par.length
            · have hmj := hml j
              rw [← hst.out, List.length_take, Nat.min_eq_left hj] at hmj
              dsimp only at hmj
              have hfold := foldl_take (meetL (comsOf Q)) (S, seen) _ hjl
              rw [← hst.out] at hfold
              obtain ⟨g', c', hB, -, -, -, hcj, -⟩ := (hpar.out.chg hA1.chg (by simp)).at_ (k := j) (j := 0) hjl (by omega)
              have hB' : B = some ⟨g', 0, none⟩ := by injection hB
              subst hB'
              have hcell : wr.cell? ⟨g', j, none⟩ = some (.int .i64 (par[j] : Nat)) := by
                rw [show j * 1 + 0 = j by omega] at hcj
                rw [hcj]
                simp [natVals, List.getElem?_eq_getElem hjl]
              clear hcj
              have hm := hist_meet hA1 (par[j] : Int) (by omega) (by omega) (by omega)
              simp only [Int.toNat_natCast] at hm
              have hltF := hfx1.lt
              have hp1 := hA1.lt
              generalize par[j] = id at *
              generalize meetL (comsOf Q) (S1, seen1) id = st at *
              obtain ⟨S2, seen2⟩ := st
              replace hfold := Lib.hid hfold
              clear hst hml hmj
              go_wp2_with (go_at_call 25; refine hm.mono ?_; rintro e w5 ⟨rfl, F5, hA5, hz5, hF5⟩)
              go_roundw
              case measure => simp [intOf]; omega
              case rel =>
                refine ⟨j + 1, S2, seen2, F5, by omega, by go_num, Lib.hid hfold.out.symm, hA5, hfx1.chg hz5 (fun g hg => (hF1 g hg).2), fun g hg => ⟨(hF1 g hg).1, fun hm => ?_⟩⟩
                have h1 := (hF1 g hg).2
                have h2 := hltF g hg
                simp only [List.mem_cons, not_or] at h1 hm
                rcases hm with hm | hm | hm
                · exact h1.1 hm
                · exact h1.2.1 hm
                · rcases hF5 g hm with e | e
                  · exact h1.2.2 e
                  · omega
            · obtain rfl : j = par.length := by omega
              rw [List.take_length] at hst
              rw [← hst.out] at hI2 hH2
              have hlo : (out ++ [i + 1]).length = out.length + 1 := by simp
              obtain ⟨A2, c2, rfl, -⟩ := id hfx1
              clear hml hst
              go_wp2_with fail
              go_roundw
              case measure => simp [lenV]; omega
              case rel => exact ⟨out ++ [i + 1], S1, seen1, F1, F4, hA1, hI2, hfx1, by rw [hlo, show Q.length + 1 - (out.length + 1) = Q.length - out.length by omega]; exact hH2, hF1⟩
end Go.Proofs.Ytaabkapjdmceaaa
