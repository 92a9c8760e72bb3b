/- Lineage: Add. -/
import Derived.Test.YtaabkapjdmceaaaLnG
import Derived.Test.YtaabkapjdmceaaaLnC1
namespace Go.Proofs.Ytaabkapjdmceaaa
open Go.RowKit Go.Vx Go.Maps
set_option linter.unusedVariables false
set_option linter.unusedSimpArgs false

def maxGen (C : Lin0) (l : List Nat) : Nat := l.foldl (fun g p => max g (genAt C p)) 0
theorem foldmax_le (C : Lin0) : ∀ (l : List Nat) (g : Nat), g ≤ l.foldl (fun g p => max g (genAt C p)) g ∧ ∀ p ∈ l, genAt C p ≤ l.foldl (fun g p => max g (genAt C p)) g
  | [], g => by simp
  | p :: l, g => by
    obtain ⟨h1, h2⟩ := foldmax_le C l (max g (genAt C p))
    rw [List.foldl_cons]
    refine ⟨by omega, fun q hq => ?_⟩
    rcases List.mem_cons.1 hq with rfl | hq
    · omega
    · exact h2 q hq
theorem foldmax_lt (C : Lin0) (m : Nat) : ∀ (l : List Nat) (g : Nat), g ≤ m → (∀ p ∈ l, genAt C p ≤ m) → l.foldl (fun g p => max g (genAt C p)) g ≤ m
  | [], g, h, _ => h
  | p :: l, g, h, hp => by
    rw [List.foldl_cons]
    exact foldmax_lt C m l _ (by have := hp p (by simp); omega) (fun q hq => hp q (by simp [hq]))
theorem comAt_old (C : Lin0) (x : Com) {id : Nat} (h : isThere C id = true) : comAt (C ++ [x]) id = comAt C id := by
  have hi := isThere_iff.1 h
  unfold comAt
  rw [at_eq (by simp; omega), at_eq (by omega), List.getElem_append_left]
theorem comAt_new (C : Lin0) (x : Com) : comAt (C ++ [x]) (C.length + 1) = x := by
  unfold comAt
  rw [Nat.add_sub_cancel, at_eq (by simp)]
  simp
theorem isThere_old {C : Lin0} {x : Com} {id : Nat} (h : isThere C id = true) : isThere (C ++ [x]) id = true := by
  have hi := isThere_iff.1 h
  exact isThere_iff.2 ⟨hi.1, by simp; omega⟩
theorem wf_push {C : Lin0} (hC : WfL C) {l : List Nat} (hl : ∀ p ∈ l, isThere C p = true) (root : Int) (author : ByteArray) : WfL (C ++ [⟨maxGen C l + 1, l, root, author⟩]) := by
  intro id hid p hp
  have hi := isThere_iff.1 hid
  simp only [List.length_append, List.length_singleton] at hi
  by_cases h : id ≤ C.length
  · have ht : isThere C id = true := isThere_iff.2 ⟨hi.1, h⟩
    unfold parAt at hp
    rw [comAt_old C _ ht] at hp
    obtain ⟨h1, h2, h3⟩ := hC id ht p hp
    refine ⟨isThere_old h1, h2, ?_⟩
    unfold genAt
    rw [comAt_old C _ ht, comAt_old C _ h1]
    exact h3
  · obtain rfl : id = C.length + 1 := by omega
    unfold parAt at hp
    rw [comAt_new] at hp
    have h1 := hl p hp
    have h2 := isThere_iff.1 h1
    refine ⟨isThere_old h1, by omega, ?_⟩
    unfold genAt
    rw [comAt_new, comAt_old C _ h1]
    have := (foldmax_le C l 0).2 p hp
    unfold maxGen
    simp only [genAt] at this ⊢
    omega
theorem Fix.len_eq {w : World} {e : TypeId} {size n m : Nat} {v : Value} {xs : List Value} {F : List Nat} (h : Fix w e size v n xs F) (he : m = n) : Fix w e size v m xs F := by
  subst he
  exact h
theorem lnCommitInfo : (Try.prog.info? 43).map (fun i => (i.zero, i.size, i.bytes)) = some (some (.agg #[.int .i64 0, .int .i64 0, .slice none 0 0, .int .i64 0, .string ⟨#[]⟩]), 5, 64) := by kernel_rfl
/-- A version is added. -/
theorem LinAt.push {w w' : World} {p : Nat} {Q : List LC} {R F1 F2 : List Nat} {A : Option Addr} {c : Nat} {com : Com} {pv : Value} (h : LinAt w p Q R)
    (hb : Blk w' p 26 #[.slice A (Q.length + 1) c]) (hf : Fix w' 43 5 (.slice A (Q.length + 1) c) (Q.length + 1) (Q.flatMap lcEnc ++ lcEnc ⟨Q.length + 1, com, pv, F1⟩) F2)
    (hp : Fix w' 3 1 pv com.par.length (natVals com.par) F1) (ho : ∀ q ∈ Q, q.At w') (hsz : w.heap.size ≤ w'.heap.size) (ht : ∀ x ∈ com.par, isThere (comsOf Q) x = true) (hgen : com.gen = maxGen (comsOf Q) com.par + 1) (h2 : com.par.length ≤ 2) :
    LinAt w' p (Q ++ [⟨Q.length + 1, com, pv, F1⟩]) (R ++ (F1 ++ F2)) := by
  have hl : (Q ++ [⟨Q.length + 1, com, pv, F1⟩] : List LC).length = Q.length + 1 := by simp
  refine ⟨⟨_, F2, hb, ?_, by simp +contextual⟩, ?_, ?_, ?_, ?_, ?_, ?_, ?_⟩
  · rw [hl, List.flatMap_append]
    simpa using hf
  · intro q hq
    rcases List.mem_append.1 hq with hq | hq
    · exact ho q hq
    · obtain rfl := List.mem_singleton.1 hq
      exact hp
  · intro q hq g hg
    rcases List.mem_append.1 hq with hq | hq
    · have := h.foot q hq g hg
      simp [this]
    · obtain rfl := List.mem_singleton.1 hq
      simp only [List.mem_append]
      exact .inr (.inl hg)
  · intro g hg
    rcases List.mem_append.1 hg with hg | hg
    · have := h.lt g hg
      omega
    · rcases List.mem_append.1 hg with hg | hg
      · exact hp.lt g hg
      · exact hf.lt g hg
  · intro k hk
    by_cases hq : k < Q.length
    · rw [List.getElem_append_left hq]
      exact h.ids k hq
    · rw [hl] at hk
      obtain rfl : k = Q.length := by omega
      simp
  · have := wf_push h.wf ht com.root com.author
    rw [← hgen] at this
    rw [List.map_append]
    exact this
  · intro q hq
    rcases List.mem_append.1 hq with hq | hq
    · exact h.gens q hq
    · obtain rfl := List.mem_singleton.1 hq
      show com.gen ≤ Q.length + 1
      rw [hgen]
      have := foldmax_lt (comsOf Q) Q.length com.par 0 (Nat.zero_le _) fun x hx => by
        have h1 := isThere_iff.1 (ht x hx)
        simp only [List.length_map] at h1
        obtain ⟨i, rfl⟩ : ∃ i, x = i + 1 := ⟨x - 1, by omega⟩
        obtain ⟨e1, -, e3⟩ := h.gen_at (k := i) (by omega)
        omega
      unfold maxGen
      omega
  · intro q hq
    rcases List.mem_append.1 hq with hq | hq
    · exact h.two q hq
    · obtain rfl := List.mem_singleton.1 hq
      exact h2
set_option maxRecDepth 100000 in
set_option maxHeartbeats 16000000 in
theorem ln_add {w : World} {lp : Nat} {Q : List LC} {R : List Nat} (h : LinAt w lp Q R) (hQ : Q.length ≤ 400) {A : Option Addr} {n c : Nat} {l F0 : List Nat} (hs : Fix w 3 1 (.slice A n c) n (natVals l) F0) (root : Int) (author : ByteArray) (hr : 0 ≤ root) (ha1 : 1 ≤ author.size) (ha2 : author.size ≤ 12)
    (hn : n ≤ 2) (hnd : l.Nodup) (hth : ∀ p ∈ l, isThere (comsOf Q) p = true) :
    Calls Try.prog 8 #[.pointer (some ⟨lp, 0, none⟩), .int .i64 root, .string author, .slice A n c] w fun e w' => (Q.length = 400 → e = .returned (.tuple #[.int .i64 0, .int .i64 13]) ∧ Chg [] w w') ∧
      (Q.length < 400 → e = .returned (.tuple #[.int .i64 ((Q.length + 1 : Nat) : Int), .int .i64 0]) ∧ ∃ v F1 F2, LinAt w' lp (Q ++ [⟨Q.length + 1, ⟨maxGen (comsOf Q) l + 1, l, root, author⟩, v, F1⟩]) (R ++ (F1 ++ F2)) ∧ Chg (lp :: R) w w' ∧ ∀ g ∈ F1 ++ F2, g ∈ R ∨ w.heap.size ≤ g) := by
  obtain ⟨i0, hi, hz0, hz1i, hz2'⟩ := info_parts lnCommitInfo
  have hl : l.length = n := by obtain ⟨_, _, _, h1, -⟩ := hs; simpa [natVals] using h1
  have hcell : ∀ k, (hk : k < l.length) → ∃ g, A = some ⟨g, 0, none⟩ ∧ w.cell? ⟨g, k, none⟩ = some (.int .i64 (l[k] : Nat)) := by
    intro k hk
    obtain ⟨g, c', hB, -, -, -, hc, -⟩ := hs.at_ (k := k) (j := 0) (by omega) (by omega)
    refine ⟨g, by injection hB, ?_⟩
    rw [show k * 1 + 0 = k by omega] at hc
    rw [hc, natVals, List.getElem?_map, List.getElem?_eq_getElem hk]
    rfl
  have hd : (∃ (x y : Nat) (g : Nat), n = 2 ∧ A = some ⟨g, 0, none⟩ ∧ w.cell? ⟨g, 0, none⟩ = some (.int .i64 (x : Nat)) ∧ w.cell? ⟨g, 1, none⟩ = some (.int .i64 (y : Nat)) ∧ ¬ (x : Int) = y) ∨ n = 1 ∨ n = 0 := by
    match l, hl, hcell with
    | [x, y], h, hcell =>
      obtain ⟨g, rfl, h3⟩ := hcell 0 (by simp)
      obtain ⟨g', hg, h4⟩ := hcell 1 (by simp)
      cases hg
      exact .inl ⟨x, y, g, by simpa using h.symm, rfl, h3, h4, by
        have : x ≠ y := by simpa using hnd
        omega⟩
    | [], h, _ => exact .inr (.inr (by simpa using h.symm))
    | [x], h, _ => exact .inr (.inl (by simpa using h.symm))
    | x :: y :: z :: l, h, _ => simp at h; omega
  obtain ⟨B, cq, c0, hb, hq1, hq2, Ft, hft, hFt, hne⟩ := h.head
  have hfz : w.frozen? ⟨lp, 0, none⟩ = false := hb.frozen 0
  have hlen : ∀ p ∈ l, genAt (comsOf Q) p ≤ 400 := by
    intro x hx
    have h1 := hth _ hx
    have h2 := isThere_iff.1 h1
    rw [List.length_map] at h2
    obtain ⟨i, rfl⟩ : ∃ i, x = i + 1 := ⟨x - 1, by omega⟩
    obtain ⟨e1, -, e3⟩ := h.gen_at (k := i) (by omega)
    omega
  replace hl := Lib.hid hl
  have hzd : Chg [] w w.drew := (Chg.refl [] w).drew
  have hcd : ∀ a, w.drew.cell? a = w.cell? a := fun a => rfl
  go_enter Try.func8, Try.ntmps8
  rcases hd with ⟨x, y, g, rfl, rfl, d0, d1, hxy⟩ | rfl | rfl
  all_goals
    go_wp2_with fail
    go_region
    go_wp2_with fail
    try rw [show ((x : Int) == (y : Int)) = false by simpa using hxy]
    try clear d0 d1 hxy
    simp only [← hcd] at hcell c0
    have hW := h.keep hzd
    have hsW := hs.chg hzd (by simp)
    have hfW := hft.chg hzd (by simp)
    have hbW := hb.chg hzd (by simp)
    clear hcd h hs hft hb hfz
    have hfz : w.drew.frozen? ⟨lp, 0, none⟩ = false := hbW.frozen 0
    generalize w.drew = wd at *
    go_loopw [10, 12, 49] (fun gv _ kv wr => ∃ (k : Nat), k ≤ l.length ∧ kv = .int .i64 k ∧ gv = .int .i64 (maxGen (comsOf Q) (l.take k) : Nat) ∧ wd = wr) (fun _ _ kv _ => l.length - (intOf kv).toNat)
    case atStart => exact ⟨0, by omega, rfl, rfl, rfl⟩
    case round =>
      obtain ⟨k, hk, rfl, rfl, rfl⟩ := hrel
      by_cases hlt : k < l.length
      · obtain ⟨g, ha, hck⟩ := hcell k hlt
        cases ha
        have hm := hth _ (List.getElem_mem hlt)
        have hg := hlen _ (List.getElem_mem hlt)
        have hfold := foldl_take (fun g p => max g (genAt (comsOf Q) p)) 0 l hlt
        change maxGen (comsOf Q) (l.take (k + 1)) = max (maxGen (comsOf Q) (l.take k)) _ at hfold
        have hle : maxGen (comsOf Q) (l.take k) ≤ 400 := foldmax_lt _ _ _ _ (by omega) fun p hp => hlen p (List.mem_of_mem_take hp)
        have htm := isThere_iff.1 hm
        rw [List.length_map] at htm
        generalize l[k] = id at *
        obtain ⟨i, rfl⟩ : ∃ i, id = i + 1 := ⟨id - 1, by omega⟩
        have hT := ln_there hW (by omega) ((i + 1 : Nat) : Int)
        rw [thereI_nat, Int.toNat_natCast, hm] at hT
        obtain ⟨gq, cq', e0, -, -, -, e1, -, -, -⟩ := hW.cells (k := i) (by omega)
        obtain ⟨e2, -, -⟩ := hW.gen_at (k := i) (by omega)
        rw [← e2] at e1
        clear e2
        rw [e0] at c0
        cases c0
        generalize genAt (comsOf Q) (i + 1) = gi at *
        generalize maxGen (comsOf Q) (l.take k) = mg at *
        have hxw : ((i + 1 : Nat) : Int) - 1 = (i : Int) := by omega
        have hlt2 := hlt
        rw [hl.out] at hlt2
        replace hfold := Lib.hid hfold
        first
          | exact absurd hlt2 (Nat.not_lt_zero _)
          | (go_wp2_with fail
             refine hT.mono ?_
             rintro e w2 ⟨rfl, rfl⟩
             go_wp2_with fail
             go_roundw
             case measure => simp [intOf]; omega
             case rel => exact ⟨k + 1, by omega, by go_num, by rw [hfold.out, show ((max mg gi : Nat) : Int) = max (mg : Int) gi by omega], by first | trivial | rfl⟩)
      · have htk : l.take k = l := List.take_of_length_le (by omega)
        rw [htk]
        obtain ⟨k', hk3, hkl⟩ : ∃ k', k = k' ∧ k' = l.length := ⟨k, rfl, by omega⟩
        rw [hl.out] at hkl
        subst hkl
        subst hk3
        clear hcell htk
        have hle : maxGen (comsOf Q) l ≤ 400 := foldmax_lt _ _ _ _ (by omega) hlen
        have hth' := Lib.hid hth
        clear hth hlen hlt
        by_cases hfull : Q.length = 400
        · go_wp2_with fail
          go_ret2
          exact ⟨fun _ => ⟨rfl, hzd⟩, fun h => by omega⟩
        · have hlt : Q.length < 400 := by omega
          obtain ⟨G, hG, hGl⟩ : ∃ G, maxGen (comsOf Q) l = G ∧ G ≤ 400 := ⟨_, rfl, hle⟩
          rw [hG]
          replace hG := Lib.hid hG
          have hGw : IntKind.i64.wrap ((G : Int) + 1) = (G : Int) + 1 := by rw [IntKind.wrap_i64]; omega
          clear hle
          go_wp2_with fail
          rw [show (Q.length : Int) + 1 = ((Q.length + 1 : Nat) : Int) by omega]
          go_region_law (first
            | (go_simp; go_at_call 19; refine (cloneInts (Fix.src (hsW.drew)) (oneNats _) (by omega)).mono ?_; rintro e w1 ⟨v1, F1, rfl, hf1, hz1, hF1⟩; obtain ⟨A1, d1, rfl, -⟩ := id hf1; have hb1 := hbW.drew.chg hz1 (by simp); have c1 : w1.cell? ⟨lp, 0, none⟩ = some (.slice B Q.length cq) := hb1.cell 0)
            | (go_simp; go_at_call 20; refine (strClone _ _ (by omega)).mono ?_; rintro e w2 ⟨rfl, hz2⟩; have hb2 := hb1.chg hz2 (by simp); have c2 : w2.cell? ⟨lp, 0, none⟩ = some (.slice B Q.length cq) := hb2.cell 0; have c2a := cell_al c2)
            | (refine step_append_fix rfl (.tmp 85) (.tmp 95) 24 rfl Try.underlying24 hi hz0 hz1i hz2' rfl (by omega) rfl (((hfW.drew.chg hz1 (by simp)).chg hz2 (by simp)).alloc _) rfl (Src.lit (m := 1) (by simp) (by simp)) (by simp [Value.oneCell']) (by unfold maxLen; omega) (by omega) ?_; intro v' w3 F2 ha; obtain ⟨g2, cc2, rfl, rfl⟩ := ha.head (by omega); have hb3 := (hb2.alloc _).chg ha.chg hne; have c3 : w3.cell? ⟨lp, 0, none⟩ = some (.slice B Q.length cq) := hb3.cell 0; have f3 : w3.frozen? ⟨lp, 0, none⟩ = false := hb3.frozen 0))
          all_goals
            have hz' : Chg (lp :: Ft) wd (w3.setCell ⟨lp, 0, none⟩ (.slice (some ⟨g2, 0, none⟩) (Q.length + 1) cc2)) := ((((((Chg.refl (lp :: Ft) wd).drew.trans' (hz1.mono (by simp))).trans' (hz2.mono (by simp))).alloc _).trans' (ha.chg.mono (by simp +contextual)))).setCell (p := ⟨lp, 0, none⟩) (by simp) (.slice (some ⟨g2, 0, none⟩) (Q.length + 1) cc2)
            have hz13 : Chg (lp :: Ft) w1 (w3.setCell ⟨lp, 0, none⟩ (.slice (some ⟨g2, 0, none⟩) (Q.length + 1) cc2)) := (((hz2.mono (by simp)).alloc _).trans' (ha.chg.mono (by simp +contextual))).setCell (p := ⟨lp, 0, none⟩) (by simp) (.slice (some ⟨g2, 0, none⟩) (Q.length + 1) cc2)
            have hfx := ha.fix.far_blk hb3 (by decide) 0 (.slice (some ⟨g2, 0, none⟩) (Q.length + 1) cc2)
            have hbx := hb3.set_ 0 (.slice (some ⟨g2, 0, none⟩) (Q.length + 1) cc2)
            have hf1' := hf1.chg hz13 (fun g hg hm => by
              rcases List.mem_cons.1 hm with rfl | hm
              · exact hf1.ne_blk hb1 (by decide) hg
              · exact (hf1.disj (hfW.drew.chg hz1 (by simp)) (by decide)) g hg hm)
            have hF2 : ∀ g ∈ [g2], g ∈ R ∨ w.heap.size ≤ g := by
              intro g hg
              have e1 := hzd.size
              have e2 := hz1.size
              have e3 := hz2.size
              rcases ha.foot with e | e
              · rw [e] at hg
                exact .inl (hFt g hg)
              · rw [e] at hg
                simp at hg e2
                omega
            have hF1' : ∀ g ∈ F1, w.heap.size ≤ g := fun g hg => by
              have e1 := hzd.size
              have e2 := hF1 g hg
              simp at e2
              omega
            have heach : ∀ q ∈ Q, q.At (w3.setCell ⟨lp, 0, none⟩ (.slice (some ⟨g2, 0, none⟩) (Q.length + 1) cc2)) := fun q hq => by
              have hq' : Fix wd 3 1 q.pv q.com.par.length (natVals q.com.par) q.pF := hW.each q hq
              exact hq'.chg hz' (fun g hg hm => by
                rcases List.mem_cons.1 hm with rfl | hm
                · exact hq'.ne_blk hbW (by decide) hg
                · exact (hq'.disj hfW (by decide)) g hg hm)
            have hzz := (hzd.mono (by simp)).trans' (hz'.mono (F := lp :: Ft) (G := lp :: R) (fun g hg => by
              rcases List.mem_cons.1 hg with rfl | hg
              · simp
              · simp [hFt g hg]))
            clear ha hz13 hb1 hb2 hb3 c1 c2 c2a c3 f3 hf1 hz1 hz2
            generalize w3.setCell ⟨lp, 0, none⟩ (.slice (some ⟨g2, 0, none⟩) (Q.length + 1) cc2) = w4 at *
            go_wp2_with fail
            go_ret2
            refine ⟨by first | rfl | (push_cast; rfl), _, F1, [g2], LinAt.push (com := ⟨maxGen (comsOf Q) l + 1, l, root, author⟩) hW hbx ?_ (Fix.len_eq hf1' hl.out) heach hz'.size hth'.out rfl (by show l.length ≤ 2; rw [hl.out]; omega), hzz, ?_⟩
            · rw [hG.out]
              simpa [lcEnc, hGw] using hfx
            · intro g hg
              have hg' : g ∈ F1 ∨ g ∈ [g2] := by first | exact hg | exact List.mem_append.1 hg
              rcases hg' with hg | hg
              · exact .inr (hF1' g hg)
              · exact hF2 g hg
end Go.Proofs.Ytaabkapjdmceaaa
