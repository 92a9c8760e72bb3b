/- Lineage: Len, Is, the bases. -/
import Derived.Test.YtaabkapjdmceaaaLnG
import Derived.Test.YtaabkapjdmceaaaShelf
import Derived.Laws.ResultCell
namespace Go.Proofs.Ytaabkapjdmceaaa
open Go.RowKit Go.Vx Go.Maps
set_option linter.unusedVariables false
set_option linter.unusedSimpArgs false

theorem hist_there {C : Lin0} (hC : WfL C) {ids : List Nat} {x : Nat} (h : x ∈ hist C ids) : isThere C x = true := by
  obtain ⟨id, -, hi, ha⟩ := (hist_spec hC ids).2 x |>.1 h
  exact (ha.there hC hi).1
theorem hist_lenC {C : Lin0} (hC : WfL C) (ids : List Nat) : (hist C ids).length ≤ C.length := by
  refine len_there ?_ fun x hx => hist_there hC hx
  exact (hist_spec hC ids).1.imp fun {a b} h e => by rw [e, (lnLin C).irr] at h; cases h
theorem contains_nat {l : List Nat} (h0 : 0 ∉ l) (x : Int) : (l.map fun n : Nat => (n : Int)).contains x = l.contains x.toNat := by
  rw [Bool.eq_iff_iff, List.contains_iff_mem, List.contains_iff_mem, List.mem_map]
  constructor
  · rintro ⟨n, hn, rfl⟩
    simpa using hn
  · intro h
    refine ⟨x.toNat, h, ?_⟩
    have : x.toNat ≠ 0 := fun e => h0 (by rwa [e] at h)
    omega
theorem ln_contains {w : World} {A : Option Addr} {n c : Nat} {l F : List Nat} (h : Fix w 3 1 (.slice A n c) n (natVals l) F) (h0 : 0 ∉ l) (x : Int) (hn : n ≤ 1000000) :
    Calls Try.prog 28 #[.slice A n c, .int .i64 x] w fun e w' => e = .returned (.bool (l.contains x.toNat)) ∧ w' = w := by
  have hl : l.length = n := by obtain ⟨_, _, _, h1, -⟩ := h; simpa [natVals] using h1
  rw [← contains_nat h0]
  rcases Nat.eq_zero_or_pos n with hz | hz
  · subst hz
    have : l = [] := List.eq_nil_of_length_eq_zero hl
    subst this
    exact Try.slices_Contains_int_empty _ _ _ _
  · obtain ⟨g, c', hB, -, -, -, -, -⟩ := h.at_ (k := 0) (j := 0) hz (by omega)
    cases hB
    have := Try.slices_Contains_int g 0 n c (l.map fun n : Nat => (n : Int)) x w (by simp [hl]) (by omega) (fun j hj => by
      obtain ⟨g', c', hB, -, -, -, hc, -⟩ := h.at_ (k := j) (j := 0) (by simpa [hl] using hj) (by omega)
      cases hB
      rw [show j * 1 + 0 = 0 + j by omega] at hc
      rw [hc, natVals]
      simp only [List.length_map] at hj
      rw [Nat.zero_add, List.getElem?_map, List.getElem?_eq_getElem hj, List.getD_eq_getElem?_getD, List.getElem?_map, List.getElem?_eq_getElem hj]
      rfl)
    rwa [List.take_of_length_le (by simp [hl])] at this
section
variable {w : World} {lp : Nat} {Q : List LC} {R : List Nat}
theorem ln_len (h : LinAt w lp Q R) : Calls Try.prog 9 #[.pointer (some ⟨lp, 0, none⟩)] w fun e w' => e = .returned (.int .i64 Q.length) ∧ w = w' := by
  obtain ⟨A, c, c0, -⟩ := h.head
  go_enter Try.func9, Try.ntmps9
  go_wp2
  go_ret
  exact ⟨rfl, rfl⟩
/-- The history of one. -/
theorem ln_one (h : LinAt w lp Q R) (hQ : Q.length ≤ 400) (id : Int) :
    Calls Try.prog 15 #[.pointer (some ⟨lp, 0, none⟩), .slice (some ⟨w.heap.size, 0, none⟩) 1 1] (w.alloc (.cells #[.int .i64 id] 3)) fun e w' => ∃ v F, e = .returned v ∧ Fix w' 3 1 v (hist (comsOf Q) [id.toNat]).length (natVals (hist (comsOf Q) [id.toNat])) F ∧ (∀ g ∈ F, w.heap.size ≤ g) ∧ Chg [] w w' := by
  have ha : Chg [] w (w.alloc (.cells #[.int .i64 id] 3)) := (Chg.refl _ _).alloc _
  refine (ln_history (h.keep ha) hQ (l := [id]) (Src.one1 rfl) (by omega)).mono ?_
  rintro e w' ⟨v, F, rfl, h1, h2, h3⟩
  refine ⟨v, F, rfl, h1, fun g hg => ?_, ha.trans' h3⟩
  have := h2 g hg
  simp at this
  omega
theorem no_zero (h : LinAt w lp Q R) (ids : List Nat) : 0 ∉ hist (comsOf Q) ids := fun hm => by
  have := isThere_iff.1 (hist_there h.wf hm)
  omega
theorem hist_le (h : LinAt w lp Q R) (hQ : Q.length ≤ 400) (ids : List Nat) : (hist (comsOf Q) ids).length ≤ 400 := by
  have := hist_lenC h.wf ids
  have e : (comsOf Q).length = Q.length := List.length_map _
  rw [e] at this
  exact Nat.le_trans this hQ
theorem ln_is (h : LinAt w lp Q R) (hQ : Q.length ≤ 400) (elder id : Int) :
    Calls Try.prog 16 #[.pointer (some ⟨lp, 0, none⟩), .int .i64 elder, .int .i64 id] w fun e w' => e = .returned (.bool (isL (comsOf Q) elder.toNat id.toNat)) ∧ Chg [] w w' := by
  have h1 := ln_one h hQ id
  have h0 := no_zero h [id.toNat]
  have hl := hist_le h hQ [id.toNat]
  unfold isL
  generalize hist (comsOf Q) [id.toNat] = H at *
  obtain ⟨b, hb⟩ : ∃ b, b = H.contains elder.toNat := ⟨_, rfl⟩
  rw [← hb]
  replace hb := Lib.hid hb
  go_enter Try.func16, Try.ntmps16
  go_wp2_with fail
  refine h1.mono ?_
  rintro e w1 ⟨v, F, rfl, hf, hF, hz⟩
  obtain ⟨A, c, rfl, -⟩ := _root_.id hf
  have hc := ln_contains hf h0 elder (by omega)
  rw [← hb.out] at hc
  go_wp2_with fail
  refine hc.mono ?_
  rintro e w2 ⟨rfl, rfl⟩
  go_wp2_with fail
  go_ret
  exact ⟨rfl, hz⟩
set_option maxRecDepth 100000 in
set_option maxHeartbeats 16000000 in
theorem ln_bases (h : LinAt w lp Q R) (hQ : Q.length ≤ 400) (a b : Int) :
    Calls Try.prog 22 #[.pointer (some ⟨lp, 0, none⟩), .int .i64 a, .int .i64 b] w fun e w' => ∃ v F, e = .returned v ∧ Fix w' 3 1 v (basesL (comsOf Q) a.toNat b.toNat).length (natVals (basesL (comsOf Q) a.toNat b.toNat)) F ∧ (∀ g ∈ F, w.heap.size ≤ g) ∧ Chg [] w w' := by
  obtain ⟨i0, hi, j0, j1, j2⟩ := info_parts lnIntInfo
  have h1 := ln_one h hQ b
  have h2 := fun w' (k : Chg [] w w') => ln_one (h.keep k) hQ a
  have hK := fun w' (k : Chg [] w w') => h.keep k
  have hH := fun w' (k : Chg [] w w') A c (o : List Nat) Fo (hf : Fix w' 3 1 (.slice A o.length c) o.length (natVals o) Fo) (ho : o.length ≤ 1000) => ln_history (h.keep k) hQ (l := o.map fun n : Nat => (n : Int)) (c := c) (by simpa [natVals, Function.comp_def] using Fix.src hf) (by omega)
  simp only [List.map_map, Function.comp_def, Int.toNat_natCast, List.map_id'] at hH
  have a0 := no_zero h [b.toNat]
  have c0 := fun o => no_zero h o
  have l0 := hist_le h hQ [b.toNat]
  have l1 := hist_le h hQ [a.toNat]
  have l2 := fun o => hist_le h hQ o
  have hB : Hid (∀ o id, baseStep (comsOf Q) b.toNat o id = if (hist (comsOf Q) [b.toNat]).contains id && !(hist (comsOf Q) o).contains id then o ++ [id] else o) := Lib.hid fun o id => rfl
  have hD : Hid (basesL (comsOf Q) a.toNat b.toNat = (hist (comsOf Q) [a.toNat]).foldl (baseStep (comsOf Q) b.toNat) []) := Lib.hid rfl
  generalize basesL (comsOf Q) a.toNat b.toNat = D at *
  generalize hist (comsOf Q) [a.toNat] = Ha at *
  generalize hist (comsOf Q) [b.toNat] = Hb at *
  generalize baseStep (comsOf Q) b.toNat = st at *
  go_enter Try.func22, Try.ntmps22
  go_wp2_with fail
  refine h1.mono ?_
  rintro e w1 ⟨vB, FB, rfl, hfB, hFB, hz1⟩
  obtain ⟨AB, cB, rfl, -⟩ := id hfB
  go_wp2_with fail
  refine (h2 _ hz1).mono ?_
  rintro e w2 ⟨vA, FA, rfl, hfA, hFA, hz2⟩
  obtain ⟨AA, cA, rfl, -⟩ := id hfA
  replace hfB := hfB.chg hz2 (by simp)
  replace hFA : ∀ g ∈ FA, w.heap.size ≤ g := fun g hg => by
    have := hFA g hg
    have := hz1.size
    omega
  replace hz2 := hz1.trans' hz2
  clear h1 h2 hz1
  go_wp2_with fail
  go_loopw [8, 20] (fun ov kv wr => ∃ (k : Nat) (out Fo : List Nat), k ≤ Ha.length ∧ kv = .int .i64 k ∧ Hid (out = (Ha.take k).foldl st []) ∧ out.length ≤ k ∧ Fix wr 3 1 ov out.length (natVals out) Fo ∧ Fix wr 3 1 (.slice AA Ha.length cA) Ha.length (natVals Ha) FA ∧ Fix wr 3 1 (.slice AB Hb.length cB) Hb.length (natVals Hb) FB ∧ (∀ g ∈ Fo, w.heap.size ≤ g ∧ g ∉ FA ∧ g ∉ FB) ∧ Chg [] w wr) (fun _ kv _ => Ha.length - (intOf kv).toNat)
  case atStart => exact ⟨0, [], [], by omega, rfl, Lib.hid rfl, by simp, Fix.nil _ _ _, hfA, hfB, by simp, hz2⟩
  case round =>
    clear hfA hfB hz2
    obtain ⟨k, out, Fo, hk, rfl, hout, hol, hfo, hfA, hfB, hFo, hz⟩ := hrel
    obtain ⟨Ao, co, rfl, -⟩ := id hfo
    by_cases hlt : k < Ha.length
    · obtain ⟨g', c', hBq, -, -, -, hcj, -⟩ := hfA.at_ (k := k) (j := 0) hlt (by omega)
      have hB' : AA = some ⟨g', 0, none⟩ := by injection hBq
      subst hB'
      clear hBq
      have hcell : wr.cell? ⟨g', k, none⟩ = some (.int .i64 (Ha[k] : Nat)) := by
        rw [show k * 1 + 0 = k by omega] at hcj
        rw [hcj]
        simp [natVals, List.getElem?_eq_getElem hlt]
      clear hcj
      have hfold := foldl_take st [] Ha hlt
      rw [← hout.out, hB.out] at hfold
      generalize Ha[k] = id at *
      have hcB := ln_contains hfB a0 (id : Int) (by omega)
      rw [Int.toNat_natCast] at hcB
      replace hfold := Lib.hid hfold
      cases hb : Hb.contains id with
      | false =>
        rw [hb] at hcB hfold
        have hf2 : (Ha.take (k + 1)).foldl st [] = out := by rw [hfold.out]; rfl
        replace hf2 := Lib.hid hf2.symm
        clear hfold hout
        go_wp2_with fail
        refine hcB.mono ?_
        rintro e w3 ⟨rfl, rfl⟩
        go_wp2_with fail
        go_roundw
        case measure => simp [intOf]; omega
        case rel => exact ⟨k + 1, out, Fo, by omega, by go_num, hf2, by omega, hfo, hfA, hfB, hFo, hz⟩
      | true =>
        rw [hb] at hcB hfold
        have hh := hH _ hz Ao co out Fo hfo (by omega)
        have hk0 := c0 out
        have hk2 := l2 out
        generalize hist (comsOf Q) out = Ho at *
        go_wp2_with fail
        refine hcB.mono ?_
        rintro e w3 ⟨rfl, rfl⟩
        go_wp2_with fail
        refine hh.mono ?_
        rintro e w4 ⟨vh, Fh, rfl, hfh, -, hz4⟩
        obtain ⟨Ah, ch, rfl, -⟩ := _root_.id hfh
        have hcH := ln_contains hfh hk0 (id : Int) (by omega)
        rw [Int.toNat_natCast] at hcH
        replace hfo := hfo.chg hz4 (by simp)
        replace hfA := hfA.chg hz4 (by simp)
        replace hfB := hfB.chg hz4 (by simp)
        replace hz4 := hz.trans' hz4
        cases hb2 : Ho.contains id with
        | true =>
          rw [hb2] at hcH hfold
          have hf2 : (Ha.take (k + 1)).foldl st [] = out := by rw [hfold.out]; rfl
          replace hf2 := Lib.hid hf2.symm
          clear hfold hout
          go_wp2_with fail
          refine hcH.mono ?_
          rintro e w5 ⟨rfl, rfl⟩
          go_wp2_with fail
          go_roundw
          case measure => simp [intOf]; omega
          case rel => exact ⟨k + 1, out, Fo, by omega, by go_num, hf2, by omega, hfo, hfA, hfB, hFo, hz4⟩
        | false =>
          rw [hb2] at hcH hfold
          have hf2 : (Ha.take (k + 1)).foldl st [] = out ++ [id] := by rw [hfold.out]; rfl
          replace hf2 := Lib.hid hf2.symm
          clear hfold hout
          go_wp2_with fail
          refine hcH.mono ?_
          rintro e w5 ⟨rfl, rfl⟩
          have hA1 := hfA.lt
          have hB1 := hfB.lt
          go_wp2_with (at_builtin; refine wpList_append_fix rfl _ _ 27 rfl Try.underlying27 hi j0 j1 j2 rfl (by omega) rfl (hfo.alloc _) rfl (Src.one1 rfl) (by simp [Value.oneCell']) (by unfold maxLen; omega) (by omega) ?_; intro v' w6 F6 ha)
          have hz6 := ((Chg.refl Fo w5).alloc (.cells #[.int .i64 (id : Int)] 3)).trans' ha.chg
          have hF6 : ∀ g ∈ F6, w.heap.size ≤ g ∧ g ∉ FA ∧ g ∉ FB := by
            intro g hg
            rcases ha.foot with e | e
            · rw [e] at hg
              exact hFo g hg
            · rw [e] at hg
              have := hz4.size
              simp at hg
              refine ⟨by omega, fun hm => ?_, fun hm => ?_⟩
              · have := hA1 g hm
                omega
              · have := hB1 g hm
                omega
          have hf6 : Fix w6 3 1 v' (out ++ [id]).length (natVals (out ++ [id])) F6 := by
            have := ha.fix
            rw [List.length_append, List.length_singleton]
            simpa [natVals] using this
          have hfA6 := hfA.chg hz6 (fun g hg hm => (hFo g hm).2.1 hg)
          have hfB6 := hfB.chg hz6 (fun g hg hm => (hFo g hm).2.2 hg)
          have hz7 := hz4.trans hz6 (fun g hg => .inr (hFo g hg).1)
          go_roundw
          case measure => simp [intOf]; omega
          case rel => exact ⟨k + 1, out ++ [id], F6, by omega, by go_num, hf2, by simp; omega, hf6, hfA6, hfB6, hF6, hz7⟩
    · obtain rfl : k = Ha.length := by omega
      rw [List.take_length] at hout
      rw [← hout.out] at hD
      obtain rfl := hD.out
      clear hD hout
      go_wp2_with fail
      go_ret
      exact ⟨_, Fo, rfl, hfo, fun g hg => (hFo g hg).1, hz⟩
end
end Go.Proofs.Ytaabkapjdmceaaa
