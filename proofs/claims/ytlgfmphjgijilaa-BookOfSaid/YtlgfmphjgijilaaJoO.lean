/- Journals: Post. -/
import Derived.Test.YtlgfmphjgijilaaJoP
namespace Go.Proofs.Ytlgfmphjgijilaa
open Go.RowKit Go.Vx
set_option linter.unusedVariables false
set_option linter.unusedSimpArgs false

/-- One more, in its place. -/
def insJ (Q : List JV) (x : JV) : List JV :=
  match Q with
  | [] => [x]
  | q :: Q => if q.j.id < x.j.id then q :: insJ Q x else x :: q :: Q
theorem insJ_at (x : JV) : ∀ (Q : List JV) (i : Nat), i ≤ Q.length → (∀ k, (hk : k < Q.length) → k < i → Q[k].j.id < x.j.id) → (∀ k, (hk : k < Q.length) → i ≤ k → x.j.id ≤ Q[k].j.id) → Q.take i ++ (x :: Q.drop i) = insJ Q x
  | [], i, hi, _, _ => by simp at hi; subst hi; rfl
  | q :: Q, 0, _, _, h => by
    have := h 0 (by simp) (Nat.le_refl _)
    simp only [List.getElem_cons_zero] at this
    simp only [insJ, List.take_zero, List.drop_zero, List.nil_append]
    rw [if_neg (by omega)]
  | q :: Q, i + 1, hi, h1, h2 => by
    have := h1 0 (by simp) (by omega)
    simp only [List.getElem_cons_zero] at this
    simp only [insJ, List.take_succ_cons, List.drop_succ_cons, List.cons_append]
    rw [if_pos this, insJ_at x Q i (by simpa using hi) (fun k hk hk2 => by have := h1 (k + 1) (by simpa using hk) (by omega); simpa using this) (fun k hk hk2 => by have := h2 (k + 1) (by simpa using hk) (by omega); simpa using this)]
theorem mem_insJ {x y : JV} : ∀ {Q : List JV}, y ∈ insJ Q x ↔ y = x ∨ y ∈ Q
  | [] => by simp [insJ]
  | q :: Q => by
    unfold insJ
    split
    · rw [List.mem_cons, mem_insJ, List.mem_cons]
      constructor
      · rintro (h | h | h)
        · exact .inr (.inl h)
        · exact .inl h
        · exact .inr (.inr h)
      · rintro (h | h | h)
        · exact .inr (.inl h)
        · exact .inl h
        · exact .inr (.inr h)
    · simp
theorem len_insJ (x : JV) : ∀ Q : List JV, (insJ Q x).length = Q.length + 1
  | [] => rfl
  | q :: Q => by unfold insJ; split <;> simp [len_insJ x Q]
theorem foundB_no {Q : List JV} {id : Int} (h : foundB Q id = false) : ∀ q ∈ Q, q.j.id ≠ id := fun q hq he => by
  have : foundB Q id = true := List.any_eq_true.2 ⟨q, hq, by simp [he]⟩
  rw [h] at this
  cases this
theorem srt_insJ {x : JV} : ∀ {Q : List JV}, SrtJ Q → (∀ q ∈ Q, q.j.id ≠ x.j.id) → SrtJ (insJ Q x)
  | [], _, _ => by simp [insJ, SrtJ]
  | q :: Q, h, hn => by
    unfold SrtJ at h
    rw [List.pairwise_cons] at h
    unfold insJ
    have h0 := hn q (by simp)
    split
    · rename_i hlt
      unfold SrtJ
      rw [List.pairwise_cons]
      refine ⟨fun y hy => ?_, srt_insJ h.2 (fun y hy => hn y (by simp [hy]))⟩
      rcases mem_insJ.1 hy with rfl | hy
      · exact hlt
      · exact h.1 y hy
    · unfold SrtJ
      rw [List.pairwise_cons]
      refine ⟨fun y hy => ?_, List.pairwise_cons.2 h⟩
      rcases List.mem_cons.1 hy with rfl | hy
      · omega
      · have := h.1 y hy; omega
theorem ids_insJ {Q : List JV} {x : JV} (h : Ids Q) (hx : 1 ≤ x.j.id ∧ x.j.id ≤ 999999) : Ids (insJ Q x) := fun y hy => by
  rcases mem_insJ.1 hy with rfl | hy
  · exact hx
  · exact h y hy
theorem jv_take (Q : List JV) (i : Nat) (hi : i ≤ Q.length) : (Q.flatMap jvEnc).take (i * 6) = (Q.take i).flatMap jvEnc ∧ (Q.flatMap jvEnc).drop (i * 6) = (Q.drop i).flatMap jvEnc := by
  have e : Q.flatMap jvEnc = (Q.take i).flatMap jvEnc ++ (Q.drop i).flatMap jvEnc := by rw [← List.flatMap_append, List.take_append_drop]
  have l : ((Q.take i).flatMap jvEnc).length = i * 6 := by rw [flatMap_len jvEnc_len, List.length_take, Nat.min_eq_left hi]
  rw [e]
  exact ⟨by rw [List.take_append_of_le_length (by omega), List.take_of_length_le (by omega)], by rw [List.drop_append_of_le_length (by omega), List.drop_eq_nil_of_le (by omega), List.nil_append]⟩
theorem one_jv {x : JV} (h : x.pv.oneCell' = true) : ∀ u ∈ jvEnc x, u.oneCell' = true := fun u hu => by
  simp only [jvEnc, List.mem_cons, List.not_mem_nil, or_false] at hu
  rcases hu with rfl | rfl | rfl | rfl | rfl | rfl
  all_goals first | rfl | exact h
theorem fix_one {w : World} {e : TypeId} {size n : Nat} {v : Value} {xs : List Value} {F : List Nat} (h : Fix w e size v n xs F) : v.oneCell' = true := by
  obtain ⟨A, c, rfl, _⟩ := h
  rfl
theorem BAt.one {w : World} {p : Nat} {Q : List JV} {R : List Nat} (h : BAt w p Q R) : ∀ u ∈ Q.flatMap jvEnc, u.oneCell' = true := fun u hu => by
  obtain ⟨q, hq, hu⟩ := List.mem_flatMap.1 hu
  exact one_jv (fix_one (h.each q hq)) u hu
/-- The book behind Post's store. -/
theorem BAt.ins {w w1 : World} {p : Nat} {Q : List JV} {R : List Nat} (h : BAt w p Q R) {A : Option Addr} {c i : Nat} {Ft F' : List Nat} {v' : Value} {q : JV} (hb : Blk w p 26 #[.slice A Q.length c]) (hf : Fix w 31 6 (.slice A Q.length c) Q.length (Q.flatMap jvEnc) Ft) (hR : ∀ g ∈ Ft, g ∈ R) (hp : p ∉ Ft)
    (hq : Fix w 28 3 q.pv q.j.lines.length (q.j.lines.flatMap lnEnc) q.pF) (hi : i ≤ Q.length) (hfx : Fix w1 31 6 v' (Q.length + 1) ((Q.flatMap jvEnc).take (i * 6) ++ (jvEnc q ++ (Q.flatMap jvEnc).drop (i * 6))) F') (hch : Chg Ft w w1) :
    BAt (w1.setCell ⟨p, 0, none⟩ v') p (Q.take i ++ (q :: Q.drop i)) (F' ++ (q.pF ++ R)) ∧ Chg (p :: R) w (w1.setCell ⟨p, 0, none⟩ v') := by
  have hb1 : Blk w1 p 26 #[.slice A Q.length c] := hb.chg hch hp
  have hc1 : Chg (p :: R) w w1 := hch.mono fun g hg => List.mem_cons_of_mem _ (hR g hg)
  have hc : Chg (p :: R) w (w1.setCell ⟨p, 0, none⟩ v') := Chg.setCell hc1 (p := ⟨p, 0, none⟩) (.inl (List.mem_cons_self (a := p) (l := R))) v'
  have hm : ∀ x, x ∈ Q.take i ++ (q :: Q.drop i) → x = q ∨ x ∈ Q := fun x hx => by
    rcases List.mem_append.1 hx with hx | hx
    · exact .inr (List.mem_of_mem_take hx)
    · rcases List.mem_cons.1 hx with hx | hx
      · exact .inl hx
      · exact .inr (List.mem_of_mem_drop hx)
  have he : ∀ x ∈ Q.take i ++ (q :: Q.drop i), Fix w 28 3 x.pv x.j.lines.length (x.j.lines.flatMap lnEnc) x.pF := fun x hx => by
    rcases hm x hx with rfl | hx
    · exact hq
    · exact h.each x hx
  refine ⟨⟨⟨v', F', hb1.set_ 0 v', ?_, fun g hg => List.mem_append_left _ hg⟩, fun x hx => ?_, fun x hx g hg => ?_⟩, hc⟩
  · have := hfx.far_blk hb1 (by decide) 0 v'
    rw [(jv_take Q i hi).1, (jv_take Q i hi).2] at this
    have e : (Q.take i ++ (q :: Q.drop i)).length = Q.length + 1 := by simp; omega
    rw [e]
    simpa using this
  · exact ((he x hx).chg hch ((he x hx).disj hf (by decide))).far_blk hb1 (by decide) 0 v'
  · rcases hm x hx with rfl | hx
    · exact List.mem_append_right _ (List.mem_append_left _ hg)
    · exact List.mem_append_right _ (List.mem_append_right _ (h.foot x hx g hg))

def PostPost (w : World) (p : Nat) (Q : List JV) (R : List Nat) (j : Jn) (e : Ending) (w' : World) : Prop := e = .returned (.int .i64 (postE Q j)) ∧ (postE Q j ≠ 0 → Chg [] w w') ∧ (postE Q j = 0 → ∃ v F R', BAt w' p (insJ Q ⟨j, v, F⟩) R' ∧ (∀ g ∈ R', g ∈ R ∨ w.heap.size ≤ g) ∧ Chg (p :: R) w w')
set_option maxRecDepth 100000 in
set_option maxHeartbeats 4000000 in
theorem jb_post {w : World} {p : Nat} {Q : List JV} {R : List Nat} (hb : BAt w p Q R) (hn : Q.length ≤ 1000) (hQ : SrtJ Q) (hid : Ids Q) (j : Jn) {A : Option Addr} {n c : Nat} (hs : Go.Vx.Src w 3 A n (j.lines.flatMap lnEnc)) (hln : n ≤ 1000000) (hr : j.ref.size ≤ maxLen) :
    Calls Try.prog 7 #[.pointer (some ⟨p, 0, none⟩), jnV j (.slice A n c)] w (PostPost w p Q R j) := by
  have hck := fun W (hz : Chg [] w W) => jo_check (c := c) j (hs.chg hz (by simp)) hln hr
  have hfd := fun (hc : checkE j = 0) W (hz : Chg [] w W) => jb_find (hb.keep hz) hn hQ hid (checkE_id hc).1 (checkE_id hc).2
  have htk := fun W (hz : Chg [] w W) => jb_taken (hb.keep hz) hn j (.slice A n c)
  have hcp := fun W (hz : Chg [] w W) => jo_copy (c := c) j (hs.chg hz (by simp)) hln
  have key : ∀ x, postE Q j = x → Hid (postE Q j = x) := fun x h => Lib.hid h
  generalize hPP : PostPost w p Q R j = PP
  have hno : ∀ (x : Int) w', postE Q j = x → x ≠ 0 → Chg [] w w' → PP (.returned (.int .i64 x)) w' := fun x w' hx h0 hz => by
    rw [← hPP]
    exact ⟨by rw [hx], fun _ => hz, fun h => absurd (hx.symm.trans h) h0⟩
  obtain rfl : n = j.lines.length := by have := hs.1; rw [flatMap_len lnEnc_len] at this; omega
  obtain ⟨id, ent, per, ref, l, void⟩ := j
  unfold jnV at hck htk hcp ⊢
  dsimp only at *
  have hz := (Chg.refl [] w).alloc (.cells #[.int .i64 id, .int .i64 ent, .int .i64 per, .string ref, .slice A l.length c, .bool void] 31)
  have hB := Blk.new w 31 #[.int .i64 id, .int .i64 ent, .int .i64 per, .string ref, .slice A l.length c, .bool void]
  have hck' := hck _ hz
  cases hc : (checkE ⟨id, ent, per, ref, l, void⟩ == 0) with
  | false =>
    have hc0 : checkE ⟨id, ent, per, ref, l, void⟩ ≠ 0 := by simpa using hc
    have hk := key _ (by unfold postE; rw [if_pos hc0])
    have hno' := fun w' => hno _ w' hk.out hc0
    have hne : (checkE ⟨id, ent, per, ref, l, void⟩ != 0) = true := by simpa using hc0
    clear hck hfd htk hcp key hno hPP hk
    generalize checkE ⟨id, ent, per, ref, l, void⟩ = E at *
    replace hno' := Lib.hid hno'
    clear hs hb hQ hid hc hc0
    go_enter Try.func7, Try.ntmps7
    go_wp2_with fail
    refine hck'.mono ?_
    rintro e w2 ⟨rfl, hz2⟩
    go_wp2_with fail
    exact hno'.out _ (hz.trans' hz2)
  | true =>
    have hc0 : checkE ⟨id, ent, per, ref, l, void⟩ = 0 := by simpa using hc
    have hfd' := hfd hc0
    rw [hc0] at hck'
    have hBc := fun W (hz2 : Chg [] (w.alloc (.cells #[.int .i64 id, .int .i64 ent, .int .i64 per, .string ref, .slice A l.length c, .bool void] 31)) W) => hB.chg hz2 (by simp)
    have hkey2 : ∀ x, (if foundB Q id = true then 7 else if takenB Q ⟨id, ent, per, ref, l, void⟩ = true then 8 else if 200 ≤ Q.length then 13 else 0) = x → Hid (postE Q ⟨id, ent, per, ref, l, void⟩ = x) := fun x h => Lib.hid (by unfold postE; rw [if_neg (by simp [hc0])]; exact h)
    replace hno := Lib.hid hno
    replace hkey2 := Lib.hid hkey2
    replace hPP := Lib.hid hPP
    replace htk := Lib.hid htk
    replace hcp := Lib.hid hcp
    replace hBc := Lib.hid hBc
    replace hb := Lib.hid hb
    replace hfd' := Lib.hid hfd'
    replace hz := Lib.hid hz
    clear hck hfd key hc hc0 hs hQ hid hB
    go_enter Try.func7, Try.ntmps7
    go_wp2_with fail
    refine hck'.mono ?_
    rintro e w2 ⟨rfl, hz2⟩
    have d0 : w2.cell? ⟨w.heap.size, 0, none⟩ = some (.int .i64 id) := (hBc.out _ hz2).cell 0
    have hz2' := hz.out.trans' hz2
    clear hck'
    replace hz2 := Lib.hid hz2
    replace hz2' := Lib.hid hz2'
    go_wp2_with fail
    refine (hfd'.out _ hz2'.out).mono ?_
    rintro e w3 ⟨i, hi, rfl, hlo, hhi, hz3⟩
    replace hlo := Lib.hid hlo
    replace hhi := Lib.hid hhi
    have hz3' := hz2'.out.trans' hz3
    have hz13 := hz2.out.trans' hz3
    have hB3 := hBc.out _ hz13
    have e0 : w3.cell? ⟨w.heap.size, 0, none⟩ = some (.int .i64 id) := hB3.cell 0
    have e1 : w3.cell? ⟨w.heap.size, 1, none⟩ = some (.int .i64 ent) := hB3.cell 1
    have e2 : w3.cell? ⟨w.heap.size, 2, none⟩ = some (.int .i64 per) := hB3.cell 2
    have e3 : w3.cell? ⟨w.heap.size, 3, none⟩ = some (.string ref) := hB3.cell 3
    have e4 : w3.cell? ⟨w.heap.size, 4, none⟩ = some (.slice A l.length c) := hB3.cell 4
    have e5 : w3.cell? ⟨w.heap.size, 5, none⟩ = some (.bool void) := hB3.cell 5
    replace hz3' := Lib.hid hz3'
    replace hz13 := Lib.hid hz13
    replace hz3 := Lib.hid hz3
    replace hB3 := Lib.hid hB3
    clear d0
    cases hf : foundB Q id with
    | true =>
      go_wp2_with fail
      exact hno.out _ _ (hkey2.out _ (by rw [hf]; rfl)).out (by decide) hz3'.out
    | false =>
    go_wp2_with fail
    refine (htk.out _ hz3'.out).mono ?_
    rintro e w4 ⟨rfl, hz4⟩
    have hz4' := hz3'.out.trans' hz4
    have hB4 := hBc.out _ (hz13.out.trans' hz4)
    have hb4 := hb.out.keep hz4'
    obtain ⟨A4, c4, Ft, ca, hbb, hfx, hFR, hpF, hle, hcm⟩ := hb4.head
    have hpl := hbb.lt
    have honeQ := hb4.one
    replace hb4 := Lib.hid hb4
    replace hbb := Lib.hid hbb
    replace hfx := Lib.hid hfx
    replace hFR := Lib.hid hFR
    replace hpF := Lib.hid hpF
    replace honeQ := Lib.hid honeQ
    replace hz4' := Lib.hid hz4'
    replace hz4 := Lib.hid hz4
    clear e0 e1 e2 e3 e4 e5 hfd' htk
    cases htb : takenB Q ⟨id, ent, per, ref, l, void⟩ with
    | true =>
      go_wp2_with fail
      exact hno.out _ _ (hkey2.out _ (by rw [hf, htb]; rfl)).out (by decide) hz4'.out
    | false =>
    by_cases hfull : 200 ≤ Q.length
    · have hf2 : (200 : Int) ≤ (Q.length : Int) := by omega
      have hk13 := hkey2.out 13 (by rw [hf, htb, if_pos hfull]; rfl)
      clear hfull
      go_wp2_with fail
      exact hno.out _ _ hk13.out (by decide) hz4'.out
    · have hf2 : ¬ (200 : Int) ≤ (Q.length : Int) := by omega
      have hk0 := hkey2.out 0 (by rw [hf, htb, if_neg hfull]; rfl)
      have e0 : w4.drew.cell? ⟨w.heap.size, 0, none⟩ = some (.int .i64 id) := hB4.cell 0
      have e1 : w4.drew.cell? ⟨w.heap.size, 1, none⟩ = some (.int .i64 ent) := hB4.cell 1
      have e2 : w4.drew.cell? ⟨w.heap.size, 2, none⟩ = some (.int .i64 per) := hB4.cell 2
      have e3 : w4.drew.cell? ⟨w.heap.size, 3, none⟩ = some (.string ref) := hB4.cell 3
      have e4 : w4.drew.cell? ⟨w.heap.size, 4, none⟩ = some (.slice A l.length c) := hB4.cell 4
      have e5 : w4.drew.cell? ⟨w.heap.size, 5, none⟩ = some (.bool void) := hB4.cell 5
      have ca' : w4.drew.cell? ⟨p, 0, none⟩ = some (.slice A4 Q.length c4) := ca
      have hcp4 := hcp.out _ hz4'.out.drew
      have hins : ∀ (w5 : World) (v : Value) (F : List Nat), Fix w5 28 3 v l.length (l.flatMap lnEnc) F → Chg [] w4.drew w5 →
          Calls Try.prog 32 #[.slice A4 Q.length c4, .int .i64 i, .slice (some ⟨w5.heap.size, 0, none⟩) 1 1] (w5.alloc (.cells #[.int .i64 id, .int .i64 ent, .int .i64 per, .string ref, v, .bool void] 31)) (InsAny (w5.alloc (.cells #[.int .i64 id, .int .i64 ent, .int .i64 per, .string ref, v, .bool void] 31)) (.slice A4 Q.length c4) Q.length i (Q.flatMap jvEnc) (jvEnc ⟨⟨id, ent, per, ref, l, void⟩, v, F⟩) Ft) := fun w5 v F hv hz5 =>
        jb_ins (((hfx.out.drew.chg hz5 (by simp))).alloc _) hi hn (q := ⟨⟨id, ent, per, ref, l, void⟩, v, F⟩) (Blk.new w5 31 #[.int .i64 id, .int .i64 ent, .int .i64 per, .string ref, v, .bool void]) (fun hm => by have := hfx.out.lt _ hm; have := hz5.size; simp at *; omega) honeQ.out (one_jv (fix_one hv))
      replace hcp4 := Lib.hid hcp4
      replace hins := Lib.hid hins
      clear hno hkey2 hB4 htb hf hfull hcp
      go_wp2_with fail
      go_region_law (first
        | (go_simp; go_at_call 33; refine hcp4.out.mono ?_; rintro e w5 ⟨v, F, rfl, hfv, hF5, hz5⟩; have cp5 : w5.cell? ⟨p, 0, none⟩ = some (.slice A4 Q.length c4) := (hz5.cell hpl (by simp)).trans ca; have cp5a := cell_al cp5)
        | (go_simp; go_at_call 32; refine (hins.out _ _ _ hfv hz5).mono ?_; rintro e w6 ⟨v', F', rfl, hf6, hz6, hF6⟩; obtain ⟨A6, c6, rfl, -⟩ := _root_.id hf6; have hb6 := ((hbb.out.drew.chg hz5 (by simp)).alloc _).chg hz6 hpF.out; have cp6 : w6.cell? ⟨p, 0, none⟩ = some (.slice A4 Q.length c4) := hb6.cell 0; have fp6 : w6.frozen? ⟨p, 0, none⟩ = false := hb6.frozen 0))
      all_goals
        go_wp2_with fail
        rw [← hPP.out]
        have hzW := hz4'.out.drew.trans' (hz5.alloc (.cells #[.int .i64 id, .int .i64 ent, .int .i64 per, .string ref, v, .bool void] 31))
        have hz4W := ((Chg.refl [] w4).drew.trans' hz5).alloc (.cells #[.int .i64 id, .int .i64 ent, .int .i64 per, .string ref, v, .bool void] 31)
        have hI := BAt.ins (q := ⟨⟨id, ent, per, ref, l, void⟩, v, F⟩) (hb4.out.keep hz4W) (hbb.out.chg hz4W (by simp)) (hfx.out.chg hz4W (by simp)) hFR.out hpF.out (hfv.alloc _) hi hf6 hz6
        rw [insJ_at ⟨⟨id, ent, per, ref, l, void⟩, v, F⟩ Q i hi hlo.out hhi.out] at hI
        have hs4 := hz4'.out.size
        have hsW := hzW.size
        refine ⟨by rw [hk0.out]; rfl, fun h => absurd hk0.out h, fun _ => ⟨v, F, _, hI.1, fun g hg => ?_, (hzW.mono (by simp)).trans' hI.2⟩⟩
        rcases List.mem_append.1 hg with hg | hg
        · rcases hF6 g hg with h | h
          · exact .inl (hFR.out g h)
          · exact .inr (by omega)
        · rcases List.mem_append.1 hg with hg | hg
          · exact .inr (by have := hF5 g hg; have h9 : w4.drew.heap.size = w4.heap.size := rfl; omega)
          · exact .inl hg
end Go.Proofs.Ytlgfmphjgijilaa
