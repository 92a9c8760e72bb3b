/- Journals: plain laws of books (no program). -/
import Derived.Test.YtlgfmphjgijilaaJrJ
namespace Go.Proofs.Ytlgfmphjgijilaa
open Go.RowKit Go.Vx
set_option linter.unusedVariables false
set_option linter.unusedSimpArgs false

def merN (L : List Jn) (j : Jn) : List Jn :=
  match L with
  | [] => [j]
  | q :: L => if q.id < j.id then q :: merN L j else if q.id = j.id then j :: L else j :: q :: L
theorem stP_done (j : Jn) : ∀ (L : List Jn) (o : List Jn), L.foldl (stepP j) (o, true) = (o ++ L.filter (fun q => q.id != j.id), true)
  | [], o => by simp
  | q :: L, o => by
    rw [List.foldl_cons]
    have : stepP j (o, true) q = (o ++ (if (q.id != j.id) = true then [q] else []), true) := by simp [stepP]
    rw [this, stP_done j L, List.filter_cons]
    cases hx : q.id != j.id <;> simp
theorem stP_mer (j : Jn) : ∀ (L : List Jn), SrtN L → ∀ o : List Jn, (L.foldl (stepP j) (o, false)).1 ++ (if (L.foldl (stepP j) (o, false)).2 = true then [] else [j]) = o ++ merN L j
  | [], _, o => by simp [merN]
  | q :: L, h, o => by
    unfold SrtN at h
    rw [List.pairwise_cons] at h
    rw [List.foldl_cons]
    unfold merN
    by_cases h1 : q.id < j.id
    · have : stepP j (o, false) q = (o ++ [q], false) := by
        have a1 : decide (j.id ≤ q.id) = false := by simp; omega
        have a2 : (q.id != j.id) = true := by simp; omega
        simp [stepP, a1, a2]
      rw [this, stP_mer j L h.2, if_pos h1]
      simp
    · by_cases h2 : q.id = j.id
      · have : stepP j (o, false) q = (o ++ [j], true) := by
          have a1 : decide (j.id ≤ q.id) = true := by simp; omega
          have a2 : (q.id != j.id) = false := by simp [h2]
          simp [stepP, a1, a2]
        rw [this, stP_done, if_neg h1, if_pos h2]
        have : L.filter (fun q => q.id != j.id) = L := List.filter_eq_self.2 fun x hx => by have := h.1 x hx; simp; omega
        rw [this]
        simp
      · have : stepP j (o, false) q = (o ++ [j] ++ [q], true) := by
          have a1 : decide (j.id ≤ q.id) = true := by simp; omega
          have a2 : (q.id != j.id) = true := by simp [h2]
          simp [stepP, a1, a2]
        rw [this, stP_done, if_neg h1, if_neg h2]
        have : L.filter (fun q => q.id != j.id) = L := List.filter_eq_self.2 fun x hx => by have := h.1 x hx; simp; omega
        rw [this]
        simp
theorem putR_mer {L : List Jn} (h : SrtN L) (j : Jn) : putR L j = merN L j := by
  have := stP_mer j L h []
  rw [List.nil_append] at this
  exact this
theorem mer_ins : ∀ {L : List Jn} {j : Jn}, foundN L j.id = false → merN L j = insN L j
  | [], _, _ => rfl
  | q :: L, j, h => by
    unfold foundN at h
    rw [List.any_cons, Bool.or_eq_false_iff] at h
    have h1 : q.id ≠ j.id := by simpa using h.1
    unfold merN insN
    by_cases h3 : q.id < j.id
    · rw [if_pos h3, if_pos h3, mer_ins (L := L) h.2]
    · rw [if_neg h3, if_neg h3, if_neg h1]
theorem mer_put : ∀ {L : List Jn} {j : Jn}, SrtN L → foundN L j.id = true → merN L j = putN L j
  | [], _, _, h => by simp [foundN] at h
  | q :: L, j, hs, h => by
    unfold SrtN at hs
    rw [List.pairwise_cons] at hs
    unfold foundN at h
    rw [List.any_cons, Bool.or_eq_true] at h
    have tail : j.id ≤ q.id → putN L j = L := fun hle => by
      unfold putN
      rw [List.map_congr_left (g := id)]
      · simp
      · intro y hy
        have := hs.1 y hy
        rw [if_neg (by omega)]
        rfl
    unfold merN
    have hm : putN (q :: L) j = (if q.id = j.id then j else q) :: putN L j := rfl
    rw [hm]
    by_cases h1 : q.id < j.id
    · rw [if_pos h1, if_neg (by omega), mer_put hs.2 (h.resolve_left (by simp; omega))]
    · rw [if_neg h1]
      by_cases h2 : q.id = j.id
      · rw [if_pos h2, if_pos h2, tail (by omega)]
      · exfalso
        rcases h with h | h
        · exact h2 (by simpa using h)
        · obtain ⟨y, hy, he⟩ := List.any_eq_true.1 h
          have := hs.1 y hy
          simp at he
          omega
theorem mem_insN {x y : Jn} : ∀ {L : List Jn}, y ∈ insN L x ↔ y = x ∨ y ∈ L
  | [] => by simp [insN]
  | q :: L => by
    unfold insN
    split
    · rw [List.mem_cons, mem_insN, List.mem_cons]
      constructor
      · rintro (h | h | h)
        · exact .inr (.inl h)
        · exact .inl h
        · exact .inr (.inr h)
      · rintro (h | h | h)
        · exact .inr (.inl h)
        · exact .inl h
        · exact .inr (.inr h)
    · simp
theorem foundN_no {L : List Jn} {id : Int} : foundN L id = false ↔ ∀ q ∈ L, q.id ≠ id := by
  unfold foundN
  rw [List.any_eq_false]
  exact ⟨fun h q hq => by have := h q hq; simpa using this, fun h q hq => by have := h q hq; simpa using this⟩
theorem srt_insN {x : Jn} : ∀ {L : List Jn}, SrtN L → (∀ q ∈ L, q.id ≠ x.id) → SrtN (insN L x)
  | [], _, _ => by simp [insN, SrtN]
  | q :: L, h, hn => by
    unfold SrtN at h
    rw [List.pairwise_cons] at h
    unfold insN
    have h0 := hn q (by simp)
    split
    · rename_i hlt
      unfold SrtN
      rw [List.pairwise_cons]
      refine ⟨fun y hy => ?_, srt_insN h.2 (fun y hy => hn y (by simp [hy]))⟩
      rcases mem_insN.1 hy with rfl | hy
      · exact hlt
      · exact h.1 y hy
    · unfold SrtN
      rw [List.pairwise_cons]
      refine ⟨fun y hy => ?_, List.pairwise_cons.2 h⟩
      rcases List.mem_cons.1 hy with rfl | hy
      · omega
      · have := h.1 y hy; omega
/-- Do two journals ask for one reference? -/
def clash (a b : Jn) : Bool := !a.void && (!b.void && ((b.id != a.id) && ((b.ent == a.ent) && ((b.ref.toList == a.ref.toList) && (a.ref.toList != [])))))
theorem clash_comm {a b : Jn} : clash a b = clash b a := by
  unfold clash
  rw [Bool.eq_iff_iff]
  simp only [Bool.and_eq_true, Bool.not_eq_true', bne_iff_ne, beq_iff_eq, ne_eq]
  constructor
  · rintro ⟨h1, h2, h3, h4, h5, h6⟩
    exact ⟨h2, h1, fun h => h3 h.symm, h4.symm, h5.symm, by rw [h5]; exact h6⟩
  · rintro ⟨h1, h2, h3, h4, h5, h6⟩
    exact ⟨h2, h1, fun h => h3 h.symm, h4.symm, h5.symm, by rw [h5]; exact h6⟩
theorem taken_clash (L : List Jn) (j : Jn) : takenN L j = L.any (clash j) := by
  unfold takenN
  rw [Bool.eq_iff_iff]
  simp only [Bool.and_eq_true, List.any_eq_true, holdsB, clash, Bool.not_eq_true', bne_iff_ne, beq_iff_eq, ne_eq]
  constructor
  · rintro ⟨h1, h2, q, hq, h3, h4, h5, h6⟩
    exact ⟨q, hq, h1, h3, h4, h5, h6, h2⟩
  · rintro ⟨q, hq, h1, h3, h4, h5, h6, h2⟩
    exact ⟨h1, h2, q, hq, h3, h4, h5, h6⟩
theorem taken_no {L : List Jn} {j : Jn} : takenN L j = false ↔ ∀ q ∈ L, clash j q = false := by
  rw [taken_clash, List.any_eq_false]
  exact ⟨fun h q hq => by have := h q hq; simpa using this, fun h q hq => by have := h q hq; simpa using this⟩
/-- A book that may be. -/
structure Good (L : List Jn) : Prop where
  srt : SrtN L
  chk : ∀ j ∈ L, checkE j = 0
  no : ∀ a ∈ L, ∀ b ∈ L, clash a b = false
theorem clash_self (j : Jn) : clash j j = false := by simp [clash]
theorem post_zero {L : List Jn} {j : Jn} (h : postN L j = 0) : checkE j = 0 ∧ foundN L j.id = false ∧ takenN L j = false ∧ L.length < 200 := by
  unfold postN at h
  by_cases h1 : checkE j = 0
  · rw [if_neg (by simp [h1])] at h
    cases h2 : foundN L j.id with
    | true => rw [h2] at h; simp at h
    | false =>
      rw [h2] at h
      cases h3 : takenN L j with
      | true => rw [h3] at h; simp at h
      | false =>
        rw [h3] at h
        refine ⟨h1, rfl, rfl, ?_⟩
        by_cases h4 : 200 ≤ L.length
        · simp [h4] at h
        · omega
  · rw [if_pos h1] at h
    exact absurd h h1
theorem post_ok {L : List Jn} {j : Jn} (h1 : checkE j = 0) (h2 : foundN L j.id = false) (h3 : takenN L j = false) (h4 : L.length < 200) : postN L j = 0 := by
  unfold postN
  rw [if_neg (by simp [h1]), h2, h3]
  simp
  omega
theorem Good.ins {L : List Jn} {j : Jn} (h : Good L) (hp : postN L j = 0) : putR L j = insN L j ∧ Good (insN L j) := by
  obtain ⟨h1, h2, h3, -⟩ := post_zero hp
  refine ⟨by rw [putR_mer h.srt, mer_ins h2], srt_insN h.srt (foundN_no.1 h2), fun x hx => ?_, fun a ha b hb => ?_⟩
  · rcases mem_insN.1 hx with rfl | hx
    · exact h1
    · exact h.chk x hx
  · have ht := taken_no.1 h3
    rcases mem_insN.1 ha with ra | ha
    · rcases mem_insN.1 hb with rb | hb
      · rw [ra, rb]; exact clash_self j
      · rw [ra]; exact ht b hb
    · rcases mem_insN.1 hb with rb | hb
      · rw [rb, clash_comm]; exact ht a ha
      · exact h.no a ha b hb
theorem Good.nil : Good [] := ⟨List.Pairwise.nil, by simp, by simp⟩
theorem fit_good (most : Int) : ∀ (L acc : List Jn), Good acc → (acc.length : Int) ≤ most → Good (L.foldl (stepF most) acc) ∧ ((L.foldl (stepF most) acc).length : Int) ≤ most
  | [], acc, h, hl => ⟨h, hl⟩
  | j :: L, acc, h, hl => by
    rw [List.foldl_cons]
    unfold stepF
    split
    · rename_i hc
      obtain ⟨h1, h2⟩ := h.ins hc.2.2
      rw [h1]
      exact fit_good most L _ h2 (by rw [len_insN]; omega)
    · exact fit_good most L acc h hl
theorem of_good : ∀ (suf pre L : List Jn), pre ++ suf = L → Good L → L.length ≤ 200 → ofN pre suf = (L, 0)
  | [], pre, L, h, _, _ => by simp [ofN, ← h]
  | j :: suf, pre, L, h, hg, hl => by
    have hj : j ∈ L := by rw [← h]; simp
    have hpre : ∀ q ∈ pre, q ∈ L ∧ q.id < j.id := fun q hq => by
      have hs := hg.srt
      rw [← h] at hs
      unfold SrtN at hs
      rw [List.pairwise_append] at hs
      exact ⟨by rw [← h]; simp [hq], hs.2.2 q hq j (by simp)⟩
    have hp : postN pre j = 0 := post_ok (hg.chk j hj) (foundN_no.2 fun q hq => by have := (hpre q hq).2; omega) (taken_no.2 fun q hq => hg.no j hj q (hpre q hq).1) (by
      have : L.length = pre.length + (suf.length + 1) := by rw [← h]; simp
      omega)
    unfold ofN
    rw [if_pos hp, insF pre j (fun q hq => (hpre q hq).2)]
    exact of_good suf (pre ++ [j]) L (by rw [← h]; simp) hg hl
end Go.Proofs.Ytlgfmphjgijilaa
