/- Lineage, without a program: versions, what they came of, the walk from some to all of those, its order. -/
import Derived.Test.YtaabkapjdmceaaaHeap
namespace Go.Vx
set_option linter.unusedVariables false
set_option linter.unusedSimpArgs false

/-- A version: its generation, its parents' numbers, its root, who made it. -/
structure Com where
  gen : Nat
  par : List Nat
  root : Int
  author : ByteArray
instance : Inhabited Com := ⟨⟨0, [], 0, ByteArray.empty⟩⟩
abbrev Lin0 := List Com
def comAt (C : Lin0) (id : Nat) : Com := nth C (id - 1)
def genAt (C : Lin0) (id : Nat) : Nat := (comAt C id).gen
def parAt (C : Lin0) (id : Nat) : List Nat := (comAt C id).par
def isThere (C : Lin0) (id : Nat) : Bool := decide (1 ≤ id) && decide (id ≤ C.length)
theorem isThere_iff {C : Lin0} {id : Nat} : isThere C id = true ↔ 1 ≤ id ∧ id ≤ C.length := by simp [isThere]
/-- Parents stand ahead, and are of lesser generations. -/
def WfL (C : Lin0) : Prop := ∀ id, isThere C id = true → ∀ p ∈ parAt C id, isThere C p = true ∧ p < id ∧ genAt C p < genAt C id
/-- The order: the greater generation first, the greater number of equal ones. -/
def lnLt (C : Lin0) (x y : Nat) : Bool := decide (genAt C y < genAt C x) || (genAt C x == genAt C y && decide (y < x))
theorem lnLin (C : Lin0) : Lin (lnLt C) where
  irr x := by simp [lnLt]
  tr x y z h k := by simp [lnLt] at *; omega
  tri x y := by simp [lnLt]; omega
/-- x is id, or id came of it. -/
inductive Anc (C : Lin0) (x : Nat) : Nat → Prop
  | refl : Anc C x x
  | step {p id : Nat} : Anc C x p → p ∈ parAt C id → Anc C x id
theorem Anc.trans {C : Lin0} {x y z : Nat} (h : Anc C x y) (k : Anc C y z) : Anc C x z := by
  induction k with
  | refl => exact h
  | step _ hp ih => exact .step ih hp
theorem Anc.there {C : Lin0} (hC : WfL C) {x id : Nat} (h : Anc C x id) (hi : isThere C id = true) : isThere C x = true ∧ x ≤ id ∧ genAt C x ≤ genAt C id ∧ (x = id ∨ genAt C x < genAt C id) := by
  induction h with
  | refl => exact ⟨hi, Nat.le_refl _, Nat.le_refl _, .inl rfl⟩
  | step _ hp ih =>
    obtain ⟨h1, h2, h3⟩ := hC _ hi _ hp
    obtain ⟨i1, i2, i3, i4⟩ := ih h1
    exact ⟨i1, by omega, by omega, .inr (by omega)⟩
/-- A version comes among those that are next, if it is there and was not seen. -/
def meetL (C : Lin0) (st : List Nat × List Nat) (id : Nat) : List Nat × List Nat := if isThere C id && !st.2.contains id then (ins (lnLt C) id st.1, id :: st.2) else st
def histL (C : Lin0) : Nat → List Nat × List Nat → List Nat
  | 0, _ => []
  | _ + 1, ([], _) => []
  | f + 1, (x :: S, seen) => x :: histL C f ((parAt C x).foldl (meetL C) (S, seen))
def hist (C : Lin0) (ids : List Nat) : List Nat := histL C (C.length + 1) (ids.foldl (meetL C) ([], []))
/-- How far the walk has come. -/
structure LnInv (C : Lin0) (Cl : Nat → Prop) (out S seen : List Nat) : Prop where
  srt : Srt (lnLt C) S
  nod : seen.Nodup
  perm : (out ++ S).Perm seen
  cl : ∀ x ∈ seen, isThere C x = true ∧ Cl x
  ahead : ∀ o ∈ out, ∀ s ∈ S, lnLt C o s = true
  done : out.Pairwise fun x y => lnLt C x y = true
  par : ∀ o ∈ out, ∀ p ∈ parAt C o, p ∈ seen
section
variable {C : Lin0} {Cl : Nat → Prop}
theorem meet_inv {out S seen : List Nat} (h : LnInv C Cl out S seen) {id : Nat} (hc : isThere C id = true → Cl id) (ha : ∀ o ∈ out, id ∉ seen → lnLt C o id = true) :
    LnInv C Cl out (meetL C (S, seen) id).1 (meetL C (S, seen) id).2 ∧ (isThere C id = true → id ∈ (meetL C (S, seen) id).2) ∧ ∀ x ∈ seen, x ∈ (meetL C (S, seen) id).2 := by
  unfold meetL
  split
  · rename_i hb
    simp only [Bool.and_eq_true, Bool.not_eq_true', List.contains_eq_mem, decide_eq_false_iff_not] at hb
    obtain ⟨h1, h2⟩ := hb
    refine ⟨⟨ins_srt (lnLin C) _ _ h.srt, List.nodup_cons.2 ⟨h2, h.nod⟩, ?_, ?_, ?_, h.done, fun o ho p hp => List.mem_cons_of_mem _ (h.par o ho p hp)⟩, fun _ => by simp, fun x hx => List.mem_cons_of_mem _ hx⟩
    · refine ((ins_perm _ _).append_left out).trans ?_
      exact (List.perm_middle).trans (h.perm.cons _)
    · intro x hx
      rcases List.mem_cons.1 hx with rfl | hx
      · exact ⟨h1, hc h1⟩
      · exact h.cl x hx
    · intro o ho s hs
      rcases List.mem_cons.1 ((ins_perm _ _).mem_iff.1 hs) with rfl | hs
      · exact ha o ho h2
      · exact h.ahead o ho s hs
  · rename_i hb
    refine ⟨h, fun ht => ?_, fun x hx => hx⟩
    simp only [Bool.and_eq_true, Bool.not_eq_true', List.contains_eq_mem, decide_eq_false_iff_not, not_and, Classical.not_not] at hb
    exact hb ht
theorem meets_inv {out : List Nat} : ∀ (ids : List Nat) {S seen : List Nat}, LnInv C Cl out S seen → (∀ id ∈ ids, isThere C id = true → Cl id) → (∀ id ∈ ids, ∀ o ∈ out, id ∉ seen → lnLt C o id = true) →
    LnInv C Cl out (ids.foldl (meetL C) (S, seen)).1 (ids.foldl (meetL C) (S, seen)).2 ∧ (∀ id ∈ ids, isThere C id = true → id ∈ (ids.foldl (meetL C) (S, seen)).2) ∧ ∀ x ∈ seen, x ∈ (ids.foldl (meetL C) (S, seen)).2
  | [], S, seen, h, _, _ => ⟨h, by simp, fun x hx => hx⟩
  | id :: ids, S, seen, h, hc, ha => by
    obtain ⟨h1, h2, h3⟩ := meet_inv h (hc id (by simp)) (ha id (by simp))
    obtain ⟨h4, h5, h6⟩ := meets_inv ids (S := (meetL C (S, seen) id).1) (seen := (meetL C (S, seen) id).2) h1 (fun i hi => hc i (by simp [hi])) (fun i hi o ho hn => ha i (by simp [hi]) o ho (fun h => hn (h3 i h)))
    rw [List.foldl_cons]
    refine ⟨h4, fun i hi ht => ?_, fun x hx => h6 x (h3 x hx)⟩
    rcases List.mem_cons.1 hi with rfl | hi
    · exact h6 _ (h2 ht)
    · exact h5 i hi ht
theorem nodup_len : ∀ (n : Nat) (l : List Nat), l.Nodup → (∀ x ∈ l, 1 ≤ x ∧ x ≤ n) → l.length ≤ n
  | 0, l, _, h => by
    cases l with
    | nil => simp
    | cons x l => have := h x (by simp); omega
  | n + 1, l, hn, h => by
    have ih := nodup_len n (l.erase (n + 1)) (hn.erase _) fun x hx => by
      have h1 := h x (List.mem_of_mem_erase hx)
      have h2 : x ≠ n + 1 := fun e => by
        rw [e] at hx
        exact (hn.mem_erase_iff.1 hx).1 rfl
      omega
    by_cases hm : n + 1 ∈ l
    · rw [List.length_erase_of_mem hm] at ih
      omega
    · rw [List.erase_of_not_mem hm] at ih
      omega
theorem len_there {l : List Nat} (hn : l.Nodup) (h : ∀ x ∈ l, isThere C x = true) : l.length ≤ C.length :=
  nodup_len C.length l hn fun x hx => isThere_iff.1 (h x hx)
/-- Parents come behind. -/
theorem par_lt (hC : WfL C) {x p : Nat} (hx : isThere C x = true) (hp : p ∈ parAt C x) : lnLt C x p = true := by
  have := (hC x hx p hp).2.2
  simp [lnLt, this]
theorem lnTrans {x y z : Nat} (h : lnLt C x y = true) (k : lnLt C y z = true) : lnLt C x z = true := (lnLin C).tr x y z h k
theorem srt_strict {x : Nat} {S seen : List Nat} {out : List Nat} (h : LnInv C Cl out (x :: S) seen) : ∀ s ∈ S, lnLt C x s = true := by
  intro s hs
  have h1 := (List.pairwise_cons.1 h.srt).1 s hs
  have hnd : (out ++ x :: S).Nodup := h.perm.nodup_iff.2 h.nod
  have hne : x ≠ s := by
    rintro rfl
    have := (List.nodup_append.1 hnd).2.1
    exact (List.nodup_cons.1 this).1 hs
  rcases (lnLin C).tri x s with t | t | t
  · exact t
  · exact absurd t hne
  · rw [t] at h1; cases h1
theorem pop_inv (hC : WfL C) (hcl : ∀ x p, Cl x → isThere C x = true → p ∈ parAt C x → Cl p) {out S seen : List Nat} {x : Nat} (h : LnInv C Cl out (x :: S) seen) :
    LnInv C Cl (out ++ [x]) ((parAt C x).foldl (meetL C) (S, seen)).1 ((parAt C x).foldl (meetL C) (S, seen)).2 ∧ ∀ y ∈ seen, y ∈ ((parAt C x).foldl (meetL C) (S, seen)).2 := by
  have hxs := srt_strict h
  have hxm : x ∈ seen := h.perm.mem_iff.1 (by simp)
  obtain ⟨hx1, hx2⟩ := h.cl x hxm
  have hlo : ∀ o ∈ out ++ [x], ∀ s ∈ S, lnLt C o s = true := by
    intro o ho s hs
    rcases List.mem_append.1 ho with ho | ho
    · exact h.ahead o ho s (by simp [hs])
    · obtain rfl : o = x := by simpa using ho
      exact hxs s hs
  have hdn : (out ++ [x]).Pairwise fun x y => lnLt C x y = true := by
    rw [List.pairwise_append]
    exact ⟨h.done, List.pairwise_singleton _ _, fun o ho y hy => by
      obtain rfl : y = x := by simpa using hy
      exact h.ahead o ho y (by simp)⟩
  -- the walk over its parents: ahead of them stand only those that were told
  have key : ∀ (ps : List Nat) (S1 seen1 : List Nat), (∀ p ∈ ps, p ∈ parAt C x) → (Srt (lnLt C) S1 ∧ seen1.Nodup ∧ (out ++ [x] ++ S1).Perm seen1 ∧ (∀ y ∈ seen1, isThere C y = true ∧ Cl y) ∧ (∀ o ∈ out ++ [x], ∀ s ∈ S1, lnLt C o s = true) ∧ (∀ o ∈ out, ∀ p ∈ parAt C o, p ∈ seen1)) →
      Srt (lnLt C) (ps.foldl (meetL C) (S1, seen1)).1 ∧ (ps.foldl (meetL C) (S1, seen1)).2.Nodup ∧ (out ++ [x] ++ (ps.foldl (meetL C) (S1, seen1)).1).Perm (ps.foldl (meetL C) (S1, seen1)).2 ∧ (∀ y ∈ (ps.foldl (meetL C) (S1, seen1)).2, isThere C y = true ∧ Cl y) ∧ (∀ o ∈ out ++ [x], ∀ s ∈ (ps.foldl (meetL C) (S1, seen1)).1, lnLt C o s = true) ∧ (∀ o ∈ out, ∀ p ∈ parAt C o, p ∈ (ps.foldl (meetL C) (S1, seen1)).2) ∧
        (∀ p ∈ ps, p ∈ (ps.foldl (meetL C) (S1, seen1)).2) ∧ ∀ y ∈ seen1, y ∈ (ps.foldl (meetL C) (S1, seen1)).2 := by
    intro ps
    induction ps with
    | nil => intro S1 seen1 _ ⟨a, b, c, d, e, g⟩; exact ⟨a, b, c, d, e, g, by simp, fun y hy => hy⟩
    | cons p ps ih =>
      intro S1 seen1 hps ⟨a, b, c, d, e, g⟩
      have hpx := hps p (by simp)
      have hpt := (hC x hx1 p hpx).1
      rw [List.foldl_cons]
      unfold meetL
      by_cases hps2 : p ∈ seen1
      · have hn : (isThere C p && !seen1.contains p) = false := by simp [hps2]
        simp only [hn]
        obtain ⟨a2, b2, c2, d2, e2, g2, i2, j2⟩ := ih S1 seen1 (fun q hq => hps q (by simp [hq])) ⟨a, b, c, d, e, g⟩
        refine ⟨a2, b2, c2, d2, e2, g2, fun q hq => ?_, j2⟩
        rcases List.mem_cons.1 hq with rfl | hq
        · exact j2 _ hps2
        · exact i2 q hq
      · have hn : (isThere C p && !seen1.contains p) = true := by simp [hps2, hpt]
        simp only [hn, if_true]
        obtain ⟨a2, b2, c2, d2, e2, g2, i2, j2⟩ := ih (ins (lnLt C) p S1) (p :: seen1) (fun q hq => hps q (by simp [hq])) ⟨ins_srt (lnLin C) _ _ a, List.nodup_cons.2 ⟨hps2, b⟩,
          ((ins_perm _ _).append_left _).trans (List.perm_middle.trans (c.cons _)), fun y hy => (by
            rcases List.mem_cons.1 hy with rfl | hy
            · exact ⟨hpt, hcl x _ hx2 hx1 hpx⟩
            · exact d y hy), fun o ho s hs => (by
            rcases List.mem_cons.1 ((ins_perm _ _).mem_iff.1 hs) with rfl | hs
            · have hxp := par_lt hC hx1 hpx
              rcases List.mem_append.1 ho with ho | ho
              · exact lnTrans (h.ahead o ho x (by simp)) hxp
              · obtain rfl : o = x := by simpa using ho
                exact hxp
            · exact e o ho s hs), fun o ho q hq => List.mem_cons_of_mem _ (g o ho q hq)⟩
        refine ⟨a2, b2, c2, d2, e2, g2, fun q hq => ?_, fun y hy => j2 y (List.mem_cons_of_mem _ hy)⟩
        rcases List.mem_cons.1 hq with rfl | hq
        · exact j2 _ (by simp)
        · exact i2 q hq
  obtain ⟨a, b, c, d, e, g, i, j⟩ := key (parAt C x) S seen (fun p hp => hp) ⟨(List.pairwise_cons.1 h.srt).2, h.nod, by simpa using h.perm, h.cl, hlo, h.par⟩
  have hI : LnInv C Cl (out ++ [x]) ((parAt C x).foldl (meetL C) (S, seen)).1 ((parAt C x).foldl (meetL C) (S, seen)).2 :=
    ⟨a, b, c, d, e, hdn, fun o ho p hp => by
      rcases List.mem_append.1 ho with ho | ho
      · exact g o ho p hp
      · obtain rfl : o = x := by simpa using ho
        exact i p hp⟩
  exact ⟨hI, j⟩
theorem hist_inv (hC : WfL C) (hcl : ∀ x p, Cl x → isThere C x = true → p ∈ parAt C x → Cl p) : ∀ (f : Nat) (out S seen : List Nat), LnInv C Cl out S seen → C.length < f + out.length →
    ∃ seen', LnInv C Cl (out ++ histL C f (S, seen)) [] seen' ∧ ∀ x ∈ seen, x ∈ seen'
  | 0, out, S, seen, h, hf => by
    have hl := len_there h.nod fun x hx => (h.cl x hx).1
    have := h.perm.length_eq
    rw [List.length_append] at this
    omega
  | f + 1, out, [], seen, h, hf => ⟨seen, by simpa [histL] using h, fun x hx => hx⟩
  | f + 1, out, x :: S, seen, h, hf => by
    obtain ⟨hI, j⟩ := pop_inv hC hcl h
    obtain ⟨seen', r1, r2⟩ := hist_inv hC hcl f (out ++ [x]) _ _ hI (by simp; omega)
    refine ⟨seen', by simpa [histL] using r1, fun y hy => r2 y (j y hy)⟩
end
/-- Its order, and who is in it. -/
theorem hist_spec {C : Lin0} (hC : WfL C) (ids : List Nat) : ((hist C ids).Pairwise fun x y => lnLt C x y = true) ∧ ∀ x, x ∈ hist C ids ↔ ∃ id ∈ ids, isThere C id = true ∧ Anc C x id := by
  have h0 : LnInv C (fun x => ∃ id ∈ ids, isThere C id = true ∧ Anc C x id) [] [] [] := ⟨List.Pairwise.nil, List.nodup_nil, List.Perm.refl _, by simp, by simp, List.Pairwise.nil, by simp⟩
  obtain ⟨h1, h2, -⟩ := meets_inv ids h0 (fun id hi ht => ⟨id, hi, ht, .refl⟩) (by simp)
  obtain ⟨seen', h3, h4⟩ := hist_inv hC (fun x p ⟨id, hi, ht, ha⟩ hx hp => ⟨id, hi, ht, (Anc.step .refl hp).trans ha⟩) (C.length + 1) [] _ _ h1 (by simp)
  rw [List.nil_append] at h3
  change LnInv C _ (hist C ids) [] seen' at h3
  have hm : ∀ x, x ∈ seen' ↔ x ∈ hist C ids := fun x => by rw [← h3.perm.mem_iff, List.append_nil]
  refine ⟨h3.done, fun x => ⟨fun hx => (h3.cl x ((hm x).2 hx)).2, ?_⟩⟩
  rintro ⟨id, hi, ht, ha⟩
  have hid : id ∈ hist C ids := (hm id).1 (h4 id (h2 id hi ht))
  have hcl : ∀ y, y ∈ hist C ids → ∀ p ∈ parAt C y, p ∈ hist C ids := fun y hy p hp => (hm p).1 (h3.par y hy p hp)
  have key : ∀ y, Anc C x y → y ∈ hist C ids → x ∈ hist C ids := by
    intro y h
    induction h with
    | refl => exact fun hy => hy
    | step _ hp ih => exact fun hy => ih (hcl _ hy _ hp)
  exact key id ha hid
end Go.Vx
