/- Lineage, without a program: how the document's own goes from some versions to those of which they came. -/
import Derived.Test.YtaabkapjdmceaaaLnM
namespace Go.Vx
set_option linter.unusedVariables false
set_option linter.unusedSimpArgs false

/-- Set at a place. -/
def markB (B : List Bool) (x : Nat) : List Bool := B.set x true
theorem markB_len (B : List Bool) (x : Nat) : (markB B x).length = B.length := by simp [markB]
theorem markB_get {B : List Bool} {x y : Nat} (hx : x < B.length) : (markB B x)[y]? = some true ↔ y = x ∨ B[y]? = some true := by
  unfold markB
  rw [List.getElem?_set]
  by_cases h : x = y
  · subst h
    simp [hx]
  · simp [h, Ne.symm h]
/-- How far it has come: the versions behind id are done. -/
structure FromInv (C : Lin0) (ids : List Nat) (id : Nat) (B : List Bool) : Prop where
  len : B.length = C.length + 1
  sound : ∀ x, B[x]? = some true → isThere C x = true ∧ ∃ s ∈ ids, isThere C s = true ∧ Anc C x s
  seed : ∀ s ∈ ids, isThere C s = true → B[s]? = some true
  done : ∀ y, id < y → isThere C y = true → B[y]? = some true → ∀ p ∈ parAt C y, B[p]? = some true
/-- One version's turn, some of its parents marked. -/
theorem FromInv.mark {C : Lin0} (hC : WfL C) {ids : List Nat} {id : Nat} {B : List Bool} (h : FromInv C ids id B) (hi : isThere C id = true) (hb : B[id]? = some true) {p : Nat} (hp : p ∈ parAt C id) : FromInv C ids id (markB B p) ∧ (markB B p)[id]? = some true := by
  obtain ⟨t, hlt, -⟩ := hC id hi p hp
  have ht := isThere_iff.1 t
  have hpl : p < B.length := by rw [h.len]; omega
  obtain ⟨-, s, hs, hst, ha⟩ := h.sound id hb
  refine ⟨⟨by rw [markB_len, h.len], fun x hx => ?_, fun s hs hst => (markB_get hpl).2 (.inr (h.seed s hs hst)), fun y hy hyt hyb q hq => ?_⟩, (markB_get hpl).2 (.inr hb)⟩
  · rcases (markB_get hpl).1 hx with rfl | hx
    · exact ⟨t, s, hs, hst, (Anc.step .refl hp).trans ha⟩
    · exact h.sound x hx
  · rcases (markB_get hpl).1 hyb with rfl | hyb
    · omega
    · exact (markB_get hpl).2 (.inr (h.done y hy hyt hyb q hq))
theorem FromInv.step {C : Lin0} {ids : List Nat} {id : Nat} {B : List Bool} (h : FromInv C ids (id + 1) B) (hp : B[id + 1]? = some true → ∀ p ∈ parAt C (id + 1), B[p]? = some true) : FromInv C ids id B :=
  ⟨h.len, h.sound, h.seed, fun y hy hyt hyb q hq => by
    by_cases e : y = id + 1
    · subst e
      exact hp hyb q hq
    · exact h.done y (by omega) hyt hyb q hq⟩
theorem FromInv.start {C : Lin0} : FromInv C [] C.length (List.replicate (C.length + 1) false) :=
  ⟨by simp, fun x hx => by
    rw [List.getElem?_replicate] at hx
    split at hx <;> simp at hx, by simp, fun y hy hyt => by
    have := isThere_iff.1 hyt
    omega⟩
theorem FromInv.more {C : Lin0} {ids : List Nat} {B : List Bool} (h : FromInv C ids C.length B) {s : Nat} (hs : isThere C s = true) : FromInv C (ids ++ [s]) C.length (markB B s) := by
  have ht := isThere_iff.1 hs
  have hl : s < B.length := by rw [h.len]; omega
  refine ⟨by rw [markB_len, h.len], fun x hx => ?_, fun t hti htt => ?_, fun y hy hyt => by
    have := isThere_iff.1 hyt
    omega⟩
  · rcases (markB_get hl).1 hx with rfl | hx
    · exact ⟨hs, x, by simp, hs, .refl⟩
    · obtain ⟨a, t, b, c, d⟩ := h.sound x hx
      exact ⟨a, t, by simp [b], c, d⟩
  · rcases List.mem_append.1 hti with hti | hti
    · exact (markB_get hl).2 (.inr (h.seed t hti htt))
    · obtain rfl := List.mem_singleton.1 hti
      exact (markB_get hl).2 (.inl rfl)
theorem FromInv.pass {C : Lin0} {ids : List Nat} {B : List Bool} (h : FromInv C ids C.length B) {s : Nat} (hs : isThere C s = false) : FromInv C (ids ++ [s]) C.length B := by
  refine ⟨h.len, fun x hx => ?_, fun t hti htt => ?_, h.done⟩
  · obtain ⟨a, t, b, c, d⟩ := h.sound x hx
    exact ⟨a, t, by simp [b], c, d⟩
  · rcases List.mem_append.1 hti with hti | hti
    · exact h.seed t hti htt
    · obtain rfl := List.mem_singleton.1 hti
      rw [hs] at htt
      cases htt
theorem FromInv.spec {C : Lin0} (hC : WfL C) {ids : List Nat} {B : List Bool} (h : FromInv C ids 0 B) (x : Nat) : B[x]? = some true ↔ ∃ s ∈ ids, isThere C s = true ∧ Anc C x s := by
  refine ⟨fun hx => (h.sound x hx).2, ?_⟩
  rintro ⟨s, hs, hst, ha⟩
  have hsb := h.seed s hs hst
  clear hs
  induction ha with
  | refl => exact hsb
  | step a hp ih =>
    have := isThere_iff.1 hst
    exact ih ((hC _ hst _ hp).1) (h.done _ (by omega) hst hsb _ hp)
end Go.Vx
