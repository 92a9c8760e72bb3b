/- Lineage: History. -/
import Derived.Test.YtaabkapjdmceaaaLnE
namespace Go.Proofs.Ytaabkapjdmceaaa
open Go.RowKit Go.Vx
set_option linter.unusedVariables false
set_option linter.unusedSimpArgs false

def thereI (n : Nat) (id : Int) : Bool := decide (1 ≤ id) && decide (id ≤ n)
theorem thereI_nat (Q : List LC) (id : Int) : thereI Q.length id = isThere (comsOf Q) id.toNat := by
  unfold thereI isThere
  simp only [List.length_map]
  by_cases h : 1 ≤ id
  · have h1 : (decide (1 ≤ id.toNat)) = true := by simp; omega
    have h2 : decide (id ≤ (Q.length : Int)) = decide (id.toNat ≤ Q.length) := by
      rw [decide_eq_decide]
      omega
    rw [h1, h2, show decide (1 ≤ id) = true by simpa using h]
  · have h1 : (decide (1 ≤ id.toNat)) = false := by simp; omega
    rw [h1, show decide (1 ≤ id) = false by simpa using h]
    rfl
set_option maxHeartbeats 1000000 in
theorem ln_there {w : World} {lp : Nat} {Q : List LC} {R : List Nat} (h : LinAt w lp Q R) (hQ : Q.length ≤ 1000000) (id : Int) : Calls Try.prog 18 #[.pointer (some ⟨lp, 0, none⟩), .int .i64 id] w fun e w' => e = .returned (.bool (thereI Q.length id)) ∧ w = w' := by
  obtain ⟨A, c, c0, -⟩ := h.head
  have e1 : 1 ≤ id → Hid (decide (id ≤ (Q.length : Int)) = thereI Q.length id) := fun h => Lib.hid (by unfold thereI; simp [h])
  have e2 : id < 1 → Hid (false = thereI Q.length id) := fun h => Lib.hid (by unfold thereI; simp; omega)
  generalize thereI Q.length id = r at *
  by_cases hi : 1 ≤ id
  · have b1 : decide (1 ≤ id) = true := by simpa using hi
    replace e1 := e1 hi
    clear e2
    go_enter Try.func18, Try.ntmps18
    go_wp2
    go_ret
    exact ⟨by rw [← e1.out]; rfl, rfl⟩
  · have b1 : decide (1 ≤ id) = false := by simpa using hi
    replace e2 := e2 (by omega)
    clear e1
    go_enter Try.func18, Try.ntmps18
    go_wp2
    go_ret
    exact ⟨by rw [← e2.out]; rfl, rfl⟩
section
variable {w : World} {p lp bs : Nat} {Q : List LC} {R : List Nat} {S seen : List Nat} {F : List Nat}
theorem CmS.mchg {w' : World} (h : CmS w p lp bs Q R S F) (k : Chg [bs] w w') : CmS w' p lp bs Q R S F := by
  obtain ⟨l, h1, h2⟩ := h
  exact ⟨l, h1.mchg k, h2⟩
set_option maxRecDepth 8000 in
set_option maxHeartbeats 4000000 in
theorem cm_meet (h : CmS w p lp bs Q R S F) (hs : SeenAt w bs seen) (id : Int) (hS : S.length ≤ 1000) (hn : seen.length ≤ 1000) (hQ : Q.length ≤ 1000) :
    Calls Try.prog 25 #[.pointer (some ⟨p, 0, none⟩), .int .i64 id] w fun e w' => e = .returned (.tuple #[]) ∧ ∃ F', CmS w' p lp bs Q R (meetL (comsOf Q) (S, seen) id.toNat).1 F' ∧ SeenAt w' bs (meetL (comsOf Q) (S, seen) id.toNat).2 ∧ Chg (p :: bs :: F) w w' ∧ ∀ g ∈ F', g ∈ F ∨ w.heap.size ≤ g := by
  obtain ⟨l, hc, hrep⟩ := (show CmS w p lp bs Q R S F from h)
  obtain ⟨A, c, hb, hf, h1, h2⟩ := hc.ex
  have a0 : w.cell? ⟨p, 0, none⟩ = some (.pointer (some ⟨lp, 0, none⟩)) := hb.cell 0
  have a2 : w.cell? ⟨p, 2, none⟩ = some (.map (some bs)) := hb.cell 2
  have hth := ln_there hc.lin (by omega) id
  have htn := thereI_nat Q id
  have hbF := hc.bF
  have hbp := hc.bp
  cases ht : thereI Q.length id with
  | false =>
    rw [ht] at hth htn
    have hm : meetL (comsOf Q) (S, seen) id.toNat = (S, seen) := by unfold meetL; rw [← htn]; simp
    rw [hm]
    clear hm htn ht
    go_enter Try.func25, Try.ntmps25
    go_wp2_with (go_at_call 18; refine hth.mono ?_; rintro e w' ⟨rfl, rfl⟩)
    go_end0
    exact ⟨rfl, F, h, hs, Chg.refl _ _, fun g hg => .inl hg⟩
  | true =>
    rw [ht] at hth htn
    have hi := isThere_iff.1 htn.symm
    simp only [List.length_map] at hi
    obtain ⟨i, rfl⟩ : ∃ i : Nat, id = i := ⟨id.toNat, by unfold thereI at ht; simp at ht; omega⟩
    simp only [Int.toNat_natCast] at htn hi ⊢
    have hlk := hs.look (i := i) (by omega)
    by_cases hm : i ∈ seen
    · have hme : meetL (comsOf Q) (S, seen) i = (S, seen) := by unfold meetL; simp [hm]
      rw [hme]
      rw [if_pos hm] at hlk
      clear hme htn ht hm
      go_enter Try.func25, Try.ntmps25
      go_wp2_with (go_at_call 18; refine hth.mono ?_; rintro e w' ⟨rfl, rfl⟩)
      go_end0
      exact ⟨rfl, F, h, hs, Chg.refl _ _, fun g hg => .inl hg⟩
    · have hme : meetL (comsOf Q) (S, seen) i = (ins (lnLt (comsOf Q)) i S, i :: seen) := by unfold meetL; rw [← htn]; simp [hm]
      rw [hme]
      rw [if_neg hm] at hlk
      obtain ⟨w2, hst, hs2, hc2⟩ := hs.store (by omega) (i := i) (by omega)
      have h2 := h.mchg hc2
      have hpu := cm_Push h2 i htn.symm (by omega)
      clear hme ht hm htn
      go_enter Try.func25, Try.ntmps25
      go_wp2_with (go_at_call 18; refine hth.mono ?_; rintro e w' ⟨rfl, rfl⟩)
      refine hpu.mono ?_
      rintro e w3 ⟨rfl, F', h3, hc3, hF'⟩
      dsimp only
      go_wp2_with fail
      go_end0
      refine ⟨rfl, F', h3, hs2.chg hc3 (by simp only [List.mem_cons, not_or]; exact ⟨hbp, hbF⟩), (hc2.mono (by simp)).trans hc3 (fun g hg => .inl (by simp at hg ⊢; rcases hg with hg | hg <;> simp [hg])), fun g hg => ?_⟩
      rcases hF' g hg with e | e
      · exact .inl e
      · have := hc2.size
        exact .inr (by omega)
end
end Go.Proofs.Ytaabkapjdmceaaa
