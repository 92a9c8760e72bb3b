/- Lineage, without a program: the greatest versions of which two came. -/
import Derived.Test.YtaabkapjdmceaaaLnA
namespace Go.Vx
set_option linter.unusedVariables false
set_option linter.unusedSimpArgs false

def isL (C : Lin0) (elder id : Nat) : Bool := (hist C [id]).contains elder
theorem isL_iff {C : Lin0} (hC : WfL C) {x id : Nat} : isL C x id = true ↔ isThere C id = true ∧ Anc C x id := by
  unfold isL
  rw [List.contains_iff_mem, (hist_spec hC [id]).2]
  simp
def baseStep (C : Lin0) (b : Nat) (out : List Nat) (id : Nat) : List Nat := if (hist C [b]).contains id && !(hist C out).contains id then out ++ [id] else out
def basesL (C : Lin0) (a b : Nat) : List Nat := (hist C [a]).foldl (baseStep C b) []
/-- Both came of it, or are it. -/
def Common (C : Lin0) (a b x : Nat) : Prop := (isThere C a = true ∧ Anc C x a) ∧ isThere C b = true ∧ Anc C x b
def Greatest (C : Lin0) (a b x : Nat) : Prop := Common C a b x ∧ ∀ y, Common C a b y → Anc C x y → y = x
section
variable {C : Lin0} (hC : WfL C) {a b : Nat}
include hC
theorem lt_of_anc {x y : Nat} (hy : isThere C y = true) (h : Anc C x y) (hne : y ≠ x) : lnLt C y x = true := by
  rcases (h.there hC hy).2.2.2 with e | e
  · exact absurd e.symm hne
  · simp [lnLt, e]
theorem common_there {x : Nat} (h : Common C a b x) : isThere C x = true := (h.1.2.there hC h.1.1).1
theorem bases_inv : ∀ (l pre out : List Nat), hist C [a] = pre ++ l → out.Sublist pre → (∀ o ∈ out, Greatest C a b o) → (∀ y ∈ pre, Common C a b y → ∃ o ∈ out, Anc C y o) →
    (l.foldl (baseStep C b) out).Sublist (pre ++ l) ∧ (∀ o ∈ l.foldl (baseStep C b) out, Greatest C a b o) ∧ ∀ y ∈ pre ++ l, Common C a b y → ∃ o ∈ l.foldl (baseStep C b) out, Anc C y o
  | [], pre, out, _, h1, h2, h3 => by simpa using ⟨h1, h2, h3⟩
  | id :: l, pre, out, he, h1, h2, h3 => by
    classical
    obtain ⟨hs1, hs2⟩ := hist_spec hC [a]
    have hid : id ∈ hist C [a] := by rw [he]; simp
    have hia : isThere C a = true ∧ Anc C id a := by simpa using (hs2 id).1 hid
    have hit := (hia.2.there hC hia.1).1
    have e2 : pre ++ id :: l = (pre ++ [id]) ++ l := by simp
    have hhb : (hist C [b]).contains id = true ↔ isThere C b = true ∧ Anc C id b := isL_iff hC
    have hho : (hist C out).contains id = true ↔ ∃ o ∈ out, isThere C o = true ∧ Anc C id o := by rw [List.contains_iff_mem, (hist_spec hC out).2]
    have hstep : baseStep C b out id = if Common C a b id ∧ ¬ ∃ o ∈ out, Anc C id o then out ++ [id] else out := by
      unfold baseStep
      have hb : ((hist C [b]).contains id && !(hist C out).contains id) = true ↔ (Common C a b id ∧ ¬ ∃ o ∈ out, Anc C id o) := by
        rw [Bool.and_eq_true, hhb, Bool.not_eq_true', ← Bool.not_eq_true, hho]
        constructor
        · rintro ⟨x1, x2⟩
          exact ⟨⟨hia, x1⟩, fun ⟨o, ho, ha⟩ => x2 ⟨o, ho, common_there hC (h2 o ho).1, ha⟩⟩
        · rintro ⟨x1, x2⟩
          exact ⟨x1.2, fun ⟨o, ho, _, ha⟩ => x2 ⟨o, ho, ha⟩⟩
      by_cases h : Common C a b id ∧ ¬ ∃ o ∈ out, Anc C id o
      · rw [if_pos h, if_pos (hb.2 h)]
      · rw [if_neg h, if_neg fun k => h (hb.1 k)]
    rw [List.foldl_cons, hstep, e2]
    by_cases h : Common C a b id ∧ ¬ ∃ o ∈ out, Anc C id o
    · rw [if_pos h]
      refine bases_inv l (pre ++ [id]) (out ++ [id]) (by rw [he, e2]) (h1.append (List.Sublist.refl _)) (fun o ho => ?_) (fun y hy hyc => ?_)
      · rcases List.mem_append.1 ho with ho | ho
        · exact h2 o ho
        · obtain rfl : o = id := by simpa using ho
          refine ⟨h.1, fun y hy ha => Decidable.byContradiction fun hne => h.2 ?_⟩
          have hlt := lt_of_anc hC (common_there hC hy) ha hne
          have hyh : y ∈ hist C [a] := (hs2 y).2 ⟨a, by simp, hy.1⟩
          rw [he, List.mem_append] at hyh
          rw [he] at hs1
          have hyp : y ∈ pre := by
            rcases hyh with hyh | hyh
            · exact hyh
            · rcases List.mem_cons.1 hyh with e | hyl
              · exact absurd e hne
              · have := (List.pairwise_cons.1 (List.pairwise_append.1 hs1).2.1).1 y hyl
                rw [(lnLin C).asym this] at hlt
                cases hlt
          obtain ⟨o', ho', ha'⟩ := h3 y hyp hy
          exact ⟨o', ho', ha.trans ha'⟩
      · rcases List.mem_append.1 hy with hy | hy
        · obtain ⟨o, ho, ha⟩ := h3 y hy hyc
          exact ⟨o, by simp [ho], ha⟩
        · obtain rfl : y = id := by simpa using hy
          exact ⟨y, by simp, .refl⟩
    · rw [if_neg h]
      refine bases_inv l (pre ++ [id]) out (by rw [he, e2]) (h1.trans (List.sublist_append_left _ _)) h2 (fun y hy hyc => ?_)
      rcases List.mem_append.1 hy with hy | hy
      · exact h3 y hy hyc
      · obtain rfl : y = id := by simpa using hy
        exact Classical.not_not.1 fun hn => h ⟨hyc, hn⟩
theorem bases_spec : ((basesL C a b).Pairwise fun x y => lnLt C x y = true) ∧ ∀ x, x ∈ basesL C a b ↔ Greatest C a b x := by
  obtain ⟨h1, h2, h3⟩ := bases_inv hC (a := a) (b := b) (hist C [a]) [] [] rfl (List.Sublist.refl _) (by simp) (by simp)
  rw [List.nil_append] at h1 h3
  change (basesL C a b).Sublist _ at h1
  refine ⟨(hist_spec hC [a]).1.sublist h1, fun x => ⟨h2 x, fun hx => ?_⟩⟩
  obtain ⟨o, ho, ha⟩ := h3 x ((hist_spec hC [a]).2 x |>.2 ⟨a, by simp, hx.1.1⟩) hx.1
  have := hx.2 o (h2 o ho).1 ha
  rwa [this] at ho
/-- Whatever both came of one of the greatest came of, or is it. -/
theorem bases_cover {x : Nat} (h : Common C a b x) : ∃ o ∈ basesL C a b, Anc C x o := by
  obtain ⟨h1, h2, h3⟩ := bases_inv hC (a := a) (b := b) (hist C [a]) [] [] rfl (List.Sublist.refl _) (by simp) (by simp)
  exact h3 x ((hist_spec hC [a]).2 x |>.2 ⟨a, by simp, h.1⟩) h
end
end Go.Vx
