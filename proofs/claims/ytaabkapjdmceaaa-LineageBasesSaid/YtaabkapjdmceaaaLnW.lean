/- Lineage: the document's Is. -/
import Derived.Test.YtaabkapjdmceaaaLnV
namespace Go.Proofs.Ytaabkapjdmceaaa
open Go.RowKit Go.Vx Go.Maps
set_option linter.unusedVariables false
set_option linter.unusedSimpArgs false

set_option maxRecDepth 100000 in
set_option maxHeartbeats 4000000 in
theorem rln_is {w : World} {lp : Nat} {Q : List RC} {R : List Nat} (h : RLin w lp Q R) (hlt : ∀ g ∈ lp :: R, g < w.heap.size) (hC : WfL (rcoms Q)) (hQ : Q.length ≤ 400) (elder id : Int) :
    Calls Try.prog 12 #[.pointer (some ⟨lp, 0, none⟩), .int .i64 elder, .int .i64 id] w fun e w' => e = .returned (.bool (isL (rcoms Q) elder.toNat id.toNat)) ∧ Chg [] w w' := by
  have ha : Chg [] w (w.alloc (.cells #[.int .i64 id] 3)) := (Chg.refl _ _).alloc _
  have hF := rln_from (h.keep ha) (fun g hg => by have := hlt g hg; simp; omega) hC hQ (l := [id]) (c := 1) (Src.one1 rfl) (by omega)
  have hCl : (rcoms Q).length = Q.length := List.length_map _
  obtain ⟨r, hr⟩ : ∃ r, isL (rcoms Q) elder.toNat id.toNat = r := ⟨_, rfl⟩
  rw [hr]
  replace hr := Lib.hid hr
  by_cases h1 : 1 ≤ elder
  · by_cases h2 : elder < Q.length + 1
    · obtain ⟨x, rfl⟩ : ∃ x : Nat, elder = x := ⟨elder.toNat, by omega⟩
      have b1 : decide (1 ≤ (x : Int)) = true := by simpa using h1
      have b2 : decide ((x : Int) < ((Q.length + 1 : Nat) : Int)) = true := by simp; omega
      have hx : x < Q.length + 1 := by omega
      go_enter Try.func12, Try.ntmps12
      go_wp2_with fail
      refine hF.mono ?_
      rintro e w1 ⟨v, F, B, rfl, hf, -, hz, hI⟩
      obtain ⟨A, c, rfl, -⟩ := _root_.id hf
      obtain ⟨g', c', hBq, -, -, -, hcx, -⟩ := hf.at_ (k := x) (j := 0) hx (by omega)
      have hB' : A = some ⟨g', 0, none⟩ := by injection hBq
      subst hB'
      clear hBq
      have hbx : B[x]? = some r := by
        have hxl : x < B.length := by rw [hI.len, hCl]; exact hx
        rw [List.getElem?_eq_getElem hxl]
        congr 1
        rw [← hr.out, Bool.eq_iff_iff, isL_iff hC]
        have := hI.spec hC x
        rw [List.getElem?_eq_getElem hxl] at this
        simpa using this
      rw [show x * 1 + 0 = x by omega, boolVals, List.getElem?_map, hbx] at hcx
      simp only [Option.map_some] at hcx
      go_wp2_with fail
      go_ret
      exact ⟨rfl, ha.trans' hz⟩
    · have b1 : decide (1 ≤ elder) = true := by simpa using h1
      have b2 : decide (elder < ((Q.length + 1 : Nat) : Int)) = false := by simp; omega
      have hr0 : r = false := by
        rw [← hr.out, ← Bool.not_eq_true, isL_iff hC]
        rintro ⟨h3, h4⟩
        have := isThere_iff.1 (h4.there hC h3).1
        omega
      subst hr0
      clear hr
      go_enter Try.func12, Try.ntmps12
      go_wp2_with fail
      refine hF.mono ?_
      rintro e w1 ⟨v, F, B, rfl, hf, -, hz, hI⟩
      obtain ⟨A, c, rfl, -⟩ := _root_.id hf
      go_wp2_with fail
      go_ret
      exact ⟨rfl, ha.trans' hz⟩
  · have b1 : decide (1 ≤ elder) = false := by simpa using h1
    have hr0 : r = false := by
      rw [← hr.out, ← Bool.not_eq_true, isL_iff hC]
      rintro ⟨h3, h4⟩
      have := isThere_iff.1 (h4.there hC h3).1
      omega
    subst hr0
    clear hr
    go_enter Try.func12, Try.ntmps12
    go_wp2_with fail
    refine hF.mono ?_
    rintro e w1 ⟨v, F, B, rfl, hf, -, hz, hI⟩
    obtain ⟨A, c, rfl, -⟩ := _root_.id hf
    go_wp2_with fail
    go_ret
    exact ⟨rfl, ha.trans' hz⟩
end Go.Proofs.Ytaabkapjdmceaaa
