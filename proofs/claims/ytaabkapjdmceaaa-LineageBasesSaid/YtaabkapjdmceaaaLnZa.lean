/- Lineage: the laws' argument of pairs, opened. -/
import Derived.Test.YtaabkapjdmceaaaLnZ
import Derived.OpenShut
namespace Go.Proofs.Ytaabkapjdmceaaa
open Go.RowKit Go.Vx
set_option linter.unusedVariables false
set_option linter.unusedSimpArgs false

open Go.ChangeShapes Go.WideShapes Go.Deep in
theorem opn_ar {H : Type} {enc : TypeId × Value → H} {w : World} {base : Nat} {spare : Nat → Bool} {held : Bool} {A : Option Addr} {len cap : Nat} {d : DataW H} {ps : List MemPlace}
    (h : DataW.Trod enc Try.prog w base spare held 33 (.slice A len cap) d ps) : ∃ l : List (Int × Int), l.length = len ∧ len ≤ cap ∧ cap ≤ maxLen ∧ Src w 2 A len (l.flatMap pairCells) ∧ ∀ x ∈ l, True := by
  refine opn Try.underlying33 (size := 2) (by kernel_rfl) pairCells (fun _ => True) pairCells_len (fun fuel cs x hl hx => ?_) h
  obtain ⟨xs, m, rfl, -, -, hx2, hf⟩ := DataW.trod_array Try.underlying54 hx
  have hce : Try.prog.cellsOf 3 = 1 := by kernel_rfl
  have h0 := hf 0 (by omega)
  have h1 := hf 1 (by omega)
  simp only [hce] at h0 h1
  match cs, hl with
  | [c0, c1], _ =>
    match xs, hx2 with
    | [x0, x1], _ =>
      obtain ⟨a, ha, -⟩ := DataW.trod_int Try.underlying3 (x := x0) (by simpa using h0)
      obtain ⟨b, hb, -⟩ := DataW.trod_int Try.underlying3 (x := x1) (by simpa using h1)
      simp at ha hb
      subst ha hb
      exact ⟨(a, b), rfl, trivial⟩
end Go.Proofs.Ytaabkapjdmceaaa
