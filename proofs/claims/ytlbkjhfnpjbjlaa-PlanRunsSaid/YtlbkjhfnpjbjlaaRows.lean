/-
  No cell of these rows narrows 'for every input' (looked for: loops, veiled, ifaces, maps, wideKeys, modest, calm, conditions, laid).
  DERIVED. THE GIVEN ROWS OF THIS SEAT. 4 by the template 'for every input the law returns true; each argument reads behind the call as it read before'; 0 by the template 'total and deterministic' (their statements: YtlbkjhfnpjbjlaaTotals.lean).
  GIVEN WITH THE SEED: the statements are not yours to turn. If you find one false, say at which input.
  Laid BY PROGRAM, IN A SANDBOX (cutbox-rows.mjs): the forced cells as the released guide's own fill.sh prints them over the translation 048207a938b987b6… (all of the seat's roots in one cut). By AI agents, Wed Nov 11 2026. No macro, syntax, notation, axiom, sorry.
-/
import Derived.Test.YtlbkjhfnpjbjlaaChecked
import GoSem.Claim
import GoSem.ClaimJoined
import GoSem.ClaimMapViews
import Derived.JoinedTies
import Derived.KernelRfl
namespace Go.Proofs.Ytlbkjhfnpjbjlaa
/- THE CELL 'sum', in the pinned program and in every row, IS THE sha256 OF THE DUMP (.gsa) THAT YtlbkjhfnpjbjlaaProg.lean LOADS. Nothing in Lean hashes anything: it is a label: what it is worth is what the hold of that sum in a sandbox is worth. -/
noncomputable def Try.pinned : Pinned := { name := "ytlbkjhfnpjbjlaa", sum := "048207a938b987b6c661041754d80491714eba4ee2175e7b32cc438df79d2607", checked := Try.checked }
namespace Rows
def none {H : Type} : Left H := { results := [], args := [] }

/-- 'variorumlaw9.PlanZero': WHATEVER THE INPUT: true; the input reads as it did. -/
def planZeroSpec : ChangeSpec := { name := "planZero", fn := fun _ => fun
  | [d1, d2] => { results := [.lit (.bool true)], args := [d1, d2] }
  | _ => none }
def planZeroRow : OpenClaim := { program := "ytlbkjhfnpjbjlaa", sum := "048207a938b987b6c661041754d80491714eba4ee2175e7b32cc438df79d2607", func := "variorum/variorumlaw9.PlanZero", spec := "planZero", unfollowed := true, recurses := true, named := ["math/bits.divideError", "math/bits.overflowError"], apart := false }
def PlanZeroSaid : Prop := planZeroRow.holds Try.pinned (OpenSpec.ofChange planZeroSpec)

/-- ITS FALSE NEIGHBOUR: 'it returns false'. Refute it at one input. -/
def planZeroWrong : ChangeSpec := { name := "planZero", fn := fun _ => fun
  | [d1, d2] => { results := [.lit (.bool false)], args := [d1, d2] }
  | _ => none }
def PlanZeroWrongFalsely : Prop := planZeroRow.holds Try.pinned (OpenSpec.ofChange planZeroWrong)

/-- 'variorumlaw9.PlanEvery': WHATEVER THE INPUT: true; the input reads as it did. -/
def planEverySpec : ChangeSpec := { name := "planEvery", fn := fun _ => fun
  | [d] => { results := [.lit (.bool true)], args := [d] }
  | _ => none }
def planEveryRow : OpenClaim := { program := "ytlbkjhfnpjbjlaa", sum := "048207a938b987b6c661041754d80491714eba4ee2175e7b32cc438df79d2607", func := "variorum/variorumlaw9.PlanEvery", spec := "planEvery", unfollowed := true, recurses := true, named := ["math/bits.divideError", "math/bits.overflowError"], apart := false }
def PlanEverySaid : Prop := planEveryRow.holds Try.pinned (OpenSpec.ofChange planEverySpec)

/-- ITS FALSE NEIGHBOUR: 'it returns false'. Refute it at one input. -/
def planEveryWrong : ChangeSpec := { name := "planEvery", fn := fun _ => fun
  | [d] => { results := [.lit (.bool false)], args := [d] }
  | _ => none }
def PlanEveryWrongFalsely : Prop := planEveryRow.holds Try.pinned (OpenSpec.ofChange planEveryWrong)

/-- 'variorumlaw9.PlanNumbers': WHATEVER THE INPUT: true; the input reads as it did. -/
def planNumbersSpec : ChangeSpec := { name := "planNumbers", fn := fun _ => fun
  | [d1, d2] => { results := [.lit (.bool true)], args := [d1, d2] }
  | _ => none }
def planNumbersRow : OpenClaim := { program := "ytlbkjhfnpjbjlaa", sum := "048207a938b987b6c661041754d80491714eba4ee2175e7b32cc438df79d2607", func := "variorum/variorumlaw9.PlanNumbers", spec := "planNumbers", unfollowed := true, recurses := true, named := ["math/bits.divideError", "math/bits.overflowError"], apart := false }
def PlanNumbersSaid : Prop := planNumbersRow.holds Try.pinned (OpenSpec.ofChange planNumbersSpec)

/-- ITS FALSE NEIGHBOUR: 'it returns false'. Refute it at one input. -/
def planNumbersWrong : ChangeSpec := { name := "planNumbers", fn := fun _ => fun
  | [d1, d2] => { results := [.lit (.bool false)], args := [d1, d2] }
  | _ => none }
def PlanNumbersWrongFalsely : Prop := planNumbersRow.holds Try.pinned (OpenSpec.ofChange planNumbersWrong)

/-- 'variorumlaw9.PlanRuns': WHATEVER THE INPUT: true; the input reads as it did. -/
def planRunsSpec : ChangeSpec := { name := "planRuns", fn := fun _ => fun
  | [d1, d2] => { results := [.lit (.bool true)], args := [d1, d2] }
  | _ => none }
def planRunsRow : OpenClaim := { program := "ytlbkjhfnpjbjlaa", sum := "048207a938b987b6c661041754d80491714eba4ee2175e7b32cc438df79d2607", func := "variorum/variorumlaw9.PlanRuns", spec := "planRuns", unfollowed := true, recurses := true, named := ["math/bits.divideError", "math/bits.overflowError"], apart := false }
def PlanRunsSaid : Prop := planRunsRow.holds Try.pinned (OpenSpec.ofChange planRunsSpec)

/-- ITS FALSE NEIGHBOUR: 'it returns false'. Refute it at one input. -/
def planRunsWrong : ChangeSpec := { name := "planRuns", fn := fun _ => fun
  | [d1, d2] => { results := [.lit (.bool false)], args := [d1, d2] }
  | _ => none }
def PlanRunsWrongFalsely : Prop := planRunsRow.holds Try.pinned (OpenSpec.ofChange planRunsWrong)

/- THE SECOND FORM. 'bulk': how many values and letters a reading holds, each counted each time it is reached (what is shared counts as often as it is met; a slice's spare places count too). A statement '..UptoSaid' is the law's where the arguments, and the package variables that the reading takes, are together of bulk at most 1048576: NARROWER than '..Said'. Prove '..Said' where nothing that the law and all that it calls make is longer than what came in: it says more and counts as full. Else prove '..UptoSaid'. A law counts once. -/
mutual
def uptoBulk {H : Type} : DataW H → Nat
  | .lit (.string bytes) => bytes.length + 1
  | .lit _ => 1
  | .nil => 1
  | .ptr d => uptoBulk d + 1
  | .slice elems spare => uptoBulkAll elems + uptoBulkAll spare + 1
  | .agg parts => uptoBulkAll parts + 1
  | .iface _ d => uptoBulk d + 1
  | .map entries => uptoBulkEntries entries + 1
  | .held _ => 1
def uptoBulkAll {H : Type} : List (DataW H) → Nat
  | [] => 0
  | d :: r => uptoBulk d + uptoBulkAll r
def uptoBulkEntries {H : Type} : List (Lit × DataW H) → Nat
  | [] => 0
  | x :: r => uptoBulkEntry x + uptoBulkEntries r
def uptoBulkEntry {H : Type} : Lit × DataW H → Nat
  | (.string bytes, d) => bytes.length + uptoBulk d + 1
  | (_, d) => uptoBulk d + 1
 end
def uptoSmall : (H : Type) → List (DataW H) → Bool := fun _ ds => decide (uptoBulkAll ds ≤ 1048576)
def OpenSpec.upto (s : _root_.Go.ChangeSpec) : _root_.Go.OpenSpec := { _root_.Go.OpenSpec.ofChange s with cond := some uptoSmall }

/-- 'variorumlaw9.PlanZero', WHERE WHAT IT READS IS OF BULK AT MOST 1048576: true; the input reads as it did. -/
def planZeroUptoRow : OpenClaim := { program := "ytlbkjhfnpjbjlaa", sum := "048207a938b987b6c661041754d80491714eba4ee2175e7b32cc438df79d2607", func := "variorum/variorumlaw9.PlanZero", spec := "planZero", unfollowed := true, recurses := true, named := ["math/bits.divideError", "math/bits.overflowError"], apart := false, narrowed := true }
def PlanZeroUptoSaid : Prop := planZeroUptoRow.holds Try.pinned (OpenSpec.upto planZeroSpec)

/-- 'variorumlaw9.PlanEvery', WHERE WHAT IT READS IS OF BULK AT MOST 1048576: true; the input reads as it did. -/
def planEveryUptoRow : OpenClaim := { program := "ytlbkjhfnpjbjlaa", sum := "048207a938b987b6c661041754d80491714eba4ee2175e7b32cc438df79d2607", func := "variorum/variorumlaw9.PlanEvery", spec := "planEvery", unfollowed := true, recurses := true, named := ["math/bits.divideError", "math/bits.overflowError"], apart := false, narrowed := true }
def PlanEveryUptoSaid : Prop := planEveryUptoRow.holds Try.pinned (OpenSpec.upto planEverySpec)

/-- 'variorumlaw9.PlanNumbers', WHERE WHAT IT READS IS OF BULK AT MOST 1048576: true; the input reads as it did. -/
def planNumbersUptoRow : OpenClaim := { program := "ytlbkjhfnpjbjlaa", sum := "048207a938b987b6c661041754d80491714eba4ee2175e7b32cc438df79d2607", func := "variorum/variorumlaw9.PlanNumbers", spec := "planNumbers", unfollowed := true, recurses := true, named := ["math/bits.divideError", "math/bits.overflowError"], apart := false, narrowed := true }
def PlanNumbersUptoSaid : Prop := planNumbersUptoRow.holds Try.pinned (OpenSpec.upto planNumbersSpec)

/-- 'variorumlaw9.PlanRuns', WHERE WHAT IT READS IS OF BULK AT MOST 1048576: true; the input reads as it did. -/
def planRunsUptoRow : OpenClaim := { program := "ytlbkjhfnpjbjlaa", sum := "048207a938b987b6c661041754d80491714eba4ee2175e7b32cc438df79d2607", func := "variorum/variorumlaw9.PlanRuns", spec := "planRuns", unfollowed := true, recurses := true, named := ["math/bits.divideError", "math/bits.overflowError"], apart := false, narrowed := true }
def PlanRunsUptoSaid : Prop := planRunsUptoRow.holds Try.pinned (OpenSpec.upto planRunsSpec)

end Rows
end Go.Proofs.Ytlbkjhfnpjbjlaa
