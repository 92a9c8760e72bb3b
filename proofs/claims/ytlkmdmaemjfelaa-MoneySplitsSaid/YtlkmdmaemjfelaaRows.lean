/-
  No cell of these rows narrows 'for every input' (looked for: loops, veiled, ifaces, maps, wideKeys, modest, calm, conditions, laid).
  DERIVED. THE GIVEN ROWS OF THIS SEAT. 7 by the template 'for every input the law returns true; each argument reads behind the call as it read before'; 0 by the template 'total and deterministic' (their statements: YtlkmdmaemjfelaaTotals.lean).
  GIVEN WITH THE SEED: the statements are not yours to turn. If you find one false, say at which input.
  Laid BY PROGRAM, IN A SANDBOX (cutbox-rows.mjs): the forced cells as the released guide's own fill.sh prints them over the translation 7334f7f1543f3e22… (all of the seat's roots in one cut). By AI agents, Wed Nov 11 2026. No macro, syntax, notation, axiom, sorry.
-/
import Derived.Test.YtlkmdmaemjfelaaChecked
import GoSem.Claim
import GoSem.ClaimJoined
import GoSem.ClaimMapViews
import Derived.JoinedTies
import Derived.KernelRfl
namespace Go.Proofs.Ytlkmdmaemjfelaa
/- THE CELL 'sum', in the pinned program and in every row, IS THE sha256 OF THE DUMP (.gsa) THAT YtlkmdmaemjfelaaProg.lean LOADS. Nothing in Lean hashes anything: it is a label: what it is worth is what the hold of that sum in a sandbox is worth. -/
noncomputable def Try.pinned : Pinned := { name := "ytlkmdmaemjfelaa", sum := "7334f7f1543f3e2234d1b9882706cef7eaac28b4ffb8fe5b3e2402b158dd82f6", checked := Try.checked }
namespace Rows
def none {H : Type} : Left H := { results := [], args := [] }

/-- 'variorumlaw1.MoneySplits': WHATEVER THE INPUT: true; the input reads as it did. -/
def moneySplitsSpec : ChangeSpec := { name := "moneySplits", fn := fun _ => fun
  | [d1, d2] => { results := [.lit (.bool true)], args := [d1, d2] }
  | _ => none }
def moneySplitsRow : OpenClaim := { program := "ytlkmdmaemjfelaa", sum := "7334f7f1543f3e2234d1b9882706cef7eaac28b4ffb8fe5b3e2402b158dd82f6", func := "variorum/variorumlaw1.MoneySplits", spec := "moneySplits", unfollowed := true, recurses := true, named := ["math/bits.divideError", "math/bits.overflowError"], apart := false }
def MoneySplitsSaid : Prop := moneySplitsRow.holds Try.pinned (OpenSpec.ofChange moneySplitsSpec)

/-- ITS FALSE NEIGHBOUR: 'it returns false'. Refute it at one input. -/
def moneySplitsWrong : ChangeSpec := { name := "moneySplits", fn := fun _ => fun
  | [d1, d2] => { results := [.lit (.bool false)], args := [d1, d2] }
  | _ => none }
def MoneySplitsWrongFalsely : Prop := moneySplitsRow.holds Try.pinned (OpenSpec.ofChange moneySplitsWrong)

/-- 'variorumlaw1.MoneyTurns': WHATEVER THE INPUT: true; the input reads as it did. -/
def moneyTurnsSpec : ChangeSpec := { name := "moneyTurns", fn := fun _ => fun
  | [d1, d2, d3] => { results := [.lit (.bool true)], args := [d1, d2, d3] }
  | _ => none }
def moneyTurnsRow : OpenClaim := { program := "ytlkmdmaemjfelaa", sum := "7334f7f1543f3e2234d1b9882706cef7eaac28b4ffb8fe5b3e2402b158dd82f6", func := "variorum/variorumlaw1.MoneyTurns", spec := "moneyTurns", unfollowed := true, recurses := true, named := ["math/bits.divideError", "math/bits.overflowError"], apart := false }
def MoneyTurnsSaid : Prop := moneyTurnsRow.holds Try.pinned (OpenSpec.ofChange moneyTurnsSpec)

/-- ITS FALSE NEIGHBOUR: 'it returns false'. Refute it at one input. -/
def moneyTurnsWrong : ChangeSpec := { name := "moneyTurns", fn := fun _ => fun
  | [d1, d2, d3] => { results := [.lit (.bool false)], args := [d1, d2, d3] }
  | _ => none }
def MoneyTurnsWrongFalsely : Prop := moneyTurnsRow.holds Try.pinned (OpenSpec.ofChange moneyTurnsWrong)

/-- 'variorumlaw1.MoneyHalves': WHATEVER THE INPUT: true; the input reads as it did. -/
def moneyHalvesSpec : ChangeSpec := { name := "moneyHalves", fn := fun _ => fun
  | [d] => { results := [.lit (.bool true)], args := [d] }
  | _ => none }
def moneyHalvesRow : OpenClaim := { program := "ytlkmdmaemjfelaa", sum := "7334f7f1543f3e2234d1b9882706cef7eaac28b4ffb8fe5b3e2402b158dd82f6", func := "variorum/variorumlaw1.MoneyHalves", spec := "moneyHalves", unfollowed := true, recurses := true, named := ["math/bits.divideError", "math/bits.overflowError"], apart := false }
def MoneyHalvesSaid : Prop := moneyHalvesRow.holds Try.pinned (OpenSpec.ofChange moneyHalvesSpec)

/-- ITS FALSE NEIGHBOUR: 'it returns false'. Refute it at one input. -/
def moneyHalvesWrong : ChangeSpec := { name := "moneyHalves", fn := fun _ => fun
  | [d] => { results := [.lit (.bool false)], args := [d] }
  | _ => none }
def MoneyHalvesWrongFalsely : Prop := moneyHalvesRow.holds Try.pinned (OpenSpec.ofChange moneyHalvesWrong)

/-- 'variorumlaw1.MoneyEqual': WHATEVER THE INPUT: true; the input reads as it did. -/
def moneyEqualSpec : ChangeSpec := { name := "moneyEqual", fn := fun _ => fun
  | [d1, d2, d3] => { results := [.lit (.bool true)], args := [d1, d2, d3] }
  | _ => none }
def moneyEqualRow : OpenClaim := { program := "ytlkmdmaemjfelaa", sum := "7334f7f1543f3e2234d1b9882706cef7eaac28b4ffb8fe5b3e2402b158dd82f6", func := "variorum/variorumlaw1.MoneyEqual", spec := "moneyEqual", unfollowed := true, recurses := true, named := ["math/bits.divideError", "math/bits.overflowError"], apart := false }
def MoneyEqualSaid : Prop := moneyEqualRow.holds Try.pinned (OpenSpec.ofChange moneyEqualSpec)

/-- ITS FALSE NEIGHBOUR: 'it returns false'. Refute it at one input. -/
def moneyEqualWrong : ChangeSpec := { name := "moneyEqual", fn := fun _ => fun
  | [d1, d2, d3] => { results := [.lit (.bool false)], args := [d1, d2, d3] }
  | _ => none }
def MoneyEqualWrongFalsely : Prop := moneyEqualRow.holds Try.pinned (OpenSpec.ofChange moneyEqualWrong)

/-- 'variorumlaw1.MoneyAdds': WHATEVER THE INPUT: true; the input reads as it did. -/
def moneyAddsSpec : ChangeSpec := { name := "moneyAdds", fn := fun _ => fun
  | [d] => { results := [.lit (.bool true)], args := [d] }
  | _ => none }
def moneyAddsRow : OpenClaim := { program := "ytlkmdmaemjfelaa", sum := "7334f7f1543f3e2234d1b9882706cef7eaac28b4ffb8fe5b3e2402b158dd82f6", func := "variorum/variorumlaw1.MoneyAdds", spec := "moneyAdds", unfollowed := true, recurses := true, named := ["math/bits.divideError", "math/bits.overflowError"], apart := false }
def MoneyAddsSaid : Prop := moneyAddsRow.holds Try.pinned (OpenSpec.ofChange moneyAddsSpec)

/-- ITS FALSE NEIGHBOUR: 'it returns false'. Refute it at one input. -/
def moneyAddsWrong : ChangeSpec := { name := "moneyAdds", fn := fun _ => fun
  | [d] => { results := [.lit (.bool false)], args := [d] }
  | _ => none }
def MoneyAddsWrongFalsely : Prop := moneyAddsRow.holds Try.pinned (OpenSpec.ofChange moneyAddsWrong)

/-- 'variorumlaw1.MoneyFair': WHATEVER THE INPUT: true; the input reads as it did. -/
def moneyFairSpec : ChangeSpec := { name := "moneyFair", fn := fun _ => fun
  | [d1, d2] => { results := [.lit (.bool true)], args := [d1, d2] }
  | _ => none }
def moneyFairRow : OpenClaim := { program := "ytlkmdmaemjfelaa", sum := "7334f7f1543f3e2234d1b9882706cef7eaac28b4ffb8fe5b3e2402b158dd82f6", func := "variorum/variorumlaw1.MoneyFair", spec := "moneyFair", unfollowed := true, recurses := true, named := ["math/bits.divideError", "math/bits.overflowError"], apart := false }
def MoneyFairSaid : Prop := moneyFairRow.holds Try.pinned (OpenSpec.ofChange moneyFairSpec)

/-- ITS FALSE NEIGHBOUR: 'it returns false'. Refute it at one input. -/
def moneyFairWrong : ChangeSpec := { name := "moneyFair", fn := fun _ => fun
  | [d1, d2] => { results := [.lit (.bool false)], args := [d1, d2] }
  | _ => none }
def MoneyFairWrongFalsely : Prop := moneyFairRow.holds Try.pinned (OpenSpec.ofChange moneyFairWrong)

/-- 'variorumlaw1.MoneyOrder': WHATEVER THE INPUT: true; the input reads as it did. -/
def moneyOrderSpec : ChangeSpec := { name := "moneyOrder", fn := fun _ => fun
  | [d1, d2] => { results := [.lit (.bool true)], args := [d1, d2] }
  | _ => none }
def moneyOrderRow : OpenClaim := { program := "ytlkmdmaemjfelaa", sum := "7334f7f1543f3e2234d1b9882706cef7eaac28b4ffb8fe5b3e2402b158dd82f6", func := "variorum/variorumlaw1.MoneyOrder", spec := "moneyOrder", unfollowed := true, recurses := true, named := ["math/bits.divideError", "math/bits.overflowError"], apart := false }
def MoneyOrderSaid : Prop := moneyOrderRow.holds Try.pinned (OpenSpec.ofChange moneyOrderSpec)

/-- ITS FALSE NEIGHBOUR: 'it returns false'. Refute it at one input. -/
def moneyOrderWrong : ChangeSpec := { name := "moneyOrder", fn := fun _ => fun
  | [d1, d2] => { results := [.lit (.bool false)], args := [d1, d2] }
  | _ => none }
def MoneyOrderWrongFalsely : Prop := moneyOrderRow.holds Try.pinned (OpenSpec.ofChange moneyOrderWrong)

/- THE SECOND FORM. 'bulk': how many values and letters a reading holds, each counted each time it is reached (what is shared counts as often as it is met; a slice's spare places count too). A statement '..UptoSaid' is the law's where the arguments, and the package variables that the reading takes, are together of bulk at most 1048576: NARROWER than '..Said'. Prove '..Said' where nothing that the law and all that it calls make is longer than what came in: it says more and counts as full. Else prove '..UptoSaid'. A law counts once. -/
mutual
def uptoBulk {H : Type} : DataW H → Nat
  | .lit (.string bytes) => bytes.length + 1
  | .lit _ => 1
  | .nil => 1
  | .ptr d => uptoBulk d + 1
  | .slice elems spare => uptoBulkAll elems + uptoBulkAll spare + 1
  | .agg parts => uptoBulkAll parts + 1
  | .iface _ d => uptoBulk d + 1
  | .map entries => uptoBulkEntries entries + 1
  | .held _ => 1
def uptoBulkAll {H : Type} : List (DataW H) → Nat
  | [] => 0
  | d :: r => uptoBulk d + uptoBulkAll r
def uptoBulkEntries {H : Type} : List (Lit × DataW H) → Nat
  | [] => 0
  | x :: r => uptoBulkEntry x + uptoBulkEntries r
def uptoBulkEntry {H : Type} : Lit × DataW H → Nat
  | (.string bytes, d) => bytes.length + uptoBulk d + 1
  | (_, d) => uptoBulk d + 1
 end
def uptoSmall : (H : Type) → List (DataW H) → Bool := fun _ ds => decide (uptoBulkAll ds ≤ 1048576)
def OpenSpec.upto (s : _root_.Go.ChangeSpec) : _root_.Go.OpenSpec := { _root_.Go.OpenSpec.ofChange s with cond := some uptoSmall }

/-- 'variorumlaw1.MoneySplits', WHERE WHAT IT READS IS OF BULK AT MOST 1048576: true; the input reads as it did. -/
def moneySplitsUptoRow : OpenClaim := { program := "ytlkmdmaemjfelaa", sum := "7334f7f1543f3e2234d1b9882706cef7eaac28b4ffb8fe5b3e2402b158dd82f6", func := "variorum/variorumlaw1.MoneySplits", spec := "moneySplits", unfollowed := true, recurses := true, named := ["math/bits.divideError", "math/bits.overflowError"], apart := false, narrowed := true }
def MoneySplitsUptoSaid : Prop := moneySplitsUptoRow.holds Try.pinned (OpenSpec.upto moneySplitsSpec)

/-- 'variorumlaw1.MoneyTurns', WHERE WHAT IT READS IS OF BULK AT MOST 1048576: true; the input reads as it did. -/
def moneyTurnsUptoRow : OpenClaim := { program := "ytlkmdmaemjfelaa", sum := "7334f7f1543f3e2234d1b9882706cef7eaac28b4ffb8fe5b3e2402b158dd82f6", func := "variorum/variorumlaw1.MoneyTurns", spec := "moneyTurns", unfollowed := true, recurses := true, named := ["math/bits.divideError", "math/bits.overflowError"], apart := false, narrowed := true }
def MoneyTurnsUptoSaid : Prop := moneyTurnsUptoRow.holds Try.pinned (OpenSpec.upto moneyTurnsSpec)

/-- 'variorumlaw1.MoneyHalves', WHERE WHAT IT READS IS OF BULK AT MOST 1048576: true; the input reads as it did. -/
def moneyHalvesUptoRow : OpenClaim := { program := "ytlkmdmaemjfelaa", sum := "7334f7f1543f3e2234d1b9882706cef7eaac28b4ffb8fe5b3e2402b158dd82f6", func := "variorum/variorumlaw1.MoneyHalves", spec := "moneyHalves", unfollowed := true, recurses := true, named := ["math/bits.divideError", "math/bits.overflowError"], apart := false, narrowed := true }
def MoneyHalvesUptoSaid : Prop := moneyHalvesUptoRow.holds Try.pinned (OpenSpec.upto moneyHalvesSpec)

/-- 'variorumlaw1.MoneyEqual', WHERE WHAT IT READS IS OF BULK AT MOST 1048576: true; the input reads as it did. -/
def moneyEqualUptoRow : OpenClaim := { program := "ytlkmdmaemjfelaa", sum := "7334f7f1543f3e2234d1b9882706cef7eaac28b4ffb8fe5b3e2402b158dd82f6", func := "variorum/variorumlaw1.MoneyEqual", spec := "moneyEqual", unfollowed := true, recurses := true, named := ["math/bits.divideError", "math/bits.overflowError"], apart := false, narrowed := true }
def MoneyEqualUptoSaid : Prop := moneyEqualUptoRow.holds Try.pinned (OpenSpec.upto moneyEqualSpec)

/-- 'variorumlaw1.MoneyAdds', WHERE WHAT IT READS IS OF BULK AT MOST 1048576: true; the input reads as it did. -/
def moneyAddsUptoRow : OpenClaim := { program := "ytlkmdmaemjfelaa", sum := "7334f7f1543f3e2234d1b9882706cef7eaac28b4ffb8fe5b3e2402b158dd82f6", func := "variorum/variorumlaw1.MoneyAdds", spec := "moneyAdds", unfollowed := true, recurses := true, named := ["math/bits.divideError", "math/bits.overflowError"], apart := false, narrowed := true }
def MoneyAddsUptoSaid : Prop := moneyAddsUptoRow.holds Try.pinned (OpenSpec.upto moneyAddsSpec)

/-- 'variorumlaw1.MoneyFair', WHERE WHAT IT READS IS OF BULK AT MOST 1048576: true; the input reads as it did. -/
def moneyFairUptoRow : OpenClaim := { program := "ytlkmdmaemjfelaa", sum := "7334f7f1543f3e2234d1b9882706cef7eaac28b4ffb8fe5b3e2402b158dd82f6", func := "variorum/variorumlaw1.MoneyFair", spec := "moneyFair", unfollowed := true, recurses := true, named := ["math/bits.divideError", "math/bits.overflowError"], apart := false, narrowed := true }
def MoneyFairUptoSaid : Prop := moneyFairUptoRow.holds Try.pinned (OpenSpec.upto moneyFairSpec)

/-- 'variorumlaw1.MoneyOrder', WHERE WHAT IT READS IS OF BULK AT MOST 1048576: true; the input reads as it did. -/
def moneyOrderUptoRow : OpenClaim := { program := "ytlkmdmaemjfelaa", sum := "7334f7f1543f3e2234d1b9882706cef7eaac28b4ffb8fe5b3e2402b158dd82f6", func := "variorum/variorumlaw1.MoneyOrder", spec := "moneyOrder", unfollowed := true, recurses := true, named := ["math/bits.divideError", "math/bits.overflowError"], apart := false, narrowed := true }
def MoneyOrderUptoSaid : Prop := moneyOrderUptoRow.holds Try.pinned (OpenSpec.upto moneyOrderSpec)

end Rows
end Go.Proofs.Ytlkmdmaemjfelaa
