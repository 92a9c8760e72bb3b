/-
  No cell of these rows narrows 'for every input' (looked for: loops, veiled, ifaces, maps, wideKeys, modest, calm, conditions, laid).
  DERIVED. THE GIVEN ROWS OF THIS SEAT. 4 by the template 'for every input the law returns true; each argument reads behind the call as it read before'; 0 by the template 'total and deterministic' (their statements: YtaabkapjdmceaaaTotals.lean).
  GIVEN WITH THE SEED: the statements are not yours to turn. If you find one false, say at which input.
  Laid BY PROGRAM, IN A SANDBOX (cutbox-rows.mjs): the forced cells as the released guide's own fill.sh prints them over the translation 9df61f79a4cb8c39… (all of the seat's roots in one cut). By AI agents, Wed Nov 11 2026. No macro, syntax, notation, axiom, sorry.
-/
import Derived.Test.YtaabkapjdmceaaaChecked
import GoSem.Claim
import GoSem.ClaimJoined
import GoSem.ClaimMapViews
import Derived.JoinedTies
import Derived.KernelRfl
namespace Go.Proofs.Ytaabkapjdmceaaa
/- THE CELL 'sum', in the pinned program and in every row, IS THE sha256 OF THE DUMP (.gsa) THAT YtaabkapjdmceaaaProg.lean LOADS. Nothing in Lean hashes anything: it is a label: what it is worth is what the hold of that sum in a sandbox is worth. -/
noncomputable def Try.pinned : Pinned := { name := "ytaabkapjdmceaaa", sum := "9df61f79a4cb8c3979fea8d5a88aa1b1e71317fbe86503bd20e7b511a523ae27", checked := Try.checked }
namespace Rows
def none {H : Type} : Left H := { results := [], args := [] }

/-- 'variorumlaw18.LineageFull': WHATEVER THE INPUT: true; the input reads as it did. -/
def lineageFullSpec : ChangeSpec := { name := "lineageFull", fn := fun _ => fun
  | [d] => { results := [.lit (.bool true)], args := [d] }
  | _ => none }
def lineageFullRow : OpenClaim := { program := "ytaabkapjdmceaaa", sum := "9df61f79a4cb8c3979fea8d5a88aa1b1e71317fbe86503bd20e7b511a523ae27", func := "variorum/variorumlaw18.LineageFull", spec := "lineageFull", unfollowed := true, recurses := true, apart := false }
def LineageFullSaid : Prop := lineageFullRow.holds Try.pinned (OpenSpec.ofChange lineageFullSpec)

/-- ITS FALSE NEIGHBOUR: 'it returns false'. Refute it at one input. -/
def lineageFullWrong : ChangeSpec := { name := "lineageFull", fn := fun _ => fun
  | [d] => { results := [.lit (.bool false)], args := [d] }
  | _ => none }
def LineageFullWrongFalsely : Prop := lineageFullRow.holds Try.pinned (OpenSpec.ofChange lineageFullWrong)

/-- 'variorumlaw18.LineageBases': WHATEVER THE INPUT: true; the input reads as it did. -/
def lineageBasesSpec : ChangeSpec := { name := "lineageBases", fn := fun _ => fun
  | [d1, d2, d3] => { results := [.lit (.bool true)], args := [d1, d2, d3] }
  | _ => none }
def lineageBasesRow : OpenClaim := { program := "ytaabkapjdmceaaa", sum := "9df61f79a4cb8c3979fea8d5a88aa1b1e71317fbe86503bd20e7b511a523ae27", func := "variorum/variorumlaw18.LineageBases", spec := "lineageBases", unfollowed := true, recurses := true, apart := false }
def LineageBasesSaid : Prop := lineageBasesRow.holds Try.pinned (OpenSpec.ofChange lineageBasesSpec)

/-- ITS FALSE NEIGHBOUR: 'it returns false'. Refute it at one input. -/
def lineageBasesWrong : ChangeSpec := { name := "lineageBases", fn := fun _ => fun
  | [d1, d2, d3] => { results := [.lit (.bool false)], args := [d1, d2, d3] }
  | _ => none }
def LineageBasesWrongFalsely : Prop := lineageBasesRow.holds Try.pinned (OpenSpec.ofChange lineageBasesWrong)

/-- 'variorumlaw18.LineageChain': WHATEVER THE INPUT: true; the input reads as it did. -/
def lineageChainSpec : ChangeSpec := { name := "lineageChain", fn := fun _ => fun
  | [d1, d2, d3] => { results := [.lit (.bool true)], args := [d1, d2, d3] }
  | _ => none }
def lineageChainRow : OpenClaim := { program := "ytaabkapjdmceaaa", sum := "9df61f79a4cb8c3979fea8d5a88aa1b1e71317fbe86503bd20e7b511a523ae27", func := "variorum/variorumlaw18.LineageChain", spec := "lineageChain", unfollowed := true, recurses := true, apart := false }
def LineageChainSaid : Prop := lineageChainRow.holds Try.pinned (OpenSpec.ofChange lineageChainSpec)

/-- ITS FALSE NEIGHBOUR: 'it returns false'. Refute it at one input. -/
def lineageChainWrong : ChangeSpec := { name := "lineageChain", fn := fun _ => fun
  | [d1, d2, d3] => { results := [.lit (.bool false)], args := [d1, d2, d3] }
  | _ => none }
def LineageChainWrongFalsely : Prop := lineageChainRow.holds Try.pinned (OpenSpec.ofChange lineageChainWrong)

/-- 'variorumlaw18.LineageCross': WHATEVER THE INPUT: true; the input reads as it did. -/
def lineageCrossSpec : ChangeSpec := { name := "lineageCross", fn := fun _ => fun
  | [d] => { results := [.lit (.bool true)], args := [d] }
  | _ => none }
def lineageCrossRow : OpenClaim := { program := "ytaabkapjdmceaaa", sum := "9df61f79a4cb8c3979fea8d5a88aa1b1e71317fbe86503bd20e7b511a523ae27", func := "variorum/variorumlaw18.LineageCross", spec := "lineageCross", unfollowed := true, recurses := true, apart := false }
def LineageCrossSaid : Prop := lineageCrossRow.holds Try.pinned (OpenSpec.ofChange lineageCrossSpec)

/-- ITS FALSE NEIGHBOUR: 'it returns false'. Refute it at one input. -/
def lineageCrossWrong : ChangeSpec := { name := "lineageCross", fn := fun _ => fun
  | [d] => { results := [.lit (.bool false)], args := [d] }
  | _ => none }
def LineageCrossWrongFalsely : Prop := lineageCrossRow.holds Try.pinned (OpenSpec.ofChange lineageCrossWrong)

/- THE SECOND FORM. 'bulk': how many values and letters a reading holds, each counted each time it is reached (what is shared counts as often as it is met; a slice's spare places count too). A statement '..UptoSaid' is the law's where the arguments, and the package variables that the reading takes, are together of bulk at most 1048576: NARROWER than '..Said'. Prove '..Said' where nothing that the law and all that it calls make is longer than what came in: it says more and counts as full. Else prove '..UptoSaid'. A law counts once. -/
mutual
def uptoBulk {H : Type} : DataW H → Nat
  | .lit (.string bytes) => bytes.length + 1
  | .lit _ => 1
  | .nil => 1
  | .ptr d => uptoBulk d + 1
  | .slice elems spare => uptoBulkAll elems + uptoBulkAll spare + 1
  | .agg parts => uptoBulkAll parts + 1
  | .iface _ d => uptoBulk d + 1
  | .map entries => uptoBulkEntries entries + 1
  | .held _ => 1
def uptoBulkAll {H : Type} : List (DataW H) → Nat
  | [] => 0
  | d :: r => uptoBulk d + uptoBulkAll r
def uptoBulkEntries {H : Type} : List (Lit × DataW H) → Nat
  | [] => 0
  | x :: r => uptoBulkEntry x + uptoBulkEntries r
def uptoBulkEntry {H : Type} : Lit × DataW H → Nat
  | (.string bytes, d) => bytes.length + uptoBulk d + 1
  | (_, d) => uptoBulk d + 1
 end
def uptoSmall : (H : Type) → List (DataW H) → Bool := fun _ ds => decide (uptoBulkAll ds ≤ 1048576)
def OpenSpec.upto (s : _root_.Go.ChangeSpec) : _root_.Go.OpenSpec := { _root_.Go.OpenSpec.ofChange s with cond := some uptoSmall }

/-- 'variorumlaw18.LineageFull', WHERE WHAT IT READS IS OF BULK AT MOST 1048576: true; the input reads as it did. -/
def lineageFullUptoRow : OpenClaim := { program := "ytaabkapjdmceaaa", sum := "9df61f79a4cb8c3979fea8d5a88aa1b1e71317fbe86503bd20e7b511a523ae27", func := "variorum/variorumlaw18.LineageFull", spec := "lineageFull", unfollowed := true, recurses := true, apart := false, narrowed := true }
def LineageFullUptoSaid : Prop := lineageFullUptoRow.holds Try.pinned (OpenSpec.upto lineageFullSpec)

/-- 'variorumlaw18.LineageBases', WHERE WHAT IT READS IS OF BULK AT MOST 1048576: true; the input reads as it did. -/
def lineageBasesUptoRow : OpenClaim := { program := "ytaabkapjdmceaaa", sum := "9df61f79a4cb8c3979fea8d5a88aa1b1e71317fbe86503bd20e7b511a523ae27", func := "variorum/variorumlaw18.LineageBases", spec := "lineageBases", unfollowed := true, recurses := true, apart := false, narrowed := true }
def LineageBasesUptoSaid : Prop := lineageBasesUptoRow.holds Try.pinned (OpenSpec.upto lineageBasesSpec)

/-- 'variorumlaw18.LineageChain', WHERE WHAT IT READS IS OF BULK AT MOST 1048576: true; the input reads as it did. -/
def lineageChainUptoRow : OpenClaim := { program := "ytaabkapjdmceaaa", sum := "9df61f79a4cb8c3979fea8d5a88aa1b1e71317fbe86503bd20e7b511a523ae27", func := "variorum/variorumlaw18.LineageChain", spec := "lineageChain", unfollowed := true, recurses := true, apart := false, narrowed := true }
def LineageChainUptoSaid : Prop := lineageChainUptoRow.holds Try.pinned (OpenSpec.upto lineageChainSpec)

/-- 'variorumlaw18.LineageCross', WHERE WHAT IT READS IS OF BULK AT MOST 1048576: true; the input reads as it did. -/
def lineageCrossUptoRow : OpenClaim := { program := "ytaabkapjdmceaaa", sum := "9df61f79a4cb8c3979fea8d5a88aa1b1e71317fbe86503bd20e7b511a523ae27", func := "variorum/variorumlaw18.LineageCross", spec := "lineageCross", unfollowed := true, recurses := true, apart := false, narrowed := true }
def LineageCrossUptoSaid : Prop := lineageCrossUptoRow.holds Try.pinned (OpenSpec.upto lineageCrossSpec)

end Rows
end Go.Proofs.Ytaabkapjdmceaaa
