/-
  No cell of these rows narrows 'for every input' (looked for: loops, veiled, ifaces, maps, wideKeys, modest, calm, conditions, laid).
  DERIVED. THE GIVEN ROWS OF THIS SEAT. 3 by the template 'for every input the law returns true; each argument reads behind the call as it read before'; 0 by the template 'total and deterministic' (their statements: YtlgfmphjgijilaaTotals.lean).
  GIVEN WITH THE SEED: the statements are not yours to turn. If you find one false, say at which input.
  Laid BY PROGRAM, IN A SANDBOX (cutbox-rows.mjs): the forced cells as the released guide's own fill.sh prints them over the translation 45d695398159a9df… (all of the seat's roots in one cut). By AI agents, Wed Nov 11 2026. No macro, syntax, notation, axiom, sorry.
-/
import Derived.Test.YtlgfmphjgijilaaChecked
import GoSem.Claim
import GoSem.ClaimJoined
import GoSem.ClaimMapViews
import Derived.JoinedTies
import Derived.KernelRfl
namespace Go.Proofs.Ytlgfmphjgijilaa
/- THE CELL 'sum', in the pinned program and in every row, IS THE sha256 OF THE DUMP (.gsa) THAT YtlgfmphjgijilaaProg.lean LOADS. Nothing in Lean hashes anything: it is a label: what it is worth is what the hold of that sum in a sandbox is worth. -/
noncomputable def Try.pinned : Pinned := { name := "ytlgfmphjgijilaa", sum := "45d695398159a9dfd970042a70b28896eb05a58975a5a88c1ae33475e24d6720", checked := Try.checked }
namespace Rows
def none {H : Type} : Left H := { results := [], args := [] }

/-- 'variorumlaw6.BookFull': WHATEVER THE INPUT: true; the input reads as it did. -/
def bookFullSpec : ChangeSpec := { name := "bookFull", fn := fun _ => fun
  | [d] => { results := [.lit (.bool true)], args := [d] }
  | _ => none }
def bookFullRow : OpenClaim := { program := "ytlgfmphjgijilaa", sum := "45d695398159a9dfd970042a70b28896eb05a58975a5a88c1ae33475e24d6720", func := "variorum/variorumlaw6.BookFull", spec := "bookFull", inPlace := ["slices.overlaps[variorum/api.Journal]"], unfollowed := true, recurses := true, apart := false }
def BookFullSaid : Prop := bookFullRow.holds Try.pinned (OpenSpec.ofChange bookFullSpec)

/-- ITS FALSE NEIGHBOUR: 'it returns false'. Refute it at one input. -/
def bookFullWrong : ChangeSpec := { name := "bookFull", fn := fun _ => fun
  | [d] => { results := [.lit (.bool false)], args := [d] }
  | _ => none }
def BookFullWrongFalsely : Prop := bookFullRow.holds Try.pinned (OpenSpec.ofChange bookFullWrong)

/-- 'variorumlaw6.BookVoids': WHATEVER THE INPUT: true; the input reads as it did. -/
def bookVoidsSpec : ChangeSpec := { name := "bookVoids", fn := fun _ => fun
  | [d1, d2] => { results := [.lit (.bool true)], args := [d1, d2] }
  | _ => none }
def bookVoidsRow : OpenClaim := { program := "ytlgfmphjgijilaa", sum := "45d695398159a9dfd970042a70b28896eb05a58975a5a88c1ae33475e24d6720", func := "variorum/variorumlaw6.BookVoids", spec := "bookVoids", inPlace := ["slices.overlaps[variorum/api.Journal]"], unfollowed := true, recurses := true, apart := false }
def BookVoidsSaid : Prop := bookVoidsRow.holds Try.pinned (OpenSpec.ofChange bookVoidsSpec)

/-- ITS FALSE NEIGHBOUR: 'it returns false'. Refute it at one input. -/
def bookVoidsWrong : ChangeSpec := { name := "bookVoids", fn := fun _ => fun
  | [d1, d2] => { results := [.lit (.bool false)], args := [d1, d2] }
  | _ => none }
def BookVoidsWrongFalsely : Prop := bookVoidsRow.holds Try.pinned (OpenSpec.ofChange bookVoidsWrong)

/-- 'variorumlaw6.BookOf': WHATEVER THE INPUT: true; the input reads as it did. -/
def bookOfSpec : ChangeSpec := { name := "bookOf", fn := fun _ => fun
  | [d1, d2] => { results := [.lit (.bool true)], args := [d1, d2] }
  | _ => none }
def bookOfRow : OpenClaim := { program := "ytlgfmphjgijilaa", sum := "45d695398159a9dfd970042a70b28896eb05a58975a5a88c1ae33475e24d6720", func := "variorum/variorumlaw6.BookOf", spec := "bookOf", inPlace := ["slices.overlaps[variorum/api.Journal]"], unfollowed := true, recurses := true, apart := false }
def BookOfSaid : Prop := bookOfRow.holds Try.pinned (OpenSpec.ofChange bookOfSpec)

/-- ITS FALSE NEIGHBOUR: 'it returns false'. Refute it at one input. -/
def bookOfWrong : ChangeSpec := { name := "bookOf", fn := fun _ => fun
  | [d1, d2] => { results := [.lit (.bool false)], args := [d1, d2] }
  | _ => none }
def BookOfWrongFalsely : Prop := bookOfRow.holds Try.pinned (OpenSpec.ofChange bookOfWrong)

/- THE SECOND FORM. 'bulk': how many values and letters a reading holds, each counted each time it is reached (what is shared counts as often as it is met; a slice's spare places count too). A statement '..UptoSaid' is the law's where the arguments, and the package variables that the reading takes, are together of bulk at most 1048576: NARROWER than '..Said'. Prove '..Said' where nothing that the law and all that it calls make is longer than what came in: it says more and counts as full. Else prove '..UptoSaid'. A law counts once. -/
mutual
def uptoBulk {H : Type} : DataW H → Nat
  | .lit (.string bytes) => bytes.length + 1
  | .lit _ => 1
  | .nil => 1
  | .ptr d => uptoBulk d + 1
  | .slice elems spare => uptoBulkAll elems + uptoBulkAll spare + 1
  | .agg parts => uptoBulkAll parts + 1
  | .iface _ d => uptoBulk d + 1
  | .map entries => uptoBulkEntries entries + 1
  | .held _ => 1
def uptoBulkAll {H : Type} : List (DataW H) → Nat
  | [] => 0
  | d :: r => uptoBulk d + uptoBulkAll r
def uptoBulkEntries {H : Type} : List (Lit × DataW H) → Nat
  | [] => 0
  | x :: r => uptoBulkEntry x + uptoBulkEntries r
def uptoBulkEntry {H : Type} : Lit × DataW H → Nat
  | (.string bytes, d) => bytes.length + uptoBulk d + 1
  | (_, d) => uptoBulk d + 1
 end
def uptoSmall : (H : Type) → List (DataW H) → Bool := fun _ ds => decide (uptoBulkAll ds ≤ 1048576)
def OpenSpec.upto (s : _root_.Go.ChangeSpec) : _root_.Go.OpenSpec := { _root_.Go.OpenSpec.ofChange s with cond := some uptoSmall }

/-- 'variorumlaw6.BookFull', WHERE WHAT IT READS IS OF BULK AT MOST 1048576: true; the input reads as it did. -/
def bookFullUptoRow : OpenClaim := { program := "ytlgfmphjgijilaa", sum := "45d695398159a9dfd970042a70b28896eb05a58975a5a88c1ae33475e24d6720", func := "variorum/variorumlaw6.BookFull", spec := "bookFull", inPlace := ["slices.overlaps[variorum/api.Journal]"], unfollowed := true, recurses := true, apart := false, narrowed := true }
def BookFullUptoSaid : Prop := bookFullUptoRow.holds Try.pinned (OpenSpec.upto bookFullSpec)

/-- 'variorumlaw6.BookVoids', WHERE WHAT IT READS IS OF BULK AT MOST 1048576: true; the input reads as it did. -/
def bookVoidsUptoRow : OpenClaim := { program := "ytlgfmphjgijilaa", sum := "45d695398159a9dfd970042a70b28896eb05a58975a5a88c1ae33475e24d6720", func := "variorum/variorumlaw6.BookVoids", spec := "bookVoids", inPlace := ["slices.overlaps[variorum/api.Journal]"], unfollowed := true, recurses := true, apart := false, narrowed := true }
def BookVoidsUptoSaid : Prop := bookVoidsUptoRow.holds Try.pinned (OpenSpec.upto bookVoidsSpec)

/-- 'variorumlaw6.BookOf', WHERE WHAT IT READS IS OF BULK AT MOST 1048576: true; the input reads as it did. -/
def bookOfUptoRow : OpenClaim := { program := "ytlgfmphjgijilaa", sum := "45d695398159a9dfd970042a70b28896eb05a58975a5a88c1ae33475e24d6720", func := "variorum/variorumlaw6.BookOf", spec := "bookOf", inPlace := ["slices.overlaps[variorum/api.Journal]"], unfollowed := true, recurses := true, apart := false, narrowed := true }
def BookOfUptoSaid : Prop := bookOfUptoRow.holds Try.pinned (OpenSpec.upto bookOfSpec)

end Rows
end Go.Proofs.Ytlgfmphjgijilaa
