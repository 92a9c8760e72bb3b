/-
  No cell of these rows narrows 'for every input' (looked for: loops, veiled, ifaces, maps, wideKeys, modest, calm, conditions, laid).
  DERIVED. THE GIVEN ROWS OF THIS SEAT. 4 by the template 'for every input the law returns true; each argument reads behind the call as it read before'; 0 by the template 'total and deterministic' (their statements: YtjbjiomajldkoaaTotals.lean).
  GIVEN WITH THE SEED: the statements are not yours to turn. If you find one false, say at which input.
  Laid BY PROGRAM, IN A SANDBOX (cutbox-rows.mjs): the forced cells as the released guide's own fill.sh prints them over the translation 5bd4ea6028c94fe3… (all of the seat's roots in one cut). By AI agents, Wed Nov 11 2026. No macro, syntax, notation, axiom, sorry.
-/
import Derived.Test.YtjbjiomajldkoaaChecked
import GoSem.Claim
import GoSem.ClaimJoined
import GoSem.ClaimMapViews
import Derived.JoinedTies
import Derived.KernelRfl
namespace Go.Proofs.Ytjbjiomajldkoaa
/- THE CELL 'sum', in the pinned program and in every row, IS THE sha256 OF THE DUMP (.gsa) THAT YtjbjiomajldkoaaProg.lean LOADS. Nothing in Lean hashes anything: it is a label: what it is worth is what the hold of that sum in a sandbox is worth. -/
noncomputable def Try.pinned : Pinned := { name := "ytjbjiomajldkoaa", sum := "5bd4ea6028c94fe38914bc0175d340f1fea679e2699a9df6a3a9c7bbc825806e", checked := Try.checked }
namespace Rows
def none {H : Type} : Left H := { results := [], args := [] }

/-- 'variorumlaw20.ClothLasts': WHATEVER THE INPUT: true; the input reads as it did. -/
def clothLastsSpec : ChangeSpec := { name := "clothLasts", fn := fun _ => fun
  | [d1, d2, d3] => { results := [.lit (.bool true)], args := [d1, d2, d3] }
  | _ => none }
def clothLastsRow : OpenClaim := { program := "ytjbjiomajldkoaa", sum := "5bd4ea6028c94fe38914bc0175d340f1fea679e2699a9df6a3a9c7bbc825806e", func := "variorum/variorumlaw20.ClothLasts", spec := "clothLasts", unfollowed := true, recurses := true, apart := false }
def ClothLastsSaid : Prop := clothLastsRow.holds Try.pinned (OpenSpec.ofChange clothLastsSpec)

/-- ITS FALSE NEIGHBOUR: 'it returns false'. Refute it at one input. -/
def clothLastsWrong : ChangeSpec := { name := "clothLasts", fn := fun _ => fun
  | [d1, d2, d3] => { results := [.lit (.bool false)], args := [d1, d2, d3] }
  | _ => none }
def ClothLastsWrongFalsely : Prop := clothLastsRow.holds Try.pinned (OpenSpec.ofChange clothLastsWrong)

/-- 'variorumlaw20.ClothOrder': WHATEVER THE INPUT: true; the input reads as it did. -/
def clothOrderSpec : ChangeSpec := { name := "clothOrder", fn := fun _ => fun
  | [d1, d2] => { results := [.lit (.bool true)], args := [d1, d2] }
  | _ => none }
def clothOrderRow : OpenClaim := { program := "ytjbjiomajldkoaa", sum := "5bd4ea6028c94fe38914bc0175d340f1fea679e2699a9df6a3a9c7bbc825806e", func := "variorum/variorumlaw20.ClothOrder", spec := "clothOrder", unfollowed := true, recurses := true, apart := false }
def ClothOrderSaid : Prop := clothOrderRow.holds Try.pinned (OpenSpec.ofChange clothOrderSpec)

/-- ITS FALSE NEIGHBOUR: 'it returns false'. Refute it at one input. -/
def clothOrderWrong : ChangeSpec := { name := "clothOrder", fn := fun _ => fun
  | [d1, d2] => { results := [.lit (.bool false)], args := [d1, d2] }
  | _ => none }
def ClothOrderWrongFalsely : Prop := clothOrderRow.holds Try.pinned (OpenSpec.ofChange clothOrderWrong)

/-- 'variorumlaw20.ClothSnags': WHATEVER THE INPUT: true; the input reads as it did. -/
def clothSnagsSpec : ChangeSpec := { name := "clothSnags", fn := fun _ => fun
  | [d1, d2, d3] => { results := [.lit (.bool true)], args := [d1, d2, d3] }
  | _ => none }
def clothSnagsRow : OpenClaim := { program := "ytjbjiomajldkoaa", sum := "5bd4ea6028c94fe38914bc0175d340f1fea679e2699a9df6a3a9c7bbc825806e", func := "variorum/variorumlaw20.ClothSnags", spec := "clothSnags", unfollowed := true, recurses := true, apart := false }
def ClothSnagsSaid : Prop := clothSnagsRow.holds Try.pinned (OpenSpec.ofChange clothSnagsSpec)

/-- ITS FALSE NEIGHBOUR: 'it returns false'. Refute it at one input. -/
def clothSnagsWrong : ChangeSpec := { name := "clothSnags", fn := fun _ => fun
  | [d1, d2, d3] => { results := [.lit (.bool false)], args := [d1, d2, d3] }
  | _ => none }
def ClothSnagsWrongFalsely : Prop := clothSnagsRow.holds Try.pinned (OpenSpec.ofChange clothSnagsWrong)

/-- 'variorumlaw20.ClothPlays': WHATEVER THE INPUT: true; the input reads as it did. -/
def clothPlaysSpec : ChangeSpec := { name := "clothPlays", fn := fun _ => fun
  | [d1, d2] => { results := [.lit (.bool true)], args := [d1, d2] }
  | _ => none }
def clothPlaysRow : OpenClaim := { program := "ytjbjiomajldkoaa", sum := "5bd4ea6028c94fe38914bc0175d340f1fea679e2699a9df6a3a9c7bbc825806e", func := "variorum/variorumlaw20.ClothPlays", spec := "clothPlays", unfollowed := true, recurses := true, apart := false }
def ClothPlaysSaid : Prop := clothPlaysRow.holds Try.pinned (OpenSpec.ofChange clothPlaysSpec)

/-- ITS FALSE NEIGHBOUR: 'it returns false'. Refute it at one input. -/
def clothPlaysWrong : ChangeSpec := { name := "clothPlays", fn := fun _ => fun
  | [d1, d2] => { results := [.lit (.bool false)], args := [d1, d2] }
  | _ => none }
def ClothPlaysWrongFalsely : Prop := clothPlaysRow.holds Try.pinned (OpenSpec.ofChange clothPlaysWrong)

/- THE SECOND FORM. 'bulk': how many values and letters a reading holds, each counted each time it is reached (what is shared counts as often as it is met; a slice's spare places count too). A statement '..UptoSaid' is the law's where the arguments, and the package variables that the reading takes, are together of bulk at most 1048576: NARROWER than '..Said'. Prove '..Said' where nothing that the law and all that it calls make is longer than what came in: it says more and counts as full. Else prove '..UptoSaid'. A law counts once. -/
mutual
def uptoBulk {H : Type} : DataW H → Nat
  | .lit (.string bytes) => bytes.length + 1
  | .lit _ => 1
  | .nil => 1
  | .ptr d => uptoBulk d + 1
  | .slice elems spare => uptoBulkAll elems + uptoBulkAll spare + 1
  | .agg parts => uptoBulkAll parts + 1
  | .iface _ d => uptoBulk d + 1
  | .map entries => uptoBulkEntries entries + 1
  | .held _ => 1
def uptoBulkAll {H : Type} : List (DataW H) → Nat
  | [] => 0
  | d :: r => uptoBulk d + uptoBulkAll r
def uptoBulkEntries {H : Type} : List (Lit × DataW H) → Nat
  | [] => 0
  | x :: r => uptoBulkEntry x + uptoBulkEntries r
def uptoBulkEntry {H : Type} : Lit × DataW H → Nat
  | (.string bytes, d) => bytes.length + uptoBulk d + 1
  | (_, d) => uptoBulk d + 1
 end
def uptoSmall : (H : Type) → List (DataW H) → Bool := fun _ ds => decide (uptoBulkAll ds ≤ 1048576)
def OpenSpec.upto (s : _root_.Go.ChangeSpec) : _root_.Go.OpenSpec := { _root_.Go.OpenSpec.ofChange s with cond := some uptoSmall }

/-- 'variorumlaw20.ClothLasts', WHERE WHAT IT READS IS OF BULK AT MOST 1048576: true; the input reads as it did. -/
def clothLastsUptoRow : OpenClaim := { program := "ytjbjiomajldkoaa", sum := "5bd4ea6028c94fe38914bc0175d340f1fea679e2699a9df6a3a9c7bbc825806e", func := "variorum/variorumlaw20.ClothLasts", spec := "clothLasts", unfollowed := true, recurses := true, apart := false, narrowed := true }
def ClothLastsUptoSaid : Prop := clothLastsUptoRow.holds Try.pinned (OpenSpec.upto clothLastsSpec)

/-- 'variorumlaw20.ClothOrder', WHERE WHAT IT READS IS OF BULK AT MOST 1048576: true; the input reads as it did. -/
def clothOrderUptoRow : OpenClaim := { program := "ytjbjiomajldkoaa", sum := "5bd4ea6028c94fe38914bc0175d340f1fea679e2699a9df6a3a9c7bbc825806e", func := "variorum/variorumlaw20.ClothOrder", spec := "clothOrder", unfollowed := true, recurses := true, apart := false, narrowed := true }
def ClothOrderUptoSaid : Prop := clothOrderUptoRow.holds Try.pinned (OpenSpec.upto clothOrderSpec)

/-- 'variorumlaw20.ClothSnags', WHERE WHAT IT READS IS OF BULK AT MOST 1048576: true; the input reads as it did. -/
def clothSnagsUptoRow : OpenClaim := { program := "ytjbjiomajldkoaa", sum := "5bd4ea6028c94fe38914bc0175d340f1fea679e2699a9df6a3a9c7bbc825806e", func := "variorum/variorumlaw20.ClothSnags", spec := "clothSnags", unfollowed := true, recurses := true, apart := false, narrowed := true }
def ClothSnagsUptoSaid : Prop := clothSnagsUptoRow.holds Try.pinned (OpenSpec.upto clothSnagsSpec)

/-- 'variorumlaw20.ClothPlays', WHERE WHAT IT READS IS OF BULK AT MOST 1048576: true; the input reads as it did. -/
def clothPlaysUptoRow : OpenClaim := { program := "ytjbjiomajldkoaa", sum := "5bd4ea6028c94fe38914bc0175d340f1fea679e2699a9df6a3a9c7bbc825806e", func := "variorum/variorumlaw20.ClothPlays", spec := "clothPlays", unfollowed := true, recurses := true, apart := false, narrowed := true }
def ClothPlaysUptoSaid : Prop := clothPlaysUptoRow.holds Try.pinned (OpenSpec.upto clothPlaysSpec)

end Rows
end Go.Proofs.Ytjbjiomajldkoaa
