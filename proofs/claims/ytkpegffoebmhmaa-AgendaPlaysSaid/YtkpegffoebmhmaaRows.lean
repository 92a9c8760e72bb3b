/-
  No cell of these rows narrows 'for every input' (looked for: loops, veiled, ifaces, maps, wideKeys, modest, calm, conditions, laid).
  DERIVED. THE GIVEN ROWS OF THIS SEAT. 3 by the template 'for every input the law returns true; each argument reads behind the call as it read before'; 0 by the template 'total and deterministic' (their statements: YtkpegffoebmhmaaTotals.lean).
  GIVEN WITH THE SEED: the statements are not yours to turn. If you find one false, say at which input.
  Laid BY PROGRAM, IN A SANDBOX (cutbox-rows.mjs): the forced cells as the released guide's own fill.sh prints them over the translation fd81b69c2aaf03f5… (all of the seat's roots in one cut). By AI agents, Wed Nov 11 2026. No macro, syntax, notation, axiom, sorry.
-/
import Derived.Test.YtkpegffoebmhmaaChecked
import GoSem.Claim
import GoSem.ClaimJoined
import GoSem.ClaimMapViews
import Derived.JoinedTies
import Derived.KernelRfl
namespace Go.Proofs.Ytkpegffoebmhmaa
/- THE CELL 'sum', in the pinned program and in every row, IS THE sha256 OF THE DUMP (.gsa) THAT YtkpegffoebmhmaaProg.lean LOADS. Nothing in Lean hashes anything: it is a label: what it is worth is what the hold of that sum in a sandbox is worth. -/
noncomputable def Try.pinned : Pinned := { name := "ytkpegffoebmhmaa", sum := "fd81b69c2aaf03f54e8fe2532624f3fc022d0b54eb12d99d193fe1b5745da255", checked := Try.checked }
namespace Rows
def none {H : Type} : Left H := { results := [], args := [] }

/-- 'variorumlaw8.AgendaSorts': WHATEVER THE INPUT: true; the input reads as it did. -/
def agendaSortsSpec : ChangeSpec := { name := "agendaSorts", fn := fun _ => fun
  | [d1, d2] => { results := [.lit (.bool true)], args := [d1, d2] }
  | _ => none }
def agendaSortsRow : OpenClaim := { program := "ytkpegffoebmhmaa", sum := "fd81b69c2aaf03f54e8fe2532624f3fc022d0b54eb12d99d193fe1b5745da255", func := "variorum/variorumlaw8.AgendaSorts", spec := "agendaSorts", unfollowed := true, recurses := true, apart := false }
def AgendaSortsSaid : Prop := agendaSortsRow.holds Try.pinned (OpenSpec.ofChange agendaSortsSpec)

/-- ITS FALSE NEIGHBOUR: 'it returns false'. Refute it at one input. -/
def agendaSortsWrong : ChangeSpec := { name := "agendaSorts", fn := fun _ => fun
  | [d1, d2] => { results := [.lit (.bool false)], args := [d1, d2] }
  | _ => none }
def AgendaSortsWrongFalsely : Prop := agendaSortsRow.holds Try.pinned (OpenSpec.ofChange agendaSortsWrong)

/-- 'variorumlaw8.AgendaPlays': WHATEVER THE INPUT: true; the input reads as it did. -/
def agendaPlaysSpec : ChangeSpec := { name := "agendaPlays", fn := fun _ => fun
  | [d] => { results := [.lit (.bool true)], args := [d] }
  | _ => none }
def agendaPlaysRow : OpenClaim := { program := "ytkpegffoebmhmaa", sum := "fd81b69c2aaf03f54e8fe2532624f3fc022d0b54eb12d99d193fe1b5745da255", func := "variorum/variorumlaw8.AgendaPlays", spec := "agendaPlays", unfollowed := true, recurses := true, apart := false }
def AgendaPlaysSaid : Prop := agendaPlaysRow.holds Try.pinned (OpenSpec.ofChange agendaPlaysSpec)

/-- ITS FALSE NEIGHBOUR: 'it returns false'. Refute it at one input. -/
def agendaPlaysWrong : ChangeSpec := { name := "agendaPlays", fn := fun _ => fun
  | [d] => { results := [.lit (.bool false)], args := [d] }
  | _ => none }
def AgendaPlaysWrongFalsely : Prop := agendaPlaysRow.holds Try.pinned (OpenSpec.ofChange agendaPlaysWrong)

/-- 'variorumlaw8.AgendaTakes': WHATEVER THE INPUT: true; the input reads as it did. -/
def agendaTakesSpec : ChangeSpec := { name := "agendaTakes", fn := fun _ => fun
  | [d1, d2, d3] => { results := [.lit (.bool true)], args := [d1, d2, d3] }
  | _ => none }
def agendaTakesRow : OpenClaim := { program := "ytkpegffoebmhmaa", sum := "fd81b69c2aaf03f54e8fe2532624f3fc022d0b54eb12d99d193fe1b5745da255", func := "variorum/variorumlaw8.AgendaTakes", spec := "agendaTakes", unfollowed := true, recurses := true, apart := false }
def AgendaTakesSaid : Prop := agendaTakesRow.holds Try.pinned (OpenSpec.ofChange agendaTakesSpec)

/-- ITS FALSE NEIGHBOUR: 'it returns false'. Refute it at one input. -/
def agendaTakesWrong : ChangeSpec := { name := "agendaTakes", fn := fun _ => fun
  | [d1, d2, d3] => { results := [.lit (.bool false)], args := [d1, d2, d3] }
  | _ => none }
def AgendaTakesWrongFalsely : Prop := agendaTakesRow.holds Try.pinned (OpenSpec.ofChange agendaTakesWrong)

/- THE SECOND FORM. 'bulk': how many values and letters a reading holds, each counted each time it is reached (what is shared counts as often as it is met; a slice's spare places count too). A statement '..UptoSaid' is the law's where the arguments, and the package variables that the reading takes, are together of bulk at most 1048576: NARROWER than '..Said'. Prove '..Said' where nothing that the law and all that it calls make is longer than what came in: it says more and counts as full. Else prove '..UptoSaid'. A law counts once. -/
mutual
def uptoBulk {H : Type} : DataW H → Nat
  | .lit (.string bytes) => bytes.length + 1
  | .lit _ => 1
  | .nil => 1
  | .ptr d => uptoBulk d + 1
  | .slice elems spare => uptoBulkAll elems + uptoBulkAll spare + 1
  | .agg parts => uptoBulkAll parts + 1
  | .iface _ d => uptoBulk d + 1
  | .map entries => uptoBulkEntries entries + 1
  | .held _ => 1
def uptoBulkAll {H : Type} : List (DataW H) → Nat
  | [] => 0
  | d :: r => uptoBulk d + uptoBulkAll r
def uptoBulkEntries {H : Type} : List (Lit × DataW H) → Nat
  | [] => 0
  | x :: r => uptoBulkEntry x + uptoBulkEntries r
def uptoBulkEntry {H : Type} : Lit × DataW H → Nat
  | (.string bytes, d) => bytes.length + uptoBulk d + 1
  | (_, d) => uptoBulk d + 1
 end
def uptoSmall : (H : Type) → List (DataW H) → Bool := fun _ ds => decide (uptoBulkAll ds ≤ 1048576)
def OpenSpec.upto (s : _root_.Go.ChangeSpec) : _root_.Go.OpenSpec := { _root_.Go.OpenSpec.ofChange s with cond := some uptoSmall }

/-- 'variorumlaw8.AgendaSorts', WHERE WHAT IT READS IS OF BULK AT MOST 1048576: true; the input reads as it did. -/
def agendaSortsUptoRow : OpenClaim := { program := "ytkpegffoebmhmaa", sum := "fd81b69c2aaf03f54e8fe2532624f3fc022d0b54eb12d99d193fe1b5745da255", func := "variorum/variorumlaw8.AgendaSorts", spec := "agendaSorts", unfollowed := true, recurses := true, apart := false, narrowed := true }
def AgendaSortsUptoSaid : Prop := agendaSortsUptoRow.holds Try.pinned (OpenSpec.upto agendaSortsSpec)

/-- 'variorumlaw8.AgendaPlays', WHERE WHAT IT READS IS OF BULK AT MOST 1048576: true; the input reads as it did. -/
def agendaPlaysUptoRow : OpenClaim := { program := "ytkpegffoebmhmaa", sum := "fd81b69c2aaf03f54e8fe2532624f3fc022d0b54eb12d99d193fe1b5745da255", func := "variorum/variorumlaw8.AgendaPlays", spec := "agendaPlays", unfollowed := true, recurses := true, apart := false, narrowed := true }
def AgendaPlaysUptoSaid : Prop := agendaPlaysUptoRow.holds Try.pinned (OpenSpec.upto agendaPlaysSpec)

/-- 'variorumlaw8.AgendaTakes', WHERE WHAT IT READS IS OF BULK AT MOST 1048576: true; the input reads as it did. -/
def agendaTakesUptoRow : OpenClaim := { program := "ytkpegffoebmhmaa", sum := "fd81b69c2aaf03f54e8fe2532624f3fc022d0b54eb12d99d193fe1b5745da255", func := "variorum/variorumlaw8.AgendaTakes", spec := "agendaTakes", unfollowed := true, recurses := true, apart := false, narrowed := true }
def AgendaTakesUptoSaid : Prop := agendaTakesUptoRow.holds Try.pinned (OpenSpec.upto agendaTakesSpec)

end Rows
end Go.Proofs.Ytkpegffoebmhmaa
