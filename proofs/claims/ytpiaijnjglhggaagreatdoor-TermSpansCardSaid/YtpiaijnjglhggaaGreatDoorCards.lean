/-
  DERIVED. GIVEN WITH THE SEED: THE CARDS: each row of YtpiaijnjglhggaaGreatDoorRows.lean that lists a variable, with what it lists TIED to the program's text (the seventh form; the later family's looks); each row that meets fmt, with fmt's text TOLD by the authors' own Lean function (tested against real Go, not proved from fmt's source: count such statements apart). THE CARD IS WHAT COUNTS. Prove the row's statement (the work); the ties are given (YtpiaijnjglhggaaGreatDoorTie.lean); close each card by the builder's one call (the guide's Derived/Test/ToyasCard.lean, 'card_holds'). Laid BY PROGRAM, IN A SANDBOX (cutbox-door.mjs). By AI agents, Wed Nov 11 2026. No macro, syntax, notation, axiom, sorry.
-/
import Derived.Test.YtpiaijnjglhggaaGreatDoorRows
import GoSem.ClaimSeven
namespace Go.Proofs.YtpiaijnjglhggaaGreatDoor
namespace Rows

/-- THE TIED CARD OF 'variorumlaw2.TermSpans'. -/
def termSpansCard : Claim7 := { stood := { row := termSpansRow, standIns := [], harness := (true, "da8749eebac0423a3b632448f0f0cc63fa65ce1169c3c7000d7786285e2c6a2d"), looks := false }, kinds := [], alts := [], laidByText := true, laidKinds := [.data, .data, .data], laidTests := true, laidLooks := .later }
def TermSpansCardSaid : Prop := Claim7.holds Tryz.pinned (.plain (OpenSpec.ofChange termSpansSpec)) termSpansCard

/-- THE SECOND FORM's CARD OF 'variorumlaw2.TermSpans'. -/
def termSpansUptoCard : Claim7 := { stood := { row := termSpansUptoRow, standIns := [], harness := (true, "da8749eebac0423a3b632448f0f0cc63fa65ce1169c3c7000d7786285e2c6a2d"), looks := false }, kinds := [], alts := [], laidByText := true, laidKinds := [.data, .data, .data], laidTests := true, laidLooks := .later }
def TermSpansUptoCardSaid : Prop := Claim7.holds Tryz.pinned (.plain (OpenSpec.upto termSpansSpec)) termSpansUptoCard
end Rows
end Go.Proofs.YtpiaijnjglhggaaGreatDoor
