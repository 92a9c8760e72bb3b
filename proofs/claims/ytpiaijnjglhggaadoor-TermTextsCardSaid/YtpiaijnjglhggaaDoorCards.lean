/-
  DERIVED. GIVEN WITH THE SEED: THE CARDS: each row of YtpiaijnjglhggaaDoorRows.lean that lists a variable, with what it lists TIED to the program's text (the seventh form; the later family's looks); each row that meets fmt, with fmt's text TOLD by the authors' own Lean function (tested against real Go, not proved from fmt's source: count such statements apart). THE CARD IS WHAT COUNTS. Prove the row's statement (the work); the ties are given (YtpiaijnjglhggaaDoorTie.lean); close each card by the builder's one call (the guide's Derived/Test/ToyasCard.lean, 'card_holds'). Laid BY PROGRAM, IN A SANDBOX (cutbox-door.mjs). By AI agents, Wed Nov 11 2026. No macro, syntax, notation, axiom, sorry.
-/
import Derived.Test.YtpiaijnjglhggaaDoorRows
import GoSem.ClaimSeven
namespace Go.Proofs.YtpiaijnjglhggaaDoor
namespace Rows

/-- THE TIED CARD OF 'variorumlaw2.TermTells'. -/
def termTellsCard : Claim7 := { stood := { row := termTellsRow, standIns := [], harness := (true, "676557a1f027453a0f4d0707ea95574b1b9b2c0904972bee4be0165db4060874"), looks := true }, kinds := [], alts := [], laidByText := true, laidKinds := [.data, .data, .data], laidTests := true, laidLooks := .later }
def TermTellsCardSaid : Prop := Claim7.holds Tryd.pinned (.plain (OpenSpec.ofChange termTellsSpec)) termTellsCard

/-- THE TIED CARD OF 'variorumlaw2.TermSteps'. -/
def termStepsCard : Claim7 := { stood := { row := termStepsRow, standIns := [], harness := (true, "676557a1f027453a0f4d0707ea95574b1b9b2c0904972bee4be0165db4060874"), looks := true }, kinds := [], alts := [], laidByText := true, laidKinds := [.data, .data, .data], laidTests := true, laidLooks := .later }
def TermStepsCardSaid : Prop := Claim7.holds Tryd.pinned (.plain (OpenSpec.ofChange termStepsSpec)) termStepsCard

/-- THE TIED CARD OF 'variorumlaw2.TermYears'. -/
def termYearsCard : Claim7 := { stood := { row := termYearsRow, standIns := [], harness := (true, "676557a1f027453a0f4d0707ea95574b1b9b2c0904972bee4be0165db4060874"), looks := true }, kinds := [], alts := [], laidByText := true, laidKinds := [.data, .data, .data], laidTests := true, laidLooks := .later }
def TermYearsCardSaid : Prop := Claim7.holds Tryd.pinned (.plain (OpenSpec.ofChange termYearsSpec)) termYearsCard

/-- THE TIED CARD OF 'variorumlaw2.TermTexts'. -/
def termTextsCard : Claim7 := { stood := { row := termTextsRow, standIns := [], harness := (true, "676557a1f027453a0f4d0707ea95574b1b9b2c0904972bee4be0165db4060874"), looks := true }, kinds := [], alts := [], laidByText := true, laidKinds := [.data, .data, .data, .sentinel, .sentinel], laidTests := true, laidLooks := .later }
def TermTextsCardSaid : Prop := Claim7.holds Tryd.pinned (.plain (OpenSpec.ofChange termTextsSpec)) termTextsCard

/-- THE SECOND FORM's CARD OF 'variorumlaw2.TermTells'. -/
def termTellsUptoCard : Claim7 := { stood := { row := termTellsUptoRow, standIns := [], harness := (true, "676557a1f027453a0f4d0707ea95574b1b9b2c0904972bee4be0165db4060874"), looks := true }, kinds := [], alts := [], laidByText := true, laidKinds := [.data, .data, .data], laidTests := true, laidLooks := .later }
def TermTellsUptoCardSaid : Prop := Claim7.holds Tryd.pinned (.plain (OpenSpec.upto termTellsSpec)) termTellsUptoCard

/-- THE SECOND FORM's CARD OF 'variorumlaw2.TermSteps'. -/
def termStepsUptoCard : Claim7 := { stood := { row := termStepsUptoRow, standIns := [], harness := (true, "676557a1f027453a0f4d0707ea95574b1b9b2c0904972bee4be0165db4060874"), looks := true }, kinds := [], alts := [], laidByText := true, laidKinds := [.data, .data, .data], laidTests := true, laidLooks := .later }
def TermStepsUptoCardSaid : Prop := Claim7.holds Tryd.pinned (.plain (OpenSpec.upto termStepsSpec)) termStepsUptoCard

/-- THE SECOND FORM's CARD OF 'variorumlaw2.TermYears'. -/
def termYearsUptoCard : Claim7 := { stood := { row := termYearsUptoRow, standIns := [], harness := (true, "676557a1f027453a0f4d0707ea95574b1b9b2c0904972bee4be0165db4060874"), looks := true }, kinds := [], alts := [], laidByText := true, laidKinds := [.data, .data, .data], laidTests := true, laidLooks := .later }
def TermYearsUptoCardSaid : Prop := Claim7.holds Tryd.pinned (.plain (OpenSpec.upto termYearsSpec)) termYearsUptoCard

/-- THE SECOND FORM's CARD OF 'variorumlaw2.TermTexts'. -/
def termTextsUptoCard : Claim7 := { stood := { row := termTextsUptoRow, standIns := [], harness := (true, "676557a1f027453a0f4d0707ea95574b1b9b2c0904972bee4be0165db4060874"), looks := true }, kinds := [], alts := [], laidByText := true, laidKinds := [.data, .data, .data, .sentinel, .sentinel], laidTests := true, laidLooks := .later }
def TermTextsUptoCardSaid : Prop := Claim7.holds Tryd.pinned (.plain (OpenSpec.upto termTextsSpec)) termTextsUptoCard
end Rows
end Go.Proofs.YtpiaijnjglhggaaDoor
