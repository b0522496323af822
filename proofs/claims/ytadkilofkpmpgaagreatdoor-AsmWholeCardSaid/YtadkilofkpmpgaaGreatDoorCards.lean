/-
  DERIVED. GIVEN WITH THE SEED: THE CARDS: each row of YtadkilofkpmpgaaGreatDoorRows.lean that lists a variable, with what it lists TIED to the program's text (the seventh form; the later family's looks); each row that meets fmt, with fmt's text TOLD by the authors' own Lean function (tested against real Go, not proved from fmt's source: count such statements apart). THE CARD IS WHAT COUNTS. Prove the row's statement (the work); the ties are given (YtadkilofkpmpgaaGreatDoorTie.lean); close each card by the builder's one call (the guide's Derived/Test/ToyasCard.lean, 'card_holds'). Laid BY PROGRAM, IN A SANDBOX (cutbox-door.mjs). By AI agents, Wed Nov 11 2026. No macro, syntax, notation, axiom, sorry.
-/
import Derived.Test.YtadkilofkpmpgaaGreatDoorRows
import GoSem.ClaimSeven
namespace Go.Proofs.YtadkilofkpmpgaaGreatDoor
namespace Rows

/-- THE TIED CARD OF 'cochineallaw05.AsmPrints'. -/
def asmPrintsCard : Claim7 := { stood := { row := asmPrintsRow, standIns := [], harness := (true, "6ed82b2e9c522ca42dd68d3a2dec7e7a3607c32f1ac89d911e82072fa33b739d"), looks := true }, kinds := [], alts := [], laidByText := true, laidKinds := [.data, .data, .data, .data, .sentinel, .sentinel, .data, .pinned, .pinned], laidTests := true, laidLooks := .later }
def AsmPrintsCardSaid : Prop := Claim7.holds Tryz.pinned (.plain (OpenSpec.ofChange asmPrintsSpec)) asmPrintsCard

/-- THE TIED CARD OF 'cochineallaw05.AsmTexts'. -/
def asmTextsCard : Claim7 := { stood := { row := asmTextsRow, standIns := [], harness := (true, "6ed82b2e9c522ca42dd68d3a2dec7e7a3607c32f1ac89d911e82072fa33b739d"), looks := true }, kinds := [], alts := [], laidByText := true, laidKinds := [.data, .data, .data, .data, .sentinel, .sentinel, .data, .pinned, .pinned], laidTests := true, laidLooks := .later }
def AsmTextsCardSaid : Prop := Claim7.holds Tryz.pinned (.plain (OpenSpec.ofChange asmTextsSpec)) asmTextsCard

/-- THE TIED CARD OF 'cochineallaw05.AsmWhole'. -/
def asmWholeCard : Claim7 := { stood := { row := asmWholeRow, standIns := [], harness := (true, "6ed82b2e9c522ca42dd68d3a2dec7e7a3607c32f1ac89d911e82072fa33b739d"), looks := true }, kinds := [], alts := [], laidByText := true, laidKinds := [.data, .data, .data, .data, .sentinel, .sentinel, .data, .pinned, .pinned], laidTests := true, laidLooks := .later }
def AsmWholeCardSaid : Prop := Claim7.holds Tryz.pinned (.plain (OpenSpec.ofChange asmWholeSpec)) asmWholeCard

/-- THE SECOND FORM's CARD OF 'cochineallaw05.AsmPrints'. -/
def asmPrintsUptoCard : Claim7 := { stood := { row := asmPrintsUptoRow, standIns := [], harness := (true, "6ed82b2e9c522ca42dd68d3a2dec7e7a3607c32f1ac89d911e82072fa33b739d"), looks := true }, kinds := [], alts := [], laidByText := true, laidKinds := [.data, .data, .data, .data, .sentinel, .sentinel, .data, .pinned, .pinned], laidTests := true, laidLooks := .later }
def AsmPrintsUptoCardSaid : Prop := Claim7.holds Tryz.pinned (.plain (OpenSpec.upto asmPrintsSpec)) asmPrintsUptoCard

/-- THE SECOND FORM's CARD OF 'cochineallaw05.AsmTexts'. -/
def asmTextsUptoCard : Claim7 := { stood := { row := asmTextsUptoRow, standIns := [], harness := (true, "6ed82b2e9c522ca42dd68d3a2dec7e7a3607c32f1ac89d911e82072fa33b739d"), looks := true }, kinds := [], alts := [], laidByText := true, laidKinds := [.data, .data, .data, .data, .sentinel, .sentinel, .data, .pinned, .pinned], laidTests := true, laidLooks := .later }
def AsmTextsUptoCardSaid : Prop := Claim7.holds Tryz.pinned (.plain (OpenSpec.upto asmTextsSpec)) asmTextsUptoCard

/-- THE SECOND FORM's CARD OF 'cochineallaw05.AsmWhole'. -/
def asmWholeUptoCard : Claim7 := { stood := { row := asmWholeUptoRow, standIns := [], harness := (true, "6ed82b2e9c522ca42dd68d3a2dec7e7a3607c32f1ac89d911e82072fa33b739d"), looks := true }, kinds := [], alts := [], laidByText := true, laidKinds := [.data, .data, .data, .data, .sentinel, .sentinel, .data, .pinned, .pinned], laidTests := true, laidLooks := .later }
def AsmWholeUptoCardSaid : Prop := Claim7.holds Tryz.pinned (.plain (OpenSpec.upto asmWholeSpec)) asmWholeUptoCard
end Rows
end Go.Proofs.YtadkilofkpmpgaaGreatDoor
