/-
  DERIVED. GIVEN WITH THE SEED: THE CARDS: each row of YtpophgfjdlkgiaaGreatDoorRows.lean that lists a variable, with what it lists TIED to the program's text (the seventh form; the later family's looks); each row that meets fmt, with fmt's text TOLD by the authors' own Lean function (tested against real Go, not proved from fmt's source: count such statements apart). THE CARD IS WHAT COUNTS. Prove the row's statement (the work); the ties are given (YtpophgfjdlkgiaaGreatDoorTie.lean); close each card by the builder's one call (the guide's Derived/Test/ToyasCard.lean, 'card_holds'). Laid BY PROGRAM, IN A SANDBOX (cutbox-door.mjs). By AI agents, Wed Nov 11 2026. No macro, syntax, notation, axiom, sorry.
-/
import Derived.Test.YtpophgfjdlkgiaaGreatDoorRows
import GoSem.ClaimSeven
namespace Go.Proofs.YtpophgfjdlkgiaaGreatDoor
namespace Rows

/-- THE TIED CARD OF 'cochineallaw19.DriveChecks'. -/
def driveChecksCard : Claim7 := { stood := { row := driveChecksRow, standIns := [], harness := (true, "18dc39e8ee5f0e72401ba7d563f73588eb5a636656b6792f34ceed1dcaaebf5b"), looks := false }, kinds := [], alts := [], laidByText := true, laidKinds := [.data, .widerDeep, .widerDeep], laidTests := true, laidLooks := .later }
def DriveChecksCardSaid : Prop := Claim7.holds Tryz.pinned (.plain (OpenSpec.ofChange driveChecksSpec)) driveChecksCard
end Rows
end Go.Proofs.YtpophgfjdlkgiaaGreatDoor
