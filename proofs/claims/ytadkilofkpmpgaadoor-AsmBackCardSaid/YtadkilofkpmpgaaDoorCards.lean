/-
  DERIVED. GIVEN WITH THE SEED: THE CARDS: each row of YtadkilofkpmpgaaDoorRows.lean that lists a variable, with what it lists TIED to the program's text (the seventh form; the later family's looks); each row that meets fmt, with fmt's text TOLD by the authors' own Lean function (tested against real Go, not proved from fmt's source: count such statements apart). THE CARD IS WHAT COUNTS. Prove the row's statement (the work); the ties are given (YtadkilofkpmpgaaDoorTie.lean); close each card by the builder's one call (the guide's Derived/Test/ToyasCard.lean, 'card_holds'). Laid BY PROGRAM, IN A SANDBOX (cutbox-door.mjs). By AI agents, Wed Nov 11 2026. No macro, syntax, notation, axiom, sorry.
-/
import Derived.Test.YtadkilofkpmpgaaDoorRows
import GoSem.ClaimSeven
namespace Go.Proofs.YtadkilofkpmpgaaDoor
namespace Rows

/-- THE TIED CARD OF 'cochineallaw05.AsmMoves'. -/
def asmMovesCard : Claim7 := { stood := { row := asmMovesRow, standIns := [], harness := (true, "a35a477573b4ba0c3fc0372e9d0a643137184e0d9c7b1845f7842e54f3cb44fa"), looks := true }, kinds := [], alts := [], laidByText := true, laidKinds := [.data, .data, .data, .data, .data, .pinned, .pinned], laidTests := true, laidLooks := .later }
def AsmMovesCardSaid : Prop := Claim7.holds Tryd.pinned (.plain (OpenSpec.ofChange asmMovesSpec)) asmMovesCard

/-- THE TIED CARD OF 'cochineallaw05.AsmBytes'. -/
def asmBytesCard : Claim7 := { stood := { row := asmBytesRow, standIns := [], harness := (true, "a35a477573b4ba0c3fc0372e9d0a643137184e0d9c7b1845f7842e54f3cb44fa"), looks := true }, kinds := [], alts := [], laidByText := true, laidKinds := [.data, .data, .data, .data, .data, .pinned, .pinned], laidTests := true, laidLooks := .later }
def AsmBytesCardSaid : Prop := Claim7.holds Tryd.pinned (.plain (OpenSpec.ofChange asmBytesSpec)) asmBytesCard

/-- THE TIED CARD OF 'cochineallaw05.AsmLists'. -/
def asmListsCard : Claim7 := { stood := { row := asmListsRow, standIns := [], harness := (true, "a35a477573b4ba0c3fc0372e9d0a643137184e0d9c7b1845f7842e54f3cb44fa"), looks := true }, kinds := [], alts := [], laidByText := true, laidKinds := [.data, .data, .data, .data, .data, .pinned, .pinned], laidTests := true, laidLooks := .later }
def AsmListsCardSaid : Prop := Claim7.holds Tryd.pinned (.plain (OpenSpec.ofChange asmListsSpec)) asmListsCard

/-- THE TIED CARD OF 'cochineallaw05.AsmBack'. -/
def asmBackCard : Claim7 := { stood := { row := asmBackRow, standIns := [], harness := (true, "a35a477573b4ba0c3fc0372e9d0a643137184e0d9c7b1845f7842e54f3cb44fa"), looks := true }, kinds := [], alts := [], laidByText := true, laidKinds := [.data, .data, .data, .data, .sentinel, .sentinel, .data, .pinned, .pinned], laidTests := true, laidLooks := .later }
def AsmBackCardSaid : Prop := Claim7.holds Tryd.pinned (.plain (OpenSpec.ofChange asmBackSpec)) asmBackCard

/-- THE SECOND FORM's CARD OF 'cochineallaw05.AsmMoves'. -/
def asmMovesUptoCard : Claim7 := { stood := { row := asmMovesUptoRow, standIns := [], harness := (true, "a35a477573b4ba0c3fc0372e9d0a643137184e0d9c7b1845f7842e54f3cb44fa"), looks := true }, kinds := [], alts := [], laidByText := true, laidKinds := [.data, .data, .data, .data, .data, .pinned, .pinned], laidTests := true, laidLooks := .later }
def AsmMovesUptoCardSaid : Prop := Claim7.holds Tryd.pinned (.plain (OpenSpec.upto asmMovesSpec)) asmMovesUptoCard

/-- THE SECOND FORM's CARD OF 'cochineallaw05.AsmBytes'. -/
def asmBytesUptoCard : Claim7 := { stood := { row := asmBytesUptoRow, standIns := [], harness := (true, "a35a477573b4ba0c3fc0372e9d0a643137184e0d9c7b1845f7842e54f3cb44fa"), looks := true }, kinds := [], alts := [], laidByText := true, laidKinds := [.data, .data, .data, .data, .data, .pinned, .pinned], laidTests := true, laidLooks := .later }
def AsmBytesUptoCardSaid : Prop := Claim7.holds Tryd.pinned (.plain (OpenSpec.upto asmBytesSpec)) asmBytesUptoCard

/-- THE SECOND FORM's CARD OF 'cochineallaw05.AsmLists'. -/
def asmListsUptoCard : Claim7 := { stood := { row := asmListsUptoRow, standIns := [], harness := (true, "a35a477573b4ba0c3fc0372e9d0a643137184e0d9c7b1845f7842e54f3cb44fa"), looks := true }, kinds := [], alts := [], laidByText := true, laidKinds := [.data, .data, .data, .data, .data, .pinned, .pinned], laidTests := true, laidLooks := .later }
def AsmListsUptoCardSaid : Prop := Claim7.holds Tryd.pinned (.plain (OpenSpec.upto asmListsSpec)) asmListsUptoCard

/-- THE SECOND FORM's CARD OF 'cochineallaw05.AsmBack'. -/
def asmBackUptoCard : Claim7 := { stood := { row := asmBackUptoRow, standIns := [], harness := (true, "a35a477573b4ba0c3fc0372e9d0a643137184e0d9c7b1845f7842e54f3cb44fa"), looks := true }, kinds := [], alts := [], laidByText := true, laidKinds := [.data, .data, .data, .data, .sentinel, .sentinel, .data, .pinned, .pinned], laidTests := true, laidLooks := .later }
def AsmBackUptoCardSaid : Prop := Claim7.holds Tryd.pinned (.plain (OpenSpec.upto asmBackSpec)) asmBackUptoCard
end Rows
end Go.Proofs.YtadkilofkpmpgaaDoor
