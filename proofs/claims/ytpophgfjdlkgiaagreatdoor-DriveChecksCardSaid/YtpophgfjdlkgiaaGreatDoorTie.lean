/-
  DERIVED. GIVEN WITH THE SEED: THE PROGRAM's TIES (one call each: nine closed facts by the kernel) AND EACH ROW's TIE, after the 31st guide's Derived/Test/Toyas{Tie, Card}.lean. No idea stands in it: it is a product of the set-up. Laid BY PROGRAM, IN A SANDBOX (cutbox-door.mjs). By AI agents, Wed Nov 11 2026. No macro, syntax, notation, axiom, sorry.
-/
import Derived.Test.YtpophgfjdlkgiaaGreatDoorRows
import Derived.LaidByTextLater
import Derived.SevenTiedAt
import Derived.LaidSub
import Derived.LaidOnce
namespace Go.Proofs.YtpophgfjdlkgiaaGreatDoor
open Go
set_option maxRecDepth 100000
theorem seatTie1 : Tryz.prog.laidByTextLater [("cochineal/micro.ends", Rows.laid_cochineal_micro_ends), ("cochineal/micro.jumps", Rows.laid_cochineal_micro_jumps), ("cochineal/memory.kinds", Rows.laid_cochineal_memory_kinds)] [.data, .widerDeep, .widerDeep] true :=
  Program.laidByTextLater_by_one 57 8 41 (by kernel_rfl) (by kernel_rfl) (by kernel_rfl) (by kernel_rfl) (by kernel_rfl) (by kernel_rfl) (fun _ _ => by kernel_rfl)
theorem noOwnUnsafe : Tryz.pinned.checked.prog.headLifts.contains "ownunsafe" = false := by kernel_rfl
theorem tie : Tryz.prog.laidByTextLater [("cochineal/micro.ends", Rows.laid_cochineal_micro_ends), ("cochineal/micro.jumps", Rows.laid_cochineal_micro_jumps), ("cochineal/memory.kinds", Rows.laid_cochineal_memory_kinds)] [.data, .widerDeep, .widerDeep] true :=
  Program.laidByTextLater.sub seatTie1 ["cochineal/micro.ends", "cochineal/micro.jumps", "cochineal/memory.kinds"] (by kernel_rfl) (by kernel_rfl)
theorem driveChecks_row_tie : Rows.driveChecksRow.laidByTextAt .later Tryz.pinned [.data, .widerDeep, .widerDeep] true :=
  OpenClaim.laidByTextAt_later rfl rfl tie noOwnUnsafe
end Go.Proofs.YtpophgfjdlkgiaaGreatDoor
