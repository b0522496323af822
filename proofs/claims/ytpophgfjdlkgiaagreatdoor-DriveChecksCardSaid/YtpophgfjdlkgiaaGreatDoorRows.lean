/-
  NARROWER THAN 'FOR EVERY INPUT', by the rows' own cells (each row's printed sentence says how): DriveChecks: calm, laid.
  DERIVED. THE GIVEN ROWS OF THIS SEAT. 1 by the template 'for every input the law returns true; each argument reads behind the call as it read before'; 0 by the template 'total and deterministic' (their statements: YtpophgfjdlkgiaaGreatDoorTotals.lean).
  GIVEN WITH THE SEED: the statements are not yours to turn. If you find one false, say at which input.
  Laid BY PROGRAM, IN A SANDBOX (cutbox-rows.mjs): the forced cells as the released guide's own fill.sh prints them over the translation 7793ecf076f843bb… (all of the seat's roots in one cut). By AI agents, Wed Nov 11 2026. No macro, syntax, notation, axiom, sorry.
-/
import Derived.Test.YtpophgfjdlkgiaaGreatDoorChecked
import GoSem.Claim
import GoSem.ClaimJoined
import GoSem.ClaimMapViews
import Derived.JoinedTies
import Derived.KernelRfl
namespace Go.Proofs.YtpophgfjdlkgiaaGreatDoor
/- THE CELL 'sum', in the pinned program and in every row, IS THE sha256 OF THE DUMP (.gsa) THAT YtpophgfjdlkgiaaGreatDoorProg.lean LOADS. Nothing in Lean hashes anything: it is a label: what it is worth is what the hold of that sum in a sandbox is worth. -/
noncomputable def Tryz.pinned : Pinned := { name := "ytpophgfjdlkgiaagreatdoor", sum := "7793ecf076f843bbd6021c6e3dda3803791ef1a26816ae9cb10b737a1296089e", checked := Tryz.checked }
namespace Rows
def none {H : Type} : Left H := { results := [], args := [] }

/- WHAT THE LISTED PACKAGE-LEVEL VARIABLES READ AS WHEN THE CALL BEGINS. Each datum BY PROGRAM (the guide's laid-datum.mjs) off the statement by which the dump's own 'gosem.cut.vars' lays the variable. In a bare row this is a premise. The card (YtpophgfjdlkgiaaGreatDoorCards.lean) ties it to the program's text. -/
def laid_cochineal_micro_ends {H : Type} : DataW H := .agg [.nil, .slice [.lit (.int .i64 8)] [], .slice [.lit (.int .i64 12)] [], .slice [.lit (.int .i64 9), .lit (.int .i64 10), .lit (.int .i64 11)] []]
def laid_cochineal_micro_jumps {H : Type} : DataW H := .agg [.agg [.agg [.lit (.string [74, 77, 80]), .lit (.int .i64 6), .lit (.int .i64 4)], .slice [.lit (.int .i64 1), .lit (.int .i64 24)] []], .agg [.agg [.lit (.string [74, 77, 80]), .lit (.int .i64 11), .lit (.int .i64 4)], .slice [.lit (.int .i64 1), .lit (.int .i64 2), .lit (.int .i64 22), .lit (.int .i64 23)] []], .agg [.agg [.lit (.string [74, 83, 82]), .lit (.int .i64 6), .lit (.int .i64 4)], .slice [.lit (.int .i64 1), .lit (.int .i64 13), .lit (.int .i64 14), .lit (.int .i64 15), .lit (.int .i64 24)] []], .agg [.agg [.lit (.string [82, 84, 83]), .lit (.int .i64 0), .lit (.int .i64 4)], .slice [.lit (.int .i64 0), .lit (.int .i64 13), .lit (.int .i64 18), .lit (.int .i64 19), .lit (.int .i64 25)] []], .agg [.agg [.lit (.string [82, 84, 73]), .lit (.int .i64 0), .lit (.int .i64 4)], .slice [.lit (.int .i64 0), .lit (.int .i64 13), .lit (.int .i64 20), .lit (.int .i64 18), .lit (.int .i64 19)] []], .agg [.agg [.lit (.string [80, 72, 65]), .lit (.int .i64 0), .lit (.int .i64 4)], .slice [.lit (.int .i64 0), .lit (.int .i64 17)] []], .agg [.agg [.lit (.string [80, 72, 80]), .lit (.int .i64 0), .lit (.int .i64 4)], .slice [.lit (.int .i64 0), .lit (.int .i64 16)] []], .agg [.agg [.lit (.string [80, 76, 65]), .lit (.int .i64 0), .lit (.int .i64 4)], .slice [.lit (.int .i64 0), .lit (.int .i64 13), .lit (.int .i64 21)] []], .agg [.agg [.lit (.string [80, 76, 80]), .lit (.int .i64 0), .lit (.int .i64 4)], .slice [.lit (.int .i64 0), .lit (.int .i64 13), .lit (.int .i64 20)] []], .agg [.agg [.lit (.string [66, 82, 75]), .lit (.int .i64 0), .lit (.int .i64 4)], .slice [.lit (.int .i64 25), .lit (.int .i64 14), .lit (.int .i64 15), .lit (.int .i64 16), .lit (.int .i64 29), .lit (.int .i64 30)] []]]
def laid_cochineal_memory_kinds {H : Type} : DataW H := .agg [.lit (.int .i64 0), .lit (.int .i64 32768), .lit (.int .i64 32784), .lit (.int .i64 49152), .lit (.int .i64 65536)]

/-- 'cochineallaw19.DriveChecks': WHATEVER THE INPUT: true; the input reads as it did. -/
def driveChecksSpec : ChangeSpec := { name := "driveChecks", fn := fun _ => fun
  | [d] => { results := [.lit (.bool true)], args := [d] }
  | _ => none }
def driveChecksRow : OpenClaim := { program := "ytpophgfjdlkgiaagreatdoor", sum := "7793ecf076f843bbd6021c6e3dda3803791ef1a26816ae9cb10b737a1296089e", func := "cochineal/cochineallaw19.DriveChecks", spec := "driveChecks", inPlace := ["math.archTrunc", "math.Float64bits", "math.Float64frombits"], unfollowed := true, recurses := true, named := ["cochineal/memory.kinds", "cochineal/micro.jumps", "cochineal/micro.finds", "cochineal/micro.ends"], apart := false, calm := true, outside := [.timePasses], laid := [("cochineal/micro.ends", laid_cochineal_micro_ends), ("cochineal/micro.jumps", laid_cochineal_micro_jumps), ("cochineal/memory.kinds", laid_cochineal_memory_kinds)] }
def DriveChecksSaid : Prop := driveChecksRow.holds Tryz.pinned (OpenSpec.ofChange driveChecksSpec)

/-- ITS FALSE NEIGHBOUR: 'it returns false'. Refute it at one input. -/
def driveChecksWrong : ChangeSpec := { name := "driveChecks", fn := fun _ => fun
  | [d] => { results := [.lit (.bool false)], args := [d] }
  | _ => none }
def DriveChecksWrongFalsely : Prop := driveChecksRow.holds Tryz.pinned (OpenSpec.ofChange driveChecksWrong)

end Rows
end Go.Proofs.YtpophgfjdlkgiaaGreatDoor
