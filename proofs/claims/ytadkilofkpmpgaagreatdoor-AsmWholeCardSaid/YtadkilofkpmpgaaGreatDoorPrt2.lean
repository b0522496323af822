/- 'asm.Print': where the number has two digits and more. -/
import Derived.Test.YtadkilofkpmpgaaGreatDoorPrt
namespace Go.Proofs.YtadkilofkpmpgaaGreatDoor
open Go Go.RowKit
set_option maxRecDepth 100000
theorem prt_22 (n : Int) : good2.map (fun b => runP 2 b n [(1, false), (1, false)]) = good2.map (fun b => some (.tuple ⟨[.string ⟨⟨lineT b 2 n⟩⟩, .int .i64 0]⟩, [], ascOk ⟨⟨hexS 2 n⟩⟩ ∧ hasD 2 n ∧ chkOb b n)) := by kernel_rfl
theorem prt_41 (n : Int) : good4.map (fun b => runP 1 b n [(1, false), (1, false)]) = good4.map (fun b => some (.tuple ⟨[.string ⟨⟨lineT b 1 n⟩⟩, .int .i64 0]⟩, [], ascOk ⟨⟨hexS 1 n⟩⟩ ∧ hasD 1 n ∧ chkOb b n)) := by kernel_rfl
end Go.Proofs.YtadkilofkpmpgaaGreatDoor
