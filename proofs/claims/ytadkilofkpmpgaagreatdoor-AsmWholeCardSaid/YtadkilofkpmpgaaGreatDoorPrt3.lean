/- 'asm.Print': where the mode writes four digits and the number has two and more. -/
import Derived.Test.YtadkilofkpmpgaaGreatDoorPrt
namespace Go.Proofs.YtadkilofkpmpgaaGreatDoor
open Go Go.RowKit
set_option maxRecDepth 100000
theorem prt_42 (n : Int) : good4.map (fun b => runP 2 b n [(1, false), (1, false)]) = good4.map (fun b => some (.tuple ⟨[.string ⟨⟨lineT b 2 n⟩⟩, .int .i64 0]⟩, [], ascOk ⟨⟨hexS 2 n⟩⟩ ∧ hasD 2 n ∧ chkOb b n)) := by kernel_rfl
theorem prt_43 (n : Int) : good4.map (fun b => runP 3 b n [(1, false), (1, false)]) = good4.map (fun b => some (.tuple ⟨[.string ⟨⟨lineT b 3 n⟩⟩, .int .i64 0]⟩, [], ascOk ⟨⟨hexS 3 n⟩⟩ ∧ hasD 3 n ∧ chkOb b n)) := by kernel_rfl
theorem prt_44 (n : Int) : good4.map (fun b => runP 4 b n [(1, false), (1, false)]) = good4.map (fun b => some (.tuple ⟨[.string ⟨⟨lineT b 4 n⟩⟩, .int .i64 0]⟩, [], ascOk ⟨⟨hexS 4 n⟩⟩ ∧ hasD 4 n ∧ chkOb b n)) := by kernel_rfl
end Go.Proofs.YtadkilofkpmpgaaGreatDoor
