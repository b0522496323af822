/- 'asm.Bytes' of a branch that goes too far. -/
import Derived.Test.YtadkilofkpmpgaaGreatDoorBytE
namespace Go.Proofs.YtadkilofkpmpgaaGreatDoor
open Go Go.RowKit
set_option maxRecDepth 100000
def goodR : List Nat := good.filter fun b => opMode (Int.ofNat b) == 12
def relN (n a : Int) : Int := IntKind.i64.wrap (n - IntKind.i64.wrap (a + 2))
theorem byt_r0 (n a : Int) : goodR.map (fun b => runB b n a [(1, false), (1, false), (1, false), (0, false), (0, false), (1, true)]) = goodR.map (fun b => some (noB 10, [], decide (relN n a < -128) = true ∧ decide (IntKind.i64.wrap (a + lenM (opMode (Int.ofNat b))) > 65536) = false ∧ decide (a > 65535) = false ∧ decide (a < 0) = false ∧ decide (n ≥ limM (opMode (Int.ofNat b))) = false ∧ decide (n < 0) = false ∧ True)) := by kernel_rfl
theorem byt_r1 (n a : Int) : goodR.map (fun b => runB b n a [(1, false), (1, false), (1, false), (0, false), (0, false), (1, false), (0, true)]) = goodR.map (fun b => some (noB 10, [], decide (relN n a ≥ 128) = true ∧ decide (relN n a < -128) = false ∧ decide (IntKind.i64.wrap (a + lenM (opMode (Int.ofNat b))) > 65536) = false ∧ decide (a > 65535) = false ∧ decide (a < 0) = false ∧ decide (n ≥ limM (opMode (Int.ofNat b))) = false ∧ decide (n < 0) = false ∧ True)) := by kernel_rfl
end Go.Proofs.YtadkilofkpmpgaaGreatDoor
