/- 'asm.Bytes' where it answers what is wrong. -/
import Derived.Test.YtadkilofkpmpgaaGreatDoorChk
import Derived.Test.YtadkilofkpmpgaaGreatDoorLen
namespace Go.Proofs.YtadkilofkpmpgaaGreatDoor
open Go Go.RowKit
set_option maxRecDepth 100000
def bytSpec : Rk.Spec := fun f args => match f, args with
  | 40, ⟨[.int .u8 x]⟩ => if 0 ≤ x ∧ x < 256 then some (ofV x) else none
  | 39, ⟨[.int .i64 m]⟩ => some (.int .i64 (lenM m))
  | _, _ => none
theorem bytSpec_good (kn : Rk.Kn) : Rk.SGood Tryz.prog kn bytSpec := by
  intro f args v h w _
  unfold bytSpec at h
  split at h
  · split at h
    · rename_i hx; cases h; exact of_calls _ hx.1 hx.2 w
    · cases h
  · cases h; exact len_calls _ w
  · cases h
noncomputable abbrev runB (b : Nat) (n a : Int) (q : Rk.Orc) := Rk.fn Tryz.prog okf kn5 (Rk.ofSpec bytSpec) 100 3 17 #[lineV (Int.ofNat b) n, .int .i64 a] q True
def noB (e : Int) : Value := .tuple ⟨[.slice none 0 0, .int .i64 e]⟩
theorem byt_bad (n a : Int) : bad.map (fun b => runB b n a []) = bad.map (fun _ => some (noB 13, [], True)) := by kernel_rfl
theorem byt_neg (n a : Int) : good.map (fun b => runB b n a [(1, true)]) = good.map (fun _ => some (noB 10, [], decide (n < 0) = true ∧ True)) := by kernel_rfl
theorem byt_far (n a : Int) : good.map (fun b => runB b n a [(1, false), (1, true)]) = good.map (fun b => some (noB 10, [], decide (n ≥ limM (opMode (Int.ofNat b))) = true ∧ decide (n < 0) = false ∧ True)) := by kernel_rfl
theorem byt_a0 (n a : Int) : good.map (fun b => runB b n a [(1, false), (1, false), (1, true)]) = good.map (fun b => some (noB 10, [], decide (a < 0) = true ∧ decide (n ≥ limM (opMode (Int.ofNat b))) = false ∧ decide (n < 0) = false ∧ True)) := by kernel_rfl
theorem byt_a1 (n a : Int) : good.map (fun b => runB b n a [(1, false), (1, false), (1, false), (0, true)]) = good.map (fun b => some (noB 10, [], decide (a > 65535) = true ∧ decide (a < 0) = false ∧ decide (n ≥ limM (opMode (Int.ofNat b))) = false ∧ decide (n < 0) = false ∧ True)) := by kernel_rfl
theorem byt_a2 (n a : Int) : good.map (fun b => runB b n a [(1, false), (1, false), (1, false), (0, false), (0, true)]) = good.map (fun b => some (noB 10, [], decide (IntKind.i64.wrap (a + lenM (opMode (Int.ofNat b))) > 65536) = true ∧ decide (a > 65535) = false ∧ decide (a < 0) = false ∧ decide (n ≥ limM (opMode (Int.ofNat b))) = false ∧ decide (n < 0) = false ∧ True)) := by kernel_rfl
end Go.Proofs.YtadkilofkpmpgaaGreatDoor
