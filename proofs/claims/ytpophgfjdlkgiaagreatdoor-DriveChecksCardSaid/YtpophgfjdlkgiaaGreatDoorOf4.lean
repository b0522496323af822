/- 'opcode.Of' hands back the table's row: by the reckoner, byte by byte. -/
import Derived.Test.YtpophgfjdlkgiaaGreatDoorOps4
namespace Go.Proofs.YtpophgfjdlkgiaaGreatDoor
open Go Go.RowKit
set_option maxRecDepth 100000
theorem of_run : (List.range 256).map (fun b => Rk.fn Tryz.prog okf Rk.noKn (Rk.ofSpec opsSpec) 60 1 124 #[.int .u8 (Int.ofNat b)] [] True) = (List.range 256).map (fun b => some (ofV (Int.ofNat b), [], True)) := by kernel_rfl

theorem of_calls (b : Int) (h0 : 0 ≤ b) (h1 : b < 256) (w : World) : Calls Tryz.prog 124 #[.int .u8 b] w fun e w' => e = .returned (ofV b) ∧ Below w.heap.size w w' := by
  obtain ⟨n, rfl⟩ := Int.eq_ofNat_of_zero_le h0
  exact Rk.calls_fn mixed okf_ok (opsSpec_good Rk.noKn) (List.map_inj_left.1 of_run n (List.mem_range.2 (by omega))) w (Rk.noKn_knows w)
end Go.Proofs.YtpophgfjdlkgiaaGreatDoor
