/- The reference's names; the chapter's example holds; what is known of the calls of layer 4's statements. -/
import Derived.Test.YtadkilofkpmpgaaGreatDoorFind
import Derived.Test.YtadkilofkpmpgaaGreatDoorCyc
namespace Go.Proofs.YtadkilofkpmpgaaGreatDoor
open Go Go.RowKit
set_option maxRecDepth 100000
theorem name_run : (List.range 56).map (fun r => Rk.fn Tryz.prog okf Rk.noKn (Rk.ofSpec Rk.noSpec) 60 1 24 #[.int .i64 (Int.ofNat r)] [] True) = (List.range 56).map (fun r => some (.string ⟨⟨refName (Int.ofNat r)⟩⟩, [], True)) := by kernel_rfl
theorem name_calls (r : Int) (h0 : 0 ≤ r) (h1 : r < 56) (w : World) : Calls Tryz.prog 24 #[.int .i64 r] w fun e w' => e = .returned (.string ⟨⟨refName r⟩⟩) ∧ Below w.heap.size w w' := by
  obtain ⟨n, rfl⟩ := Int.eq_ofNat_of_zero_le h0
  exact Rk.calls_fn mixed okf_ok Rk.noSpec_good (List.map_inj_left.1 name_run n (List.mem_range.2 (by omega))) w (Rk.noKn_knows w)

end Go.Proofs.YtadkilofkpmpgaaGreatDoor
