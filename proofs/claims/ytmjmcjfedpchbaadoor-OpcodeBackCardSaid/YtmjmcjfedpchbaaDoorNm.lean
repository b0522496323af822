/- The reference's names; the chapter's example holds; what is known of the calls of layer 4's statements. -/
import Derived.Test.YtmjmcjfedpchbaaDoorFind
import Derived.Test.YtmjmcjfedpchbaaDoorCyc
namespace Go.Proofs.YtmjmcjfedpchbaaDoor
open Go Go.RowKit
set_option maxRecDepth 100000
theorem name_run : (List.range 56).map (fun r => Rk.fn Tryd.prog okf Rk.noKn (Rk.ofSpec Rk.noSpec) 60 1 14 #[.int .i64 (Int.ofNat r)] [] True) = (List.range 56).map (fun r => some (.string ⟨⟨refName (Int.ofNat r)⟩⟩, [], True)) := by kernel_rfl
theorem name_calls (r : Int) (h0 : 0 ≤ r) (h1 : r < 56) (w : World) : Calls Tryd.prog 14 #[.int .i64 r] w fun e w' => e = .returned (.string ⟨⟨refName r⟩⟩) ∧ Below w.heap.size w w' := by
  obtain ⟨n, rfl⟩ := Int.eq_ofNat_of_zero_le h0
  exact Rk.calls_fn mixed okf_ok Rk.noSpec_good (List.map_inj_left.1 name_run n (List.mem_range.2 (by omega))) w (Rk.noKn_knows w)

theorem awake4_run (kn : Rk.Kn) : Rk.fn Tryd.prog okf kn (Rk.ofSpec ofSpec) 60 1 13 #[] [] True = some (.bool true, [], True) := by kernel_rfl
theorem awake4_calls (w : World) : Calls Tryd.prog 13 #[] w fun e w' => e = .returned (.bool true) ∧ Below w.heap.size w w' :=
  Rk.calls_fn mixed okf_ok (ofSpec_good Rk.noKn) (awake4_run Rk.noKn) w (Rk.noKn_knows w)
end Go.Proofs.YtmjmcjfedpchbaaDoor
