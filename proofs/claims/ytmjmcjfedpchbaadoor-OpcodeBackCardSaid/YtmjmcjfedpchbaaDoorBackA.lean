/- 'OpcodeBack' answers true at every byte. -/
import Derived.Test.YtmjmcjfedpchbaaDoorBack0
import Derived.Test.YtmjmcjfedpchbaaDoorBack1
import Derived.Test.YtmjmcjfedpchbaaDoorBack2
import Derived.Test.YtmjmcjfedpchbaaDoorBack3
namespace Go.Proofs.YtmjmcjfedpchbaaDoor
open Go Go.RowKit
theorem back_calls (b : Int) (h0 : 0 ≤ b) (h1 : b < 256) (w : World) (hk : Rk.Knows knC w) : Calls Tryd.prog 5 #[.int .u8 b] w fun e w' => e = .returned (.bool true) ∧ Below w.heap.size w w' := by
  obtain ⟨n, rfl⟩ := Int.eq_ofNat_of_zero_le h0
  have at' : ∀ k, k ≤ n → n < k + 64 → n ∈ (List.range 64).map (· + k) := fun k hk hn => List.mem_map.2 ⟨n - k, List.mem_range.2 (by omega), by omega⟩
  have key : Rk.fn Tryd.prog okf knC (Rk.ofSpec sp4b) 100 4 5 #[.int .u8 (Int.ofNat n)] [] True = some (.bool true, [], True) := by
    by_cases a : n < 64
    · exact List.map_inj_left.1 back_run0 n (at' 0 (by omega) (by omega))
    by_cases c : n < 128
    · exact List.map_inj_left.1 back_run1 n (at' 64 (by omega) (by omega))
    by_cases d : n < 192
    · exact List.map_inj_left.1 back_run2 n (at' 128 (by omega) (by omega))
    · exact List.map_inj_left.1 back_run3 n (at' 192 (by omega) (by omega))
  exact Rk.calls_fn mixed okf_ok sp4b_good key w hk
end Go.Proofs.YtmjmcjfedpchbaaDoor
