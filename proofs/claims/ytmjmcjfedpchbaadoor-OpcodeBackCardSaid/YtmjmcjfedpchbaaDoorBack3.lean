/- 'OpcodeBack', byte by byte, by the reckoner: part 3 of 4. -/
import Derived.Test.YtmjmcjfedpchbaaDoorSp4b
namespace Go.Proofs.YtmjmcjfedpchbaaDoor
open Go Go.RowKit
set_option maxRecDepth 100000
theorem back_run3 : ((List.range 64).map (· + 192)).map (fun b => Rk.fn Tryd.prog okf knC (Rk.ofSpec sp4b) 100 4 5 #[.int .u8 (Int.ofNat b)] [] True) = ((List.range 64).map (· + 192)).map (fun _ => some (.bool true, [], True)) := by kernel_rfl
end Go.Proofs.YtmjmcjfedpchbaaDoor
