/- 'opcode.Cycles', byte by byte, by the reckoner: part 0 of 4. -/
import Derived.Test.YtmjmcjfedpchbaaDoorCyc
namespace Go.Proofs.YtmjmcjfedpchbaaDoor
open Go Go.RowKit
set_option maxRecDepth 100000
theorem cyc_run0 : ((List.range 64).map (· + 0)).map (fun b => Rk.fn Tryd.prog okf knC (Rk.ofSpec ofSpec) 100 1 12 #[.int .u8 (Int.ofNat b)] [] True) = ((List.range 64).map (· + 0)).map (fun b => some (.int .i64 (cycN (Int.ofNat b)), [], True)) := by kernel_rfl
end Go.Proofs.YtmjmcjfedpchbaaDoor
