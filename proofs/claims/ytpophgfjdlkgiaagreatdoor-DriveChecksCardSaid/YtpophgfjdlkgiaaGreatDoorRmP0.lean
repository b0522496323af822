/- The two great blocks of the example: what lies in memory, what a table holds. (printed by wip/tools/gen.py) -/
import Derived.Test.YtpophgfjdlkgiaaGreatDoorRmQ
namespace Go.Proofs.YtpophgfjdlkgiaaGreatDoor
namespace Rm
open Go Go.RowKit
open Rk (Orc Kn)
set_option maxRecDepth 100000
def memF : Nat → Value := over (over (over (over (over (over (over (over u8z 98304 [.int .u8 234, .int .u8 0]) 98306 [.int .u8 76, .int .u8 0]) 98308 [.int .u8 0, .int .u8 0]) 98310 [.int .u8 192, .int .u8 0]) 98305 [.int .u8 0]) 98307 [.int .u8 0]) 98309 [.int .u8 0]) 98311 [.int .u8 0]
def tabF : Nat → Value := over z73 0 [.slice none 0 0, .slice none 0 0, .int .i64 0, .int .i64 100]
end Rm
end Go.Proofs.YtpophgfjdlkgiaaGreatDoor
