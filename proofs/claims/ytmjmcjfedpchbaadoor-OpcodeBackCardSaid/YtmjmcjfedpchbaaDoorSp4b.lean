/- What is known of the calls of layer 4's statements, with 'opcode.Byte'. -/
import Derived.Test.YtmjmcjfedpchbaaDoorSp4
import Derived.Test.YtmjmcjfedpchbaaDoorByW
namespace Go.Proofs.YtmjmcjfedpchbaaDoor
open Go Go.RowKit
def sp4b : Rk.Spec := fun f args => match f, args with
  | 18, ⟨[.string s, .int .i64 m]⟩ => some (.tuple #[.int .u8 (byteW s.data.toList m opTab 0 14).1, .int .i64 (byteW s.data.toList m opTab 0 14).2])
  | _, _ => sp4 f args
theorem sp4b_good : Rk.SGood Tryd.prog knC sp4b := by
  intro f args v h w hk
  unfold sp4b at h
  split at h
  · cases h; exact byte_callsW _ _ w
  · exact sp4_good f args v h w hk
end Go.Proofs.YtmjmcjfedpchbaaDoor
