/- What is known of the calls of layer 4's statements. -/
import Derived.Test.YtmjmcjfedpchbaaDoorNm
import Derived.Test.YtmjmcjfedpchbaaDoorCycA
namespace Go.Proofs.YtmjmcjfedpchbaaDoor
open Go Go.RowKit
def sp4 : Rk.Spec := fun f args => match f, args with
  | 10, ⟨[.int .u8 x]⟩ => if 0 ≤ x ∧ x < 256 then some (ofV x) else none
  | 11, ⟨[.int .i64 x]⟩ => some (.tuple #[.int .i64 (fnd x).1, .int .i64 (fnd x).2])
  | 12, ⟨[.int .u8 x]⟩ => if 0 ≤ x ∧ x < 256 then some (.int .i64 (cycN x)) else none
  | 13, ⟨[]⟩ => some (.bool true)
  | 14, ⟨[.int .i64 r]⟩ => if 0 ≤ r ∧ r < 56 then some (.string ⟨⟨refName r⟩⟩) else none
  | _, _ => none
theorem sp4_good : Rk.SGood Tryd.prog knC sp4 := by
  intro f args v h w hk
  unfold sp4 at h
  split at h
  · split at h
    · rename_i hx; cases h; exact of_calls _ hx.1 hx.2 w
    · cases h
  · cases h; exact find_calls _ w
  · split at h
    · rename_i hx; cases h; exact cyc_calls _ hx.1 hx.2 w hk
    · cases h
  · cases h; exact awake4_calls w
  · split at h
    · rename_i hx; cases h; exact name_calls _ hx.1 hx.2 w
    · cases h
  · cases h
end Go.Proofs.YtmjmcjfedpchbaaDoor
