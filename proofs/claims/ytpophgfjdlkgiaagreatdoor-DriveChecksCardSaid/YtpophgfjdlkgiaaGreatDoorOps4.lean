/- Seat r4: 'opcode.ops' hands back the table, 'opcode.Of' its row: by the reckoner, byte by byte. -/
import Derived.Test.YtpophgfjdlkgiaaGreatDoorProg
import Derived.Test.YtpophgfjdlkgiaaGreatDoorRk
import Derived.Test.YtpophgfjdlkgiaaGreatDoorTab
namespace Go.Proofs.YtpophgfjdlkgiaaGreatDoor
open Go Go.RowKit
set_option maxRecDepth 100000
theorem mixed : Tryz.prog.follows .mixedOrders = true := by kernel_rfl

def okTop : Nat := 198
def okf (g : FuncId) : Bool :=
  match Nat.ble 3 g with
  | true => Nat.ble g okTop
  | false => false
theorem okf_all : ((List.range (okTop + 1)).all fun g => Nat.ble g 2 || (match Tryz.prog.funcs[g]? with
    | some fn => !(fn.name == "runtime.NumGoroutine") && !fn.body.isNone
    | none => false)) = true := by kernel_rfl
theorem okf_ok : Rk.OkF Tryz.prog okf := by
  intro g hg
  unfold okf at hg
  split at hg
  · rename_i h3
    have h3' : 3 ≤ g := Nat.le_of_ble_eq_true h3
    have hk : g ≤ okTop := Nat.le_of_ble_eq_true hg
    have h := List.all_eq_true.1 okf_all g (List.mem_range.2 (Nat.lt_succ_of_le hk))
    have hb : Nat.ble g 2 = false := by
      cases e : Nat.ble g 2 with
      | false => rfl
      | true => exact absurd (Nat.le_trans h3' (Nat.le_of_ble_eq_true e)) (by decide)
    rw [hb, Bool.false_or] at h
    split at h
    · rename_i fn hfn
      simp only [Bool.and_eq_true, Bool.not_eq_true'] at h
      exact ⟨fn, hfn, h.1, h.2⟩
    · cases h
  · cases hg

theorem ops_run (kn : Rk.Kn) : Rk.fn Tryz.prog okf kn (Rk.ofSpec Rk.noSpec) 60 1 152 #[] [] True = some (.agg ⟨opAll⟩, [], True) := by kernel_rfl
theorem ops_calls (w : World) : Calls Tryz.prog 152 #[] w fun e w' => e = .returned (.agg ⟨opAll⟩) ∧ Below w.heap.size w w' :=
  Rk.calls_fn mixed okf_ok Rk.noSpec_good (ops_run Rk.noKn) w (Rk.noKn_knows w)

def opsSpec : Rk.Spec := fun f args => match f, args with
  | 152, ⟨[]⟩ => some (.agg ⟨opAll⟩)
  | _, _ => none
theorem opsSpec_good (kn : Rk.Kn) : Rk.SGood Tryz.prog kn opsSpec := by
  intro f args v h w _
  unfold opsSpec at h
  split at h
  · cases h; exact ops_calls w
  · cases h
end Go.Proofs.YtpophgfjdlkgiaaGreatDoor
