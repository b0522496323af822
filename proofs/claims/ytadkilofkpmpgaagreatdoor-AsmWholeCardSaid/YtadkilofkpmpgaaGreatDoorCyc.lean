/- The tables 'cycles' and 'shapes', cell by cell, as the program lays them; how many cycles each byte takes at least. -/
import Derived.Test.YtadkilofkpmpgaaGreatDoorOf
namespace Go.Proofs.YtadkilofkpmpgaaGreatDoor
open Go Go.RowKit
def cycRows : List (Nat × Nat × Nat) := [(1, 2, 2), (1, 3, 3), (1, 4, 4), (1, 5, 4), (1, 6, 4), (1, 7, 4), (1, 8, 4), (1, 9, 6), (1, 10, 5), (2, 3, 3), (2, 4, 4), (2, 5, 4), (2, 6, 4), (2, 7, 5), (2, 8, 5), (2, 9, 6), (2, 10, 6), (3, 3, 5), (3, 4, 6), (3, 6, 6), (3, 7, 7), (4, 12, 2), (4, 11, 5)]
def cycCells : List Value := cycRows.flatMap fun x => [.int .i64 (Int.ofNat x.1), .int .i64 (Int.ofNat x.2.1), .int .i64 (Int.ofNat x.2.2)]
/-- What is known of the table of cycles. -/
def cycTab : List Nat := [
  7, 6, 0, 0, 0, 3, 5, 0, 3, 2, 2, 0, 0, 4, 6, 0, 2, 5, 0, 0, 0, 4, 6, 0, 2, 4, 0, 0, 0, 4, 7, 0,
  6, 6, 0, 0, 3, 3, 5, 0, 4, 2, 2, 0, 4, 4, 6, 0, 2, 5, 0, 0, 0, 4, 6, 0, 2, 4, 0, 0, 0, 4, 7, 0,
  6, 6, 0, 0, 0, 3, 5, 0, 3, 2, 2, 0, 3, 4, 6, 0, 2, 5, 0, 0, 0, 4, 6, 0, 2, 4, 0, 0, 0, 4, 7, 0,
  6, 6, 0, 0, 0, 3, 5, 0, 4, 2, 2, 0, 5, 4, 6, 0, 2, 5, 0, 0, 0, 4, 6, 0, 2, 4, 0, 0, 0, 4, 7, 0,
  0, 6, 0, 0, 3, 3, 3, 0, 2, 0, 2, 0, 4, 4, 4, 0, 2, 6, 0, 0, 4, 4, 4, 0, 2, 5, 2, 0, 0, 5, 0, 0,
  2, 6, 2, 0, 3, 3, 3, 0, 2, 2, 2, 0, 4, 4, 4, 0, 2, 5, 0, 0, 4, 4, 4, 0, 2, 4, 2, 0, 4, 4, 4, 0,
  2, 6, 0, 0, 3, 3, 5, 0, 2, 2, 2, 0, 4, 4, 6, 0, 2, 5, 0, 0, 0, 4, 6, 0, 2, 4, 0, 0, 0, 4, 7, 0,
  2, 6, 0, 0, 3, 3, 5, 0, 2, 2, 2, 0, 4, 4, 6, 0, 2, 5, 0, 0, 0, 4, 6, 0, 2, 4, 0, 0, 0, 4, 7, 0]
def cycN (b : Int) : Int := Int.ofNat (cycTab.getD b.toNat 0)

/-- How a mode's number is written: what stands ahead, how many digits, what stands behind. -/
def shpRows : List (List UInt8 × Int × List UInt8) := [([], 0, []), ([32, 65], 0, []), ([32, 35, 36], 2, []), ([32, 36], 2, []), ([32, 36], 2, [44, 88]), ([32, 36], 2, [44, 89]), ([32, 36], 4, []), ([32, 36], 4, [44, 88]), ([32, 36], 4, [44, 89]), ([32, 40, 36], 2, [44, 88, 41]), ([32, 40, 36], 2, [41, 44, 89]), ([32, 40, 36], 4, [41]), ([32, 36], 4, [])]
def shpCells : List Value := shpRows.flatMap fun x => [.string ⟨⟨x.1⟩⟩, .int .i64 x.2.1, .string ⟨⟨x.2.2⟩⟩]
def knS : Rk.Kn := fun a => match a.spot, a.block with
  | none, 0 => match shpCells[a.off]? with
    | some v => some (v, none)
    | none => none
  | _, _ => none

def ofSpec : Rk.Spec := fun f args => match f, args with
  | 40, ⟨[.int .u8 x]⟩ => if 0 ≤ x ∧ x < 256 then some (ofV x) else none
  | _, _ => none
theorem ofSpec_good (kn : Rk.Kn) : Rk.SGood Tryz.prog kn ofSpec := by
  intro f args v h w _
  unfold ofSpec at h
  split at h
  · split at h
    · rename_i hx
      cases h; exact of_calls _ hx.1 hx.2 w
    · cases h
  · cases h
end Go.Proofs.YtadkilofkpmpgaaGreatDoor
