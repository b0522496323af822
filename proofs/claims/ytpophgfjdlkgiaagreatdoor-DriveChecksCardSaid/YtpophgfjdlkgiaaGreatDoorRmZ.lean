/- A reckoner with memory: the great zero values of the program's types. -/
import Derived.Test.YtpophgfjdlkgiaaGreatDoorProg
import Derived.Test.YtpophgfjdlkgiaaGreatDoorRmH
namespace Go.Proofs.YtpophgfjdlkgiaaGreatDoor
namespace Rm
open Go Go.RowKit
open Rk (Orc Kn)

/-- A list in the shape in which the program's load writes a long one. -/
def treeL (f : Nat → Value) : Nat → Nat → Nat → List Value
  | 0, lo, n => (List.range' lo n).map f
  | k + 1, lo, n => match Nat.ble n 64 with
    | true => (List.range' lo n).map f
    | false => List.append (treeL f k lo (n / 2)) (treeL f k (lo + n / 2) (n - n / 2))
theorem treeL_eq (f : Nat → Value) : ∀ k lo n, treeL f k lo n = (List.range' lo n).map f
  | 0, lo, n => rfl
  | k + 1, lo, n => by
    rw [treeL]
    split
    · rfl
    · rw [treeL_eq f k, treeL_eq f k, List.append_eq, ← List.map_append]
      rw [List.range'_append_1, show n / 2 + (n - n / 2) = n by omega]
theorem treeL_range (f : Nat → Value) (k n : Nat) : treeL f k 0 n = (List.range n).map f := by
  rw [treeL_eq, List.range_eq_range']

def u8z : Nat → Value := fun _ => .int .u8 0
def z73 : Nat → Value := fun j => match Nat.ble j 1 with
  | true => .slice none 0 0
  | false => match Nat.ble j 3 with
    | true => .int .i64 0
    | false => .int .u8 0
def bz : BZ := fun T => match T with
  | 135 => some (131072, u8z)
  | 134 => some (131072, u8z)
  | 133 => some (131072, u8z)
  | 73 => some (131076, z73)
  | 72 => some (131076, z73)
  | 71 => some (65536, u8z)
  | _ => none
theorem plain_u8z : plainF u8z := fun _ => ⟨rfl, rfl⟩
theorem plain_z73 : plainF z73 := fun j => by
  unfold z73
  cases Nat.ble j 1 with
  | true => exact ⟨rfl, rfl⟩
  | false => cases Nat.ble j 3 with
    | true => exact ⟨rfl, rfl⟩
    | false => exact ⟨rfl, rfl⟩
set_option maxRecDepth 100000
theorem zero135 : (Tryz.prog.info? 135).map (fun i => (i.zero, i.size)) = some (some (.agg ⟨treeL u8z 20 0 131072⟩), 131072) := by kernel_rfl
theorem zero134 : (Tryz.prog.info? 134).map (fun i => (i.zero, i.size)) = some (some (.agg ⟨treeL u8z 20 0 131072⟩), 131072) := by kernel_rfl
theorem zero133 : (Tryz.prog.info? 133).map (fun i => (i.zero, i.size)) = some (some (.agg ⟨treeL u8z 20 0 131072⟩), 131072) := by kernel_rfl
theorem zero71 : (Tryz.prog.info? 71).map (fun i => (i.zero, i.size)) = some (some (.agg ⟨treeL u8z 20 0 65536⟩), 65536) := by kernel_rfl
theorem zero73 : (Tryz.prog.info? 73).map (fun i => (i.zero, i.size)) = some (some (.agg ⟨treeL z73 20 0 131076⟩), 131076) := by kernel_rfl
theorem zero72 : (Tryz.prog.info? 72).map (fun i => (i.zero, i.size)) = some (some (.agg ⟨treeL z73 20 0 131076⟩), 131076) := by kernel_rfl
theorem bz_one {P : Program} {T n : Nat} {f : Nat → Value} (hf : plainF f) (h : (P.info? T).map (fun i => (i.zero, i.size)) = some (some (.agg ⟨treeL f 20 0 n⟩), n)) : (∃ i, P.info? T = some i ∧ i.zero = some (.agg ⟨(List.range n).map f⟩) ∧ i.size = n) ∧ plainF f := by
  refine ⟨?_, hf⟩
  cases hi : P.info? T with
  | none => rw [hi] at h; cases h
  | some i =>
    rw [hi] at h
    simp only [Option.map_some, Option.some.injEq, Prod.mk.injEq] at h
    exact ⟨i, rfl, by rw [h.1, treeL_range], h.2⟩
theorem bz_ok : BZOk Tryz.prog bz := by
  intro T n f h
  unfold bz at h
  split at h
  · cases h; exact bz_one plain_u8z zero135
  · cases h; exact bz_one plain_u8z zero134
  · cases h; exact bz_one plain_u8z zero133
  · cases h; exact bz_one plain_z73 zero73
  · cases h; exact bz_one plain_z73 zero72
  · cases h; exact bz_one plain_u8z zero71
  · cases h
end Rm
end Go.Proofs.YtpophgfjdlkgiaaGreatDoor
