/- The reference's table is read: 'digit', 'At', by the reckoner. -/
import Derived.Test.YtadkilofkpmpgaaGreatDoorProg
import Derived.Test.YtadkilofkpmpgaaGreatDoorOps
import Derived.WalkKit
namespace Go.Proofs.YtadkilofkpmpgaaGreatDoor
open Go Go.RowKit
set_option maxRecDepth 100000

theorem digit_hi (x : Int) : Rk.fn Tryz.prog okf Rk.noKn (Rk.ofSpec Rk.noSpec) 60 1 61 #[.int .u8 x] [(0, true)] True =
    some (.int .i64 (IntKind.i64.wrap (IntKind.i64.wrap (IntKind.u8.wrap (x - 97)) + 10)), [], (decide (x ≥ 97) = true ∧ True)) := by kernel_rfl
theorem digit_lo (x : Int) : Rk.fn Tryz.prog okf Rk.noKn (Rk.ofSpec Rk.noSpec) 60 1 61 #[.int .u8 x] [(0, false)] True =
    some (.int .i64 (IntKind.i64.wrap (IntKind.u8.wrap (x - 48))), [], (decide (x ≥ 97) = false ∧ True)) := by kernel_rfl

def digitG (x : Int) : Int := if 97 ≤ x then (x - 97) % 256 + 10 else (x - 48) % 256
theorem digitG_is (x : Int) (h0 : 48 ≤ x) (h1 : x ≤ 255) : digitG x = digitL x := by
  unfold digitG digitL
  split <;> omega

theorem digit_calls (x : Int) (w : World) : Calls Tryz.prog 61 #[.int .u8 x] w fun e w' => e = .returned (.int .i64 (digitG x)) ∧ Below w.heap.size w w' := by
  unfold digitG
  by_cases h : 97 ≤ x
  · rw [if_pos h]
    have e := Rk.calls_owed mixed okf_ok Rk.noSpec_good (digit_hi x) ⟨by simpa using h, trivial⟩ w (Rk.noKn_knows w)
    rw [IntKind.wrap_u8, IntKind.wrap_i64, IntKind.wrap_i64] at e
    have : (((x - 97) % 256 + 9223372036854775808) % 18446744073709551616 - 9223372036854775808 + 10 + 9223372036854775808) % 18446744073709551616 - 9223372036854775808 = (x - 97) % 256 + 10 := by omega
    rw [this] at e
    exact e
  · rw [if_neg h]
    have e := Rk.calls_owed mixed okf_ok Rk.noSpec_good (digit_lo x) ⟨by simpa using h, trivial⟩ w (Rk.noKn_knows w)
    rw [IntKind.wrap_u8, IntKind.wrap_i64] at e
    have : ((x - 48) % 256 + 9223372036854775808) % 18446744073709551616 - 9223372036854775808 = (x - 48) % 256 := by omega
    rw [this] at e
    exact e

def digitSpec : Rk.Spec := fun f args => match f, args with
  | 61, ⟨[.int .u8 x]⟩ => some (.int .i64 (digitG x))
  | _, _ => none

theorem digitSpec_good (kn : Rk.Kn) : Rk.SGood Tryz.prog kn digitSpec := by
  intro f args v h w _
  unfold digitSpec at h
  split at h
  · cases h; exact digit_calls _ w
  · cases h

/-- Where it is no point, both signs are digits. -/
theorem refLow_all : ((List.range 56).all fun r => (List.range 13).all fun m => ((refRows.getD r []).getD (4 + 3 * m) 0).toNat == 46 || (48 ≤ ((refRows.getD r []).getD (4 + 3 * m) 0).toNat && 48 ≤ ((refRows.getD r []).getD (4 + 3 * m + 1) 0).toNat)) = true := by decide +kernel
theorem refLow_at (r m : Nat) (hr : r < 56) (hm : m < 13) :
    ((((refRows.getD r []).getD (4 + 3 * m) 0).toNat : Int) ≠ 46 → 48 ≤ (((refRows.getD r []).getD (4 + 3 * m) 0).toNat : Int)) ∧ ((((refRows.getD r []).getD (4 + 3 * m) 0).toNat : Int) ≠ 46 → 48 ≤ (((refRows.getD r []).getD (4 + 3 * m + 1) 0).toNat : Int)) := by
  have h := List.all_eq_true.1 (List.all_eq_true.1 refLow_all r (List.mem_range.2 hr)) m (List.mem_range.2 hm)
  simp only [Bool.or_eq_true, beq_iff_eq, Bool.and_eq_true, decide_eq_true_eq] at h
  omega

/-- Where the reference looks. -/
abbrev atI (r m : Int) : Int := IntKind.i64.wrap (IntKind.i64.wrap (IntKind.i64.wrap (43 * r) + 4) + IntKind.i64.wrap (3 * m))
abbrev atJ (r m : Int) : Int := IntKind.i64.wrap (atI r m + 1)

theorem at_dot (r m : Int) : Rk.fn Tryz.prog okf Rk.noKn (Rk.ofSpec digitSpec) 60 1 32 #[.int .i64 r, .int .i64 m] [(0, true), (0, true)] True =
    some (.int .i64 (-1), [], ((refSign (atI r m).toNat == 46) = true ∧ decide (0 ≤ atI r m ∧ atI r m < ((2408 : Nat) : Int)) = true ∧ True)) := by kernel_rfl
theorem at_two (r m : Int) : Rk.fn Tryz.prog okf Rk.noKn (Rk.ofSpec digitSpec) 60 1 32 #[.int .i64 r, .int .i64 m] [(0, true), (0, false), (0, true), (0, true)] True =
    some (.int .i64 (IntKind.i64.wrap (IntKind.i64.wrap (16 * digitG (refSign (atI r m).toNat)) + digitG (refSign (atJ r m).toNat))), [],
      (decide (0 ≤ atJ r m ∧ atJ r m < ((2408 : Nat) : Int)) = true ∧ decide (0 ≤ atI r m ∧ atI r m < ((2408 : Nat) : Int)) = true ∧ (refSign (atI r m).toNat == 46) = false ∧ decide (0 ≤ atI r m ∧ atI r m < ((2408 : Nat) : Int)) = true ∧ True)) := by kernel_rfl

/-- A number that lies in int's range is its own wrap. -/
theorem wrap_in {n : Int} (h0 : -9223372036854775808 ≤ n) (h1 : n < 9223372036854775808) : IntKind.i64.wrap n = n := by
  rw [IntKind.wrap_i64]; omega

theorem at_calls (r m : Int) (r0 : 0 ≤ r) (r1 : r < 56) (m0 : 0 ≤ m) (m1 : m < 13) (w : World) :
    Calls Tryz.prog 32 #[.int .i64 r, .int .i64 m] w fun e w' => e = .returned (.int .i64 (refAt r m)) ∧ Below w.heap.size w w' := by
  obtain ⟨a, rfl⟩ := Int.eq_ofNat_of_zero_le r0
  obtain ⟨b, rfl⟩ := Int.eq_ofNat_of_zero_le m0
  have hI : atI (a : Int) (b : Int) = ((43 * a + (4 + 3 * b) : Nat) : Int) := by
    unfold atI
    rw [wrap_in (n := 43 * (a : Int)) (by omega) (by omega), wrap_in (n := 3 * (b : Int)) (by omega) (by omega), wrap_in (n := 43 * (a : Int) + 4) (by omega) (by omega), wrap_in (by omega) (by omega)]
    omega
  have hJ : atJ (a : Int) (b : Int) = ((43 * a + (4 + 3 * b + 1) : Nat) : Int) := by
    unfold atJ
    rw [hI, wrap_in (by omega) (by omega)]
    omega
  rw [← refTwo_is a b (by omega) (by omega)]
  have e1 := refSign_at a (4 + 3 * b) (by omega)
  have e2 := refSign_at a (4 + 3 * b + 1) (by omega)
  have l1 := refSign_lo (43 * a + (4 + 3 * b + 1))
  have u1 := refSign_hi (43 * a + (4 + 3 * b + 1))
  have l0 := refSign_lo (43 * a + (4 + 3 * b))
  have u0 := refSign_hi (43 * a + (4 + 3 * b))
  unfold refTwo
  rw [← e1, ← e2]
  by_cases h : refSign (43 * a + (4 + 3 * b)) = 46
  · rw [if_pos h]
    exact Rk.calls_owed mixed okf_ok (digitSpec_good Rk.noKn) (at_dot a b) (by rw [hI, Int.toNat_natCast]; exact ⟨beq_iff_eq.2 h, by simp; omega, trivial⟩) w (Rk.noKn_knows w)
  · rw [if_neg h]
    have hs := refLow_at a b (by omega) (by omega)
    rw [← e1, ← e2] at hs
    have hc := Rk.calls_owed mixed okf_ok (digitSpec_good Rk.noKn) (at_two a b) (by rw [hI, hJ, Int.toNat_natCast]; exact ⟨by simp; omega, by simp; omega, beq_eq_false_iff_ne.2 h, by simp; omega, trivial⟩) w (Rk.noKn_knows w)
    rw [hI, hJ, Int.toNat_natCast, Int.toNat_natCast, digitG_is _ (hs.1 h) u0, digitG_is _ (hs.2 h) u1, wrap_in (n := 16 * _) (by unfold digitL; split <;> omega) (by unfold digitL; split <;> omega), wrap_in (by unfold digitL; split <;> split <;> omega) (by unfold digitL; split <;> split <;> omega)] at hc
    exact hc
end Go.Proofs.YtadkilofkpmpgaaGreatDoor
