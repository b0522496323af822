/- 'cochinealref05.digits': two digits, or four. -/
import Derived.Test.YtadkilofkpmpgaaGreatDoorPrtA
namespace Go.Proofs.YtadkilofkpmpgaaGreatDoor
open Go Go.RowKit
set_option maxRecDepth 100000
def hexU : List UInt8 := [48, 49, 50, 51, 52, 53, 54, 55, 56, 57, 65, 66, 67, 68, 69, 70]
/-- A digit of a number. -/
def hu (x : Int) : UInt8 := hexU.getD x.toNat 0
def digS : Nat → Int → List UInt8
  | 0, _ => []
  | k + 1, n => digS k (n / 16) ++ [hu (n % 16)]
theorem hu_up : ((List.range 16).all fun x => Lib.upperB (hx (Int.ofNat x)) == hu (Int.ofNat x)) = true := by decide +kernel
theorem hu_is (x : Int) (h0 : 0 ≤ x) (h1 : x < 16) : Lib.upperB (hx x) = hu x := by
  obtain ⟨m, rfl⟩ := Int.eq_ofNat_of_zero_le h0
  exact beq_iff_eq.1 (List.all_eq_true.1 hu_up m (List.mem_range.2 (by omega)))
theorem hu_0 : hu 0 = 48 := by decide
theorem nd_1 (n : Int) (h : n < 16) : nd n = 1 := if_pos h
theorem nd_2 (n : Int) (h : ¬ n < 16) (h2 : n < 256) : nd n = 2 := by unfold nd; rw [if_neg h, if_pos h2]
theorem nd_3 (n : Int) (h : ¬ n < 16) (h2 : ¬ n < 256) (h3 : n < 4096) : nd n = 3 := by unfold nd; rw [if_neg h, if_neg h2, if_pos h3]
theorem nd_4 (n : Int) (h : ¬ n < 16) (h2 : ¬ n < 256) (h3 : ¬ n < 4096) : nd n = 4 := by unfold nd; rw [if_neg h, if_neg h2, if_neg h3]
theorem digS_nd2 (n : Int) (h0 : 0 ≤ n) (h1 : n < 256) : List.replicate (2 - nd n) 48 ++ (hexS (nd n) n).map Lib.upperB = digS 2 n := by
  by_cases q1 : n < 16
  · have e : n / 16 = 0 := by omega
    have e2 : n % 16 = n := by omega
    simp [nd_1 n q1, hexS, digS, e, e2, hu_0, hu_is n h0 (by omega)]
  · have e : n / 16 % 16 = n / 16 := by omega
    simp [nd_2 n q1 h1, hexS, digS, e, hu_is (n / 16) (by omega) (by omega), hu_is (n % 16) (by omega) (by omega)]
theorem digS_nd4 (n : Int) (h0 : 0 ≤ n) (h1 : n < 65536) : List.replicate (4 - nd n) 48 ++ (hexS (nd n) n).map Lib.upperB = digS 4 n := by
  have a1 : n / 16 / 16 = n / 256 := by omega
  have a2 : n / 256 / 16 = n / 4096 := by omega
  by_cases q1 : n < 16
  · have e : n / 16 = 0 := by omega
    have e2 : n % 16 = n := by omega
    simp [nd_1 n q1, hexS, digS, e, e2, hu_0, hu_is n h0 (by omega), List.replicate]
  · by_cases q2 : n < 256
    · have e : n / 16 % 16 = n / 16 := by omega
      have e1 : n / 256 = 0 := by omega
      simp [nd_2 n q1 q2, hexS, digS, a1, e1, e, hu_0, hu_is (n / 16) (by omega) (by omega), hu_is (n % 16) (by omega) (by omega), List.replicate]
    · by_cases q3 : n < 4096
      · have e : n / 256 % 16 = n / 256 := by omega
        have e1 : n / 4096 = 0 := by omega
        simp [nd_3 n q1 q2 q3, hexS, digS, a1, a2, e1, e, hu_0, hu_is (n / 256) (by omega) (by omega), hu_is (n / 16 % 16) (by omega) (by omega), hu_is (n % 16) (by omega) (by omega)]
      · have e : n / 4096 % 16 = n / 4096 := by omega
        simp [nd_4 n q1 q2 q3, hexS, digS, a1, a2, e, hu_is (n / 4096) (by omega) (by omega), hu_is (n / 256 % 16) (by omega) (by omega), hu_is (n / 16 % 16) (by omega) (by omega), hu_is (n % 16) (by omega) (by omega)]
end Go.Proofs.YtadkilofkpmpgaaGreatDoor
