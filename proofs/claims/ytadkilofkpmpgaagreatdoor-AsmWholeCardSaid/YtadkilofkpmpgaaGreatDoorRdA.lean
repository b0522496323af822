/- 'asm.Read' at every slice of bytes and every address. -/
import Derived.Test.YtadkilofkpmpgaaGreatDoorRd
import Derived.Test.YtadkilofkpmpgaaGreatDoorArg
namespace Go.Proofs.YtadkilofkpmpgaaGreatDoor
open Go Go.RowKit
set_option maxRecDepth 100000
theorem shl64_0 (x : Int) (h0 : 0 ≤ x) (h1 : x < 256) : shl64 x 0 = x := by
  have : (2 : Int) ^ 0 = 1 := rfl
  rw [shl64, IntKind.wrap_i64, IntKind.wrap_i64, this]; omega
theorem shl64_8 (x : Int) (h0 : 0 ≤ x) (h1 : x < 256) : shl64 x 8 = 256 * x := by
  have : (2 : Int) ^ 8 = 256 := rfl
  rw [shl64, IntKind.wrap_i64, IntKind.wrap_i64, this]; omega
theorem or64_is (a b : Nat) (h0 : a < 65536) (h1 : b < 65536) : or64 (a : Int) (b : Int) = ((a ||| b : Nat) : Int) := by
  have ea : (BitVec.ofInt 64 (a : Int)).toNat = a := by simp; omega
  have eb : (BitVec.ofInt 64 (b : Int)).toNat = b := by simp; omega
  have : a ||| b < 2 ^ 16 := Nat.or_lt_two_pow (by omega) (by omega)
  rw [or64, BitVec.toNat_or, ea, eb, IntKind.wrap_i64]; omega
theorem nb2_is (x : Int) (h0 : 0 ≤ x) (h1 : x < 256) : nb2 x = x := by
  obtain ⟨n, rfl⟩ := Int.eq_ofNat_of_zero_le h0
  rw [nb2, shl64_0 _ h0 h1]
  have := or64_is 0 n (by omega) (by omega)
  simpa using this
theorem nb3_is (x y : Int) (h0 : 0 ≤ x) (h1 : x < 256) (g0 : 0 ≤ y) (g1 : y < 256) : nb3 x y = x + 256 * y := by
  rw [nb3, nb2_is x h0 h1, shl64_8 y g0 g1]
  obtain ⟨n, rfl⟩ := Int.eq_ofNat_of_zero_le h0
  obtain ⟨m, rfl⟩ := Int.eq_ofNat_of_zero_le g0
  have h := or64_is n (256 * m) (by omega) (by omega)
  have e : 2 ^ 8 * m + n = 2 ^ 8 * m ||| n := Nat.two_pow_add_eq_or_of_lt (by omega) m
  rw [show (256 * m : Nat) = 2 ^ 8 * m from rfl, Nat.or_comm, ← e] at h
  have h2 : ((2 ^ 8 * m : Nat) : Int) = 256 * (m : Int) := by push_cast; rfl
  rw [h2] at h
  rw [h]
  push_cast
  omega
/-- A byte read with its sign. -/
def sgn (x : Int) : Int := if x > 127 then x - 256 else x
theorem i8_is (x : Int) (h0 : 0 ≤ x) (h1 : x < 256) : IntKind.i8.wrap x = sgn x := by
  obtain ⟨n, rfl⟩ := Int.eq_ofNat_of_zero_le h0
  have hall : ((List.range 256).all fun n => decide (IntKind.i8.wrap (Int.ofNat n) = sgn (Int.ofNat n))) = true := by decide +kernel
  exact of_decide_eq_true (List.all_eq_true.1 hall n (List.mem_range.2 (by omega)))
theorem sgn_lo (x : Int) (h0 : 0 ≤ x) (h1 : x < 256) : -128 ≤ sgn x ∧ sgn x < 128 := by
  unfold sgn
  split <;> omega
theorem relB_is (a z x : Int) (h0 : 0 ≤ x) (h1 : x < 256) (a0 : 0 ≤ a) (a1 : a ≤ 65535) (z0 : 0 ≤ z) (z1 : z ≤ 3) : relB a z x = a + z + sgn x := by
  have := sgn_lo x h0 h1
  rw [relB, nb2_is x h0 h1, i8_is x h0 h1, IntKind.wrap_i64, IntKind.wrap_i64, IntKind.wrap_i64]
  omega
/-- The number that is read. -/
def numR (xs : List Int) (a : Int) : Int :=
  if opMode (xs.getD 0 0) = 12 then a + 2 + sgn (xs.getD 1 0)
  else if lenM (opMode (xs.getD 0 0)) = 1 then 0
  else if lenM (opMode (xs.getD 0 0)) = 2 then xs.getD 1 0
  else xs.getD 1 0 + 256 * xs.getD 2 0
/-- What 'Read' answers: the opcode, the number, how many bytes, what is wrong. -/
def readW (xs : List Int) (a : Int) : Int × Int × Int × Int :=
  if a < 0 ∨ 65535 < a then (0, 0, 0, 10)
  else if xs = [] then (0, 0, 0, 11)
  else if (opName (xs.getD 0 0)).isEmpty = true then (0, 0, 0, 13)
  else if (xs.length : Int) < lenM (opMode (xs.getD 0 0)) then (0, 0, 0, 11)
  else if 65536 < a + lenM (opMode (xs.getD 0 0)) ∨ numR xs a < 0 ∨ 65535 < numR xs a then (0, 0, 0, 10)
  else (xs.getD 0 0, numR xs a, lenM (opMode (xs.getD 0 0)), 0)
theorem callR_good (kn : Rk.Kn) (t : Bool) : Rk.Good Tryz.prog kn (callR t) := by
  intro f args q ob v q' ob' h w hk ho
  unfold callR at h
  split at h
  · rename_i x
    cases t with
    | false =>
      simp only [Option.some.injEq, Prod.mk.injEq] at h
      obtain ⟨rfl, rfl, rfl⟩ := h
      obtain ⟨⟨h0, h1, h2⟩, h3⟩ := ho
      obtain ⟨b, rfl⟩ := Int.eq_ofNat_of_zero_le h0
      exact ⟨h3, of_good b (by omega) h2 w⟩
    | true =>
      simp only [Option.some.injEq, Prod.mk.injEq] at h
      obtain ⟨rfl, rfl, rfl⟩ := h
      obtain ⟨⟨h0, h1, h2⟩, h3⟩ := ho
      refine ⟨h3, ?_⟩
      have hc := of_calls x h0 h1 w
      unfold ofV at hc
      split at hc
      · exact hc
      · rename_i he
        have : opName x = [] := by simpa using h2
        exact absurd this he
  · simp only [Option.some.injEq, Prod.mk.injEq] at h
    obtain ⟨rfl, rfl, rfl⟩ := h
    exact ⟨ho, len_calls _ w⟩
  · cases h
end Go.Proofs.YtadkilofkpmpgaaGreatDoor
