/- The reference's 'Find' against the table of opcodes. -/
import Derived.Test.YtadkilofkpmpgaaGreatDoorFind
import Derived.Test.YtadkilofkpmpgaaGreatDoorLen
namespace Go.Proofs.YtadkilofkpmpgaaGreatDoor
open Go Go.RowKit
set_option maxRecDepth 100000
theorem fnd_all : ((List.range 256).all fun b => if (opName (Int.ofNat b)).isEmpty = true then (fnd (Int.ofNat b) == (-1, -1)) else (decide (0 ≤ (fnd (Int.ofNat b)).1) && decide ((fnd (Int.ofNat b)).1 < 56) && (fnd (Int.ofNat b)).2 == opMode (Int.ofNat b) && refName (fnd (Int.ofNat b)).1 == opName (Int.ofNat b))) = true := by decide +kernel
theorem fnd_bad (b : Int) (h0 : 0 ≤ b) (h1 : b < 256) (ho : (opName b).isEmpty = true) : fnd b = (-1, -1) := by
  obtain ⟨k, rfl⟩ := Int.eq_ofNat_of_zero_le h0
  have h := List.all_eq_true.1 fnd_all k (List.mem_range.2 (by omega))
  have ho' : (opName (Int.ofNat k)).isEmpty = true := ho
  rw [if_pos ho'] at h
  exact beq_iff_eq.1 h
theorem fnd_good (b : Int) (h0 : 0 ≤ b) (h1 : b < 256) (ho : (opName b).isEmpty = false) : 0 ≤ (fnd b).1 ∧ (fnd b).1 < 56 ∧ (fnd b).2 = opMode b ∧ refName (fnd b).1 = opName b := by
  obtain ⟨k, rfl⟩ := Int.eq_ofNat_of_zero_le h0
  have h := List.all_eq_true.1 fnd_all k (List.mem_range.2 (by omega))
  have ho' : (opName (Int.ofNat k)).isEmpty = false := ho
  rw [ho'] at h
  simp only [Bool.false_eq_true, if_false, Bool.and_eq_true, decide_eq_true_eq, beq_iff_eq] at h
  exact ⟨h.1.1.1, h.1.1.2, h.1.2, h.2⟩
def callF : Rk.Call := fun f args q ob => match f, args with
  | 22, ⟨[.int .i64 x]⟩ => some (.tuple ⟨[.int .i64 (fnd x).1, .int .i64 (fnd x).2]⟩, q, ob)
  | 63, ⟨[.int .i64 m]⟩ => some (.int .i64 (lenM m), q, ob)
  | _, _ => none
theorem callF_good (kn : Rk.Kn) : Rk.Good Tryz.prog kn callF := by
  intro f args q ob v q' ob' h w hk ho
  unfold callF at h
  split at h
  · simp only [Option.some.injEq, Prod.mk.injEq] at h
    obtain ⟨rfl, rfl, rfl⟩ := h
    exact ⟨ho, find_calls _ w⟩
  · simp only [Option.some.injEq, Prod.mk.injEq] at h
    obtain ⟨rfl, rfl, rfl⟩ := h
    exact ⟨ho, rlen_calls _ w⟩
  · cases h
end Go.Proofs.YtadkilofkpmpgaaGreatDoor
