/- The two 'Length's at every mode. -/
import Derived.Test.YtadkilofkpmpgaaGreatDoorOps
namespace Go.Proofs.YtadkilofkpmpgaaGreatDoor
open Go Go.RowKit
set_option maxRecDepth 100000
def lenL : List Int := [1, 1, 2, 2, 2, 2, 3, 3, 3, 2, 2, 3, 2]
/-- How many bytes an opcode of a mode has; 0: there is no such mode. -/
def lenM (m : Int) : Int := if 0 ≤ m ∧ m < 13 then lenL.getD m.toNat 0 else 0
theorem lenM_out (m : Int) (h : ¬ (0 ≤ m ∧ m < 13)) : lenM m = 0 := if_neg h
theorem len_in : (List.range 13).map (fun m => Rk.fn Tryz.prog okf Rk.noKn (Rk.ofSpec Rk.noSpec) 60 1 39 #[.int .i64 (Int.ofNat m)] [] True) = (List.range 13).map (fun m => some (.int .i64 (lenM (Int.ofNat m)), [], True)) := by kernel_rfl
theorem len_out (m : Int) : Rk.fn Tryz.prog okf Rk.noKn (Rk.ofSpec Rk.noSpec) 60 1 39 #[.int .i64 m] (List.replicate 13 (0, false)) True = some (.int .i64 0, [], (decide (m = 11) = false ∧ decide (m = 8) = false ∧ decide (m = 7) = false ∧ decide (m = 6) = false ∧ decide (m = 12) = false ∧ decide (m = 10) = false ∧ decide (m = 9) = false ∧ decide (m = 5) = false ∧ decide (m = 4) = false ∧ decide (m = 3) = false ∧ decide (m = 2) = false ∧ decide (m = 1) = false ∧ decide (m = 0) = false ∧ True)) := by kernel_rfl
theorem len_calls (m : Int) (w : World) : Calls Tryz.prog 39 #[.int .i64 m] w fun e w' => e = .returned (.int .i64 (lenM m)) ∧ Below w.heap.size w w' := by
  by_cases h : 0 ≤ m ∧ m < 13
  · obtain ⟨n, rfl⟩ := Int.eq_ofNat_of_zero_le h.1
    exact Rk.calls_fn mixed okf_ok Rk.noSpec_good (List.map_inj_left.1 len_in n (List.mem_range.2 (by omega))) w (Rk.noKn_knows w)
  · rw [lenM_out m h]
    refine Rk.calls_owed mixed okf_ok Rk.noSpec_good (len_out m) ?_ w (Rk.noKn_knows w)
    simp only [decide_eq_false_iff_not]
    and_intros <;> first | trivial | omega

theorem rlen_in : (List.range 13).map (fun m => Rk.fn Tryz.prog okf Rk.noKn (Rk.ofSpec Rk.noSpec) 60 1 63 #[.int .i64 (Int.ofNat m)] [] True) = (List.range 13).map (fun m => some (.int .i64 (lenM (Int.ofNat m)), [], True)) := by kernel_rfl
theorem rlen_lo (m : Int) : Rk.fn Tryz.prog okf Rk.noKn (Rk.ofSpec Rk.noSpec) 60 1 63 #[.int .i64 m] (List.replicate 7 (0, false)) True = some (.int .i64 0, [], (decide (m ≥ 0) = false ∧ decide (m = 11) = false ∧ decide (m = 8) = false ∧ decide (m = 7) = false ∧ decide (m = 6) = false ∧ decide (m = 1) = false ∧ decide (m = 0) = false ∧ True)) := by kernel_rfl
theorem rlen_hi (m : Int) : Rk.fn Tryz.prog okf Rk.noKn (Rk.ofSpec Rk.noSpec) 60 1 63 #[.int .i64 m] [(0, false), (0, false), (0, false), (0, false), (0, false), (0, false), (0, true), (0, false)] True = some (.int .i64 0, [], (decide (m ≤ 12) = false ∧ decide (m ≥ 0) = true ∧ decide (m = 11) = false ∧ decide (m = 8) = false ∧ decide (m = 7) = false ∧ decide (m = 6) = false ∧ decide (m = 1) = false ∧ decide (m = 0) = false ∧ True)) := by kernel_rfl
theorem rlen_calls (m : Int) (w : World) : Calls Tryz.prog 63 #[.int .i64 m] w fun e w' => e = .returned (.int .i64 (lenM m)) ∧ Below w.heap.size w w' := by
  by_cases h : 0 ≤ m ∧ m < 13
  · obtain ⟨n, rfl⟩ := Int.eq_ofNat_of_zero_le h.1
    exact Rk.calls_fn mixed okf_ok Rk.noSpec_good (List.map_inj_left.1 rlen_in n (List.mem_range.2 (by omega))) w (Rk.noKn_knows w)
  · rw [lenM_out m h]
    by_cases h0 : 0 ≤ m
    · refine Rk.calls_owed mixed okf_ok Rk.noSpec_good (rlen_hi m) ?_ w (Rk.noKn_knows w)
      simp only [decide_eq_false_iff_not, decide_eq_true_eq]
      and_intros <;> first | trivial | omega
    · refine Rk.calls_owed mixed okf_ok Rk.noSpec_good (rlen_lo m) ?_ w (Rk.noKn_knows w)
      simp only [decide_eq_false_iff_not]
      and_intros <;> first | trivial | omega
end Go.Proofs.YtadkilofkpmpgaaGreatDoor
