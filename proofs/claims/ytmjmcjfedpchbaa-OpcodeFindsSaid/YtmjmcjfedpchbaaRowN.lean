/- The reference's 'Row' at every name; the two 'Length's at every mode. -/
import Derived.Test.YtmjmcjfedpchbaaRef
namespace Go.Proofs.Ytmjmcjfedpchbaa
open Go Go.RowKit
set_option maxRecDepth 100000
theorem nm_run : (List.range 56).map (fun r => Rk.fn Try.prog okf Rk.noKn (Rk.ofSpec Rk.noSpec) 60 1 15 #[.int .i64 (Int.ofNat r)] [] True) = (List.range 56).map (fun r => some (.string ⟨⟨refName (Int.ofNat r)⟩⟩, [], True)) := by kernel_rfl
theorem nm_calls (r : Int) (h0 : 0 ≤ r) (h1 : r < 56) (w : World) : Calls Try.prog 15 #[.int .i64 r] w fun e w' => e = .returned (.string ⟨⟨refName r⟩⟩) ∧ Below w.heap.size w w' := by
  obtain ⟨n, rfl⟩ := Int.eq_ofNat_of_zero_le h0
  exact Rk.calls_fn mixed okf_ok Rk.noSpec_good (List.map_inj_left.1 nm_run n (List.mem_range.2 (by omega))) w (Rk.noKn_knows w)

def rowL (nm : List UInt8) : List (List UInt8) → Nat → Int
  | [], _ => -1
  | x :: l, i => if (x == nm) = true then Int.ofNat i else rowL nm l (i + 1)
def rowOf (nm : List UInt8) : Int := rowL nm refNames 0
def rowFrom (nm : List UInt8) (i : Nat) : Int := rowL nm (refNames.drop i) i
theorem refNames_len : refNames.length = 56 := by decide +kernel
theorem rowFrom_step (nm : List UInt8) (r : Nat) (h : r < 56) : rowFrom nm r = if (refName (r : Int) == nm) = true then (r : Int) else rowFrom nm (r + 1) := by
  have hl : r < refNames.length := by rw [refNames_len]; exact h
  unfold rowFrom
  rw [List.drop_eq_getElem_cons hl, rowL]
  simp [refName, List.getD, hl]
theorem rowFrom_end (nm : List UInt8) : rowFrom nm 56 = -1 := by
  unfold rowFrom
  rw [List.drop_eq_nil_of_le (by rw [refNames_len]; omega)]
  rfl

set_option maxHeartbeats 400000 in
theorem row_calls (nm : ByteArray) (w : World) : Calls Try.prog 11 #[.string nm] w fun e w' => e = .returned (.int .i64 (rowOf nm.data.toList)) ∧ Below w.heap.size w w' := by
  go_enter Try.func11, Try.ntmps11
  go_wp2
  go_loopw [3] (fun i wr => ∃ r : Nat, r ≤ 56 ∧ i = .int .i64 r ∧ rowOf nm.data.toList = rowFrom nm.data.toList r ∧ Below w.heap.size w wr) (fun i _ => 56 - (intOf i).toNat)
  case atStart => exact ⟨0, by omega, rfl, rfl, Below.refl _ _⟩
  case round =>
    obtain ⟨r, hr, rfl, hf, hB⟩ := hrel
    by_cases hlt : r < 56
    · have hd : decide ((r : Int) < 56) = true := decide_eq_true (by omega)
      rw [rowFrom_step _ _ hlt, ← ByteArray.toList_eq] at hf
      cases hq : (refName (r : Int) == nm.toList) with
      | true =>
        rw [hq, if_pos rfl] at hf
        have HR : Hid (rowOf nm.toList = (r : Int)) := hf
        clear hf
        go_wp2_with (go_at_call 15; refine (nm_calls _ (by omega) (by omega) _).mono ?_; rintro e w' ⟨rfl, hw'⟩)
        go_ret
        exact ⟨by rw [← ByteArray.toList_eq, HR.out]; rfl, hB.trans (hw'.mono hB.size)⟩
      | false =>
        rw [hq, if_neg (by simp)] at hf
        have HR : Hid (rowOf nm.toList = rowFrom nm.toList (r + 1)) := hf
        clear hf
        go_wp2_with (go_at_call 15; refine (nm_calls _ (by omega) (by omega) _).mono ?_; rintro e w' ⟨rfl, hw'⟩)
        exact ⟨⟨r + 1, by omega, by go_num, by rw [← ByteArray.toList_eq]; exact HR.out, hB.trans (hw'.mono hB.size)⟩, by simp [intOf]; omega⟩
    · have hr56 : r = 56 := by omega
      subst hr56
      rw [rowFrom_end] at hf
      have HR : Hid (rowOf nm.data.toList = -1) := hf
      clear hf
      go_wp2
      go_ret
      exact ⟨by rw [HR.out]; rfl, hB⟩

def lenL : List Int := [1, 1, 2, 2, 2, 2, 3, 3, 3, 2, 2, 3, 2]
/-- How many bytes an opcode of a mode has; 0: there is no such mode. -/
def lenM (m : Int) : Int := if 0 ≤ m ∧ m < 13 then lenL.getD m.toNat 0 else 0
theorem lenM_out (m : Int) (h : ¬ (0 ≤ m ∧ m < 13)) : lenM m = 0 := if_neg h
theorem len_in : (List.range 13).map (fun m => Rk.fn Try.prog okf Rk.noKn (Rk.ofSpec Rk.noSpec) 60 1 9 #[.int .i64 (Int.ofNat m)] [] True) = (List.range 13).map (fun m => some (.int .i64 (lenM (Int.ofNat m)), [], True)) := by kernel_rfl
theorem len_out (m : Int) : Rk.fn Try.prog okf Rk.noKn (Rk.ofSpec Rk.noSpec) 60 1 9 #[.int .i64 m] (List.replicate 13 (0, false)) True = some (.int .i64 0, [], (decide (m = 11) = false ∧ decide (m = 8) = false ∧ decide (m = 7) = false ∧ decide (m = 6) = false ∧ decide (m = 12) = false ∧ decide (m = 10) = false ∧ decide (m = 9) = false ∧ decide (m = 5) = false ∧ decide (m = 4) = false ∧ decide (m = 3) = false ∧ decide (m = 2) = false ∧ decide (m = 1) = false ∧ decide (m = 0) = false ∧ True)) := by kernel_rfl
theorem len_calls (m : Int) (w : World) : Calls Try.prog 9 #[.int .i64 m] w fun e w' => e = .returned (.int .i64 (lenM m)) ∧ Below w.heap.size w w' := by
  by_cases h : 0 ≤ m ∧ m < 13
  · obtain ⟨n, rfl⟩ := Int.eq_ofNat_of_zero_le h.1
    exact Rk.calls_fn mixed okf_ok Rk.noSpec_good (List.map_inj_left.1 len_in n (List.mem_range.2 (by omega))) w (Rk.noKn_knows w)
  · rw [lenM_out m h]
    refine Rk.calls_owed mixed okf_ok Rk.noSpec_good (len_out m) ?_ w (Rk.noKn_knows w)
    simp only [decide_eq_false_iff_not]
    and_intros <;> first | trivial | omega

theorem rlen_in : (List.range 13).map (fun m => Rk.fn Try.prog okf Rk.noKn (Rk.ofSpec Rk.noSpec) 60 1 10 #[.int .i64 (Int.ofNat m)] [] True) = (List.range 13).map (fun m => some (.int .i64 (lenM (Int.ofNat m)), [], True)) := by kernel_rfl
theorem rlen_lo (m : Int) : Rk.fn Try.prog okf Rk.noKn (Rk.ofSpec Rk.noSpec) 60 1 10 #[.int .i64 m] (List.replicate 7 (0, false)) True = some (.int .i64 0, [], (decide (m ≥ 0) = false ∧ decide (m = 11) = false ∧ decide (m = 8) = false ∧ decide (m = 7) = false ∧ decide (m = 6) = false ∧ decide (m = 1) = false ∧ decide (m = 0) = false ∧ True)) := by kernel_rfl
theorem rlen_hi (m : Int) : Rk.fn Try.prog okf Rk.noKn (Rk.ofSpec Rk.noSpec) 60 1 10 #[.int .i64 m] [(0, false), (0, false), (0, false), (0, false), (0, false), (0, false), (0, true), (0, false)] True = some (.int .i64 0, [], (decide (m ≤ 12) = false ∧ decide (m ≥ 0) = true ∧ decide (m = 11) = false ∧ decide (m = 8) = false ∧ decide (m = 7) = false ∧ decide (m = 6) = false ∧ decide (m = 1) = false ∧ decide (m = 0) = false ∧ True)) := by kernel_rfl
theorem rlen_calls (m : Int) (w : World) : Calls Try.prog 10 #[.int .i64 m] w fun e w' => e = .returned (.int .i64 (lenM m)) ∧ Below w.heap.size w w' := by
  by_cases h : 0 ≤ m ∧ m < 13
  · obtain ⟨n, rfl⟩ := Int.eq_ofNat_of_zero_le h.1
    exact Rk.calls_fn mixed okf_ok Rk.noSpec_good (List.map_inj_left.1 rlen_in n (List.mem_range.2 (by omega))) w (Rk.noKn_knows w)
  · rw [lenM_out m h]
    by_cases h0 : 0 ≤ m
    · refine Rk.calls_owed mixed okf_ok Rk.noSpec_good (rlen_hi m) ?_ w (Rk.noKn_knows w)
      simp only [decide_eq_false_iff_not, decide_eq_true_eq]
      and_intros <;> first | trivial | omega
    · refine Rk.calls_owed mixed okf_ok Rk.noSpec_good (rlen_lo m) ?_ w (Rk.noKn_knows w)
      simp only [decide_eq_false_iff_not]
      and_intros <;> first | trivial | omega
end Go.Proofs.Ytmjmcjfedpchbaa
