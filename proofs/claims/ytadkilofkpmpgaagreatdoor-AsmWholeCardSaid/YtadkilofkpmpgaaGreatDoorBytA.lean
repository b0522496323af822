/- What is wrong, by 'asm.Bytes': in one. -/
import Derived.Test.YtadkilofkpmpgaaGreatDoorBytF
namespace Go.Proofs.YtadkilofkpmpgaaGreatDoor
open Go Go.RowKit
theorem modes_ok : (good.all fun b => decide (0 ≤ opMode (Int.ofNat b)) && decide (opMode (Int.ofNat b) < 13) && decide (1 ≤ lenM (opMode (Int.ofNat b))) && decide (lenM (opMode (Int.ofNat b)) ≤ 3)) = true := by decide +kernel
/-- What is wrong with a line's bytes at an address; nothing: none. -/
def bytE (b : Nat) (n a : Int) : Option Int :=
  if (opName (Int.ofNat b)).isEmpty = true then some 13
  else if n < 0 ∨ limM (opMode (Int.ofNat b)) ≤ n then some 10
  else if a < 0 ∨ 65535 < a ∨ 65536 < a + lenM (opMode (Int.ofNat b)) then some 10
  else if opMode (Int.ofNat b) = 12 ∧ (n - (a + 2) < -128 ∨ 128 ≤ n - (a + 2)) then some 10
  else none
theorem byt_err (b : Nat) (n a e : Int) (h : b < 256) (he : bytE b n a = some e) (w : World) (hk : Rk.Knows kn5 w) :
    Calls Tryz.prog 17 #[lineV (Int.ofNat b) n, .int .i64 a] w fun r w' => r = .returned (noB e) ∧ Below w.heap.size w w' := by
  unfold bytE at he
  split at he
  · rename_i ho
    cases he
    exact Rk.calls_fn mixed okf_ok (bytSpec_good _) (List.map_inj_left.1 (byt_bad n a) b (mem_bad b h ho)) w hk
  · rename_i ho
    have hm := mem_good b h (by simpa using ho)
    have hmo := List.all_eq_true.1 modes_ok b hm
    simp only [Bool.and_eq_true, decide_eq_true_eq] at hmo
    split at he
    · rename_i hn
      cases he
      by_cases h0 : n < 0
      · exact Rk.calls_owed mixed okf_ok (bytSpec_good _) (List.map_inj_left.1 (byt_neg n a) b hm) ⟨decide_eq_true h0, trivial⟩ w hk
      · exact Rk.calls_owed mixed okf_ok (bytSpec_good _) (List.map_inj_left.1 (byt_far n a) b hm) ⟨decide_eq_true (hn.resolve_left h0), decide_eq_false h0, trivial⟩ w hk
    · rename_i hn
      have n0 : decide (n < 0) = false := decide_eq_false (by omega)
      have n1 : decide (n ≥ limM (opMode (Int.ofNat b))) = false := decide_eq_false (by omega)
      split at he
      · rename_i ha
        cases he
        by_cases a0 : a < 0
        · exact Rk.calls_owed mixed okf_ok (bytSpec_good _) (List.map_inj_left.1 (byt_a0 n a) b hm) ⟨decide_eq_true a0, n1, n0, trivial⟩ w hk
        · by_cases a1 : 65535 < a
          · exact Rk.calls_owed mixed okf_ok (bytSpec_good _) (List.map_inj_left.1 (byt_a1 n a) b hm) ⟨decide_eq_true a1, decide_eq_false a0, n1, n0, trivial⟩ w hk
          · refine Rk.calls_owed mixed okf_ok (bytSpec_good _) (List.map_inj_left.1 (byt_a2 n a) b hm) ⟨decide_eq_true ?_, decide_eq_false a1, decide_eq_false a0, n1, n0, trivial⟩ w hk
            rw [IntKind.wrap_i64]; omega
      · rename_i ha
        split at he
        · rename_i hr
          cases he
          have hg : b ∈ goodR := List.mem_filter.2 ⟨hm, beq_iff_eq.2 hr.1⟩
          have a0 : decide (a < 0) = false := decide_eq_false (by omega)
          have a1 : decide (a > 65535) = false := decide_eq_false (by omega)
          have a2 : decide (IntKind.i64.wrap (a + lenM (opMode (Int.ofNat b))) > 65536) = false := decide_eq_false (by rw [IntKind.wrap_i64]; omega)
          have hlim : limM (opMode (Int.ofNat b)) = 65536 := by rw [hr.1]; decide
          have er : relN n a = n - (a + 2) := by unfold relN; rw [IntKind.wrap_i64, IntKind.wrap_i64]; omega
          by_cases r0 : n - (a + 2) < -128
          · exact Rk.calls_owed mixed okf_ok (bytSpec_good _) (List.map_inj_left.1 (byt_r0 n a) b hg) ⟨decide_eq_true (by rw [er]; exact r0), a2, a1, a0, n1, n0, trivial⟩ w hk
          · exact Rk.calls_owed mixed okf_ok (bytSpec_good _) (List.map_inj_left.1 (byt_r1 n a) b hg) ⟨decide_eq_true (by rw [er]; exact hr.2.resolve_left r0), decide_eq_false (by rw [er]; exact r0), a2, a1, a0, n1, n0, trivial⟩ w hk
        · cases he
end Go.Proofs.YtadkilofkpmpgaaGreatDoor
