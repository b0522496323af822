/- What 'asm.Print' answers, at every byte and every number. -/
import Derived.Test.YtadkilofkpmpgaaGreatDoorPrt2
import Derived.Test.YtadkilofkpmpgaaGreatDoorPrt3
namespace Go.Proofs.YtadkilofkpmpgaaGreatDoor
open Go Go.RowKit
theorem hexT_low : ∀ x ∈ hexT, x.toNat < 128 := by decide
theorem hx_low (x : Int) : (hx x).toNat < 128 := by
  unfold hx
  have h : (hexT.getD x.toNat 0).toNat < 128 := by
    by_cases hl : x.toNat < hexT.length
    · have : hexT.getD x.toNat 0 = hexT[x.toNat] := by simp [List.getD, hl]
      rw [this]
      exact hexT_low _ (List.getElem_mem hl)
    · have : hexT.getD x.toNat 0 = 0 := by simp [List.getD, List.getElem?_eq_none (Nat.le_of_not_lt hl)]
      rw [this]; decide
  rw [Int.toNat_natCast, UInt8.toNat_ofNat']
  omega
theorem hexS_low (k : Nat) (n : Int) : ∀ x ∈ hexS k n, x.toNat < 128 := by
  intro x hx
  unfold hexS at hx
  split at hx <;> simp only [List.mem_cons, List.not_mem_nil, or_false] at hx
  · subst hx; exact hx_low _
  · rcases hx with rfl | rfl <;> exact hx_low _
  · rcases hx with rfl | rfl | rfl <;> exact hx_low _
  · rcases hx with rfl | rfl | rfl | rfl <;> exact hx_low _
theorem hexS_asc (k : Nat) (n : Int) : ascOk ⟨⟨hexS k n⟩⟩ := by
  refine ⟨?_, fun j b h => hexS_low k n b (List.mem_of_getElem? h)⟩
  show (hexS k n).length ≤ 65536
  unfold hexS
  split <;> simp
/-- How many digits a number has. -/
def nd (n : Int) : Nat := if n < 16 then 1 else if n < 256 then 2 else if n < 4096 then 3 else 4
theorem nd_has (n : Int) (h0 : 0 ≤ n) (h1 : n < 65536) : hasD (nd n) n := by
  unfold nd
  split
  · exact ⟨h0, by assumption⟩
  · split
    · exact ⟨by omega, by assumption⟩
    · split
      · exact ⟨by omega, by assumption⟩
      · exact ⟨by omega, h1⟩
/-- A line's text. -/
def printL (b : Nat) (n : Int) : List UInt8 := if digs b = 0 then lineT0 b else lineT b (nd n) n
theorem digs_all : (good.all fun b => (digs b == 0 && limM (opMode (Int.ofNat b)) == 1) || (digs b == 2 && limM (opMode (Int.ofNat b)) == 256) || (digs b == 4 && limM (opMode (Int.ofNat b)) == 65536)) = true := by decide +kernel
theorem print_bad (b : Nat) (n : Int) (h : b < 256) (ho : (opName (Int.ofNat b)).isEmpty = true) (w : World) (hk : Rk.Knows kn5 w) :
    Calls Tryz.prog 7 #[lineV (Int.ofNat b) n] w fun e w' => e = .returned (.tuple ⟨[.string ⟨⟨[]⟩⟩, .int .i64 13]⟩) ∧ Below w.heap.size w w' :=
  (Rk.fn_good mixed okf_ok (callP_good 1) 3 _ _ [] True _ _ _ (List.map_inj_left.1 (prt_bad n) b (mem_bad b h ho)) w hk trivial).2
theorem print_out (b : Nat) (n : Int) (h : b < 256) (ho : (opName (Int.ofNat b)).isEmpty = false) (hn : n < 0 ∨ limM (opMode (Int.ofNat b)) ≤ n) (w : World) (hk : Rk.Knows kn5 w) :
    Calls Tryz.prog 7 #[lineV (Int.ofNat b) n] w fun e w' => e = .returned (.tuple ⟨[.string ⟨⟨[]⟩⟩, .int .i64 10]⟩) ∧ Below w.heap.size w w' := by
  by_cases h0 : n < 0
  · exact (Rk.fn_good mixed okf_ok (callP_good 1) 3 _ _ _ True _ _ _ (List.map_inj_left.1 (prt_neg n) b (mem_good b h ho)) w hk ⟨decide_eq_true h0, trivial⟩).2
  · exact (Rk.fn_good mixed okf_ok (callP_good 1) 3 _ _ _ True _ _ _ (List.map_inj_left.1 (prt_far n) b (mem_good b h ho)) w hk ⟨decide_eq_true (hn.resolve_left h0), decide_eq_false h0, trivial⟩).2
theorem print_in (b : Nat) (n : Int) (h : b < 256) (ho : (opName (Int.ofNat b)).isEmpty = false) (h0 : 0 ≤ n) (h1 : n < limM (opMode (Int.ofNat b))) (w : World) (hk : Rk.Knows kn5 w) :
    Calls Tryz.prog 7 #[lineV (Int.ofNat b) n] w fun e w' => e = .returned (.tuple ⟨[.string ⟨⟨printL b n⟩⟩, .int .i64 0]⟩) ∧ Below w.heap.size w w' := by
  have hm := mem_good b h ho
  have hd := List.all_eq_true.1 digs_all b hm
  simp only [Bool.or_eq_true, Bool.and_eq_true, beq_iff_eq] at hd
  have hc : chkOb b n := ⟨decide_eq_false (by omega), decide_eq_false (by omega), trivial⟩
  rcases hd with (⟨d, l⟩ | ⟨d, l⟩) | ⟨d, l⟩
  · have e : printL b n = lineT0 b := if_pos d
    rw [e]
    exact (Rk.fn_good mixed okf_ok (callP_good 1) 3 _ _ _ True _ _ _ (List.map_inj_left.1 (prt_0 n) b (List.mem_filter.2 ⟨hm, beq_iff_eq.2 d⟩)) w hk hc).2
  · have e : printL b n = lineT b (nd n) n := if_neg (by rw [d]; decide)
    have hg : b ∈ good2 := List.mem_filter.2 ⟨hm, beq_iff_eq.2 d⟩
    have hh := nd_has n h0 (by omega)
    rw [e]
    rw [l] at h1
    by_cases c1 : n < 16
    · have en : nd n = 1 := if_pos c1
      rw [en] at hh ⊢
      exact (Rk.fn_good mixed okf_ok (callP_good 1) 3 _ _ _ True _ _ _ (List.map_inj_left.1 (prt_2 n) b hg) w hk ⟨hexS_asc _ _, hh, hc⟩).2
    · have en : nd n = 2 := by unfold nd; rw [if_neg c1, if_pos h1]
      rw [en] at hh ⊢
      exact (Rk.fn_good mixed okf_ok (callP_good 2) 3 _ _ _ True _ _ _ (List.map_inj_left.1 (prt_22 n) b hg) w hk ⟨hexS_asc _ _, hh, hc⟩).2
  · have e : printL b n = lineT b (nd n) n := if_neg (by rw [d]; decide)
    have hg : b ∈ good4 := List.mem_filter.2 ⟨hm, beq_iff_eq.2 d⟩
    have hh := nd_has n h0 (by omega)
    rw [e]
    by_cases c1 : n < 16
    · have en : nd n = 1 := if_pos c1
      rw [en] at hh ⊢
      exact (Rk.fn_good mixed okf_ok (callP_good 1) 3 _ _ _ True _ _ _ (List.map_inj_left.1 (prt_41 n) b hg) w hk ⟨hexS_asc _ _, hh, hc⟩).2
    · by_cases c2 : n < 256
      · have en : nd n = 2 := by unfold nd; rw [if_neg c1, if_pos c2]
        rw [en] at hh ⊢
        exact (Rk.fn_good mixed okf_ok (callP_good 2) 3 _ _ _ True _ _ _ (List.map_inj_left.1 (prt_42 n) b hg) w hk ⟨hexS_asc _ _, hh, hc⟩).2
      · by_cases c3 : n < 4096
        · have en : nd n = 3 := by unfold nd; rw [if_neg c1, if_neg c2, if_pos c3]
          rw [en] at hh ⊢
          exact (Rk.fn_good mixed okf_ok (callP_good 3) 3 _ _ _ True _ _ _ (List.map_inj_left.1 (prt_43 n) b hg) w hk ⟨hexS_asc _ _, hh, hc⟩).2
        · have en : nd n = 4 := by unfold nd; rw [if_neg c1, if_neg c2, if_neg c3]
          rw [en] at hh ⊢
          exact (Rk.fn_good mixed okf_ok (callP_good 4) 3 _ _ _ True _ _ _ (List.map_inj_left.1 (prt_44 n) b hg) w hk ⟨hexS_asc _ _, hh, hc⟩).2
end Go.Proofs.YtadkilofkpmpgaaGreatDoor
