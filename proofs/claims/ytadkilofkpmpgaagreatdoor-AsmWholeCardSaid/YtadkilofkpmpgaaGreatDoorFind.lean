/- The reference's 'Find': the first place of a byte in its table. -/
import Derived.Test.YtadkilofkpmpgaaGreatDoorRef
import Derived.WalkKit
import Derived.OwnWalk
namespace Go.Proofs.YtadkilofkpmpgaaGreatDoor
open Go Go.RowKit
/-- What is found in a list of values, the first being that of a place. -/
def findL (b : Int) : List Nat → Nat → Int × Int
  | [], _ => (-1, -1)
  | x :: l, i => if refVal x = b then (Int.ofNat (i / 13), Int.ofNat (i % 13)) else findL b l (i + 1)
def findFrom (b : Int) (i : Nat) : Int × Int := findL b (refTab.drop i) i
def fnd (b : Int) : Int × Int := findL b refTab 0

theorem refTab_len : refTab.length = 728 := by decide +kernel
theorem drop_at (i : Nat) (h : i < 728) : refTab.drop i = refTab.getD i 256 :: refTab.drop (i + 1) := by
  have hl : i < refTab.length := by rw [refTab_len]; exact h
  rw [List.drop_eq_getElem_cons hl]
  simp [List.getD, hl]
theorem findFrom_hit (b : Int) (r m : Nat) (hr : r < 56) (hm : m < 13) (h : refAt r m = b) : findFrom b (13 * r + m) = ((r : Int), (m : Int)) := by
  have e : refVal (refTab.getD (13 * r + m) 256) = b := by
    rw [← h]
    simp only [refAt, Int.toNat_natCast, Nat.mul_comm r 13]
  rw [findFrom, drop_at _ (by omega), findL, if_pos e, show (13 * r + m) / 13 = r by omega, show (13 * r + m) % 13 = m by omega]
  rfl
theorem findFrom_miss (b : Int) (r m : Nat) (hr : r < 56) (hm : m < 13) (h : ¬ refAt r m = b) : findFrom b (13 * r + m) = findFrom b (13 * r + (m + 1)) := by
  have e : ¬ refVal (refTab.getD (13 * r + m) 256) = b := by
    intro e2; apply h
    rw [← e2]
    simp only [refAt, Int.toNat_natCast, Nat.mul_comm r 13]
  rw [findFrom, drop_at _ (by omega), findL, if_neg e]
  rfl
theorem findFrom_end (b : Int) : findFrom b (13 * 56) = (-1, -1) := by
  rw [findFrom, List.drop_eq_nil_of_le (by rw [refTab_len]; omega)]
  rfl

set_option maxHeartbeats 400000 in
theorem find_calls (b : Int) (w : World) : Calls Tryz.prog 22 #[.int .i64 b] w fun e w' => e = .returned (.tuple #[.int .i64 (fnd b).1, .int .i64 (fnd b).2]) ∧ Below w.heap.size w w' := by
  go_enter Tryz.func22, Tryz.ntmps22
  go_wp2
  go_loopw [4] (fun i wr => ∃ r : Nat, r ≤ 56 ∧ i = .int .i64 r ∧ fnd b = findFrom b (13 * r + 0) ∧ Below w.heap.size w wr) (fun i _ => 56 - (intOf i).toNat)
  case atStart => exact ⟨0, by omega, rfl, rfl, Below.refl _ _⟩
  case round =>
    obtain ⟨r, hr, rfl, hf, hB⟩ := hrel
    by_cases hlt : r < 56
    · have hd : decide ((r : Int) < 56) = true := decide_eq_true (by omega)
      go_wp2
      go_loopw [5] (fun j wr2 => ∃ m : Nat, m ≤ 13 ∧ j = .int .i64 m ∧ fnd b = findFrom b (13 * r + m) ∧ Below w.heap.size w wr2) (fun j _ => 13 - (intOf j).toNat)
      case atStart => exact ⟨0, by omega, rfl, hf, hB⟩
      case round =>
        obtain ⟨m, hm, rfl, hf2, hB2⟩ := hrel
        by_cases hlm : m < 13
        · by_cases heq : refAt r m = b
          · have hb : (refAt (r : Int) (m : Int) == b) = true := beq_iff_eq.2 heq
            have hres := findFrom_hit b r m hlt hlm heq
            rw [← hf2] at hres
            have HR : Hid (fnd b = ((r : Int), (m : Int))) := hres
            clear hres hf2 hf heq
            go_wp2_with (go_at_call 32; refine (at_calls _ _ (by omega) (by omega) (by omega) (by omega) _).mono ?_; rintro e w' ⟨rfl, hw'⟩)
            go_ret2
            exact ⟨by rw [HR.out]; rfl, hB2.trans (hw'.mono hB2.size)⟩
          · have hb : (refAt (r : Int) (m : Int) == b) = false := beq_eq_false_iff_ne.2 heq
            have hres := findFrom_miss b r m hlt hlm heq
            have HR : Hid (fnd b = findFrom b (13 * r + (m + 1))) := hf2.trans hres
            clear hres hf2 hf heq
            go_wp2_with (go_at_call 32; refine (at_calls _ _ (by omega) (by omega) (by omega) (by omega) _).mono ?_; rintro e w' ⟨rfl, hw'⟩)
            go_roundw
            case rel => exact ⟨m + 1, by omega, by go_num, HR.out, hB2.trans (hw'.mono hB2.size)⟩
            case measure => simp [intOf]; omega
        · have HR : Hid (fnd b = findFrom b (13 * r + m)) := hf2
          clear hf2 hf
          go_wp2
          have hm13 : m = 13 := by omega
          subst hm13
          refine ⟨⟨r + 1, by omega, by go_num, ?_, hB2⟩, by simp [intOf]; omega⟩
          rw [HR.out, show 13 * (r + 1) + 0 = 13 * r + 13 by omega]
    · have hr56 : r = 56 := by omega
      subst hr56
      rw [findFrom_end] at hf
      have HR : Hid (fnd b = (-1, -1)) := hf
      clear hf
      go_wp2
      go_ret2
      exact ⟨by rw [HR.out]; rfl, hB⟩
end Go.Proofs.YtadkilofkpmpgaaGreatDoor
