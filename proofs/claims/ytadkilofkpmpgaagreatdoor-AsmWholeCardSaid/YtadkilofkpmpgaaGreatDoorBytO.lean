/- 'asm.Bytes' where nothing is wrong: in one. -/
import Derived.Test.YtadkilofkpmpgaaGreatDoorBytA
import Derived.Test.YtadkilofkpmpgaaGreatDoorBytR
namespace Go.Proofs.YtadkilofkpmpgaaGreatDoor
open Go Go.RowKit
/-- The bytes of a line at an address. -/
def bytL (b : Nat) (n a : Int) : List Value := if opMode (Int.ofNat b) = 12 then outV b (n - (a + 2)) 1 else outV b n ((lenM (opMode (Int.ofNat b))).toNat - 1)
theorem byt_ok (b : Nat) (n a : Int) (h : b < 256) (he : bytE b n a = none) (w : World) (hk : Rk.Knows kn5 w) :
    Calls Tryz.prog 17 #[.agg #[.int .u8 (b : Int), .int .i64 n], .int .i64 a] w fun e w' => ∃ v, e = .returned (.tuple #[v, .int .i64 0]) ∧ w'.ownsRow w.heap.size 5 1 v (lenM (opMode (Int.ofNat b))).toNat (bytL b n a) ∧ Below w.heap.size w w' := by
  unfold bytE at he
  split at he
  · cases he
  · rename_i ho
    have ho' : (opName (Int.ofNat b)).isEmpty = false := by simpa using ho
    have hmo := List.all_eq_true.1 modes_ok b (mem_good b h ho')
    simp only [Bool.and_eq_true, decide_eq_true_eq] at hmo
    split at he
    · cases he
    · rename_i hn
      split at he
      · cases he
      · rename_i ha
        split at he
        · cases he
        · rename_i hr
          by_cases h12 : opMode (Int.ofNat b) = 12
          · have e1 : bytL b n a = outV b (n - (a + 2)) 1 := if_pos h12
            have e2 : lenM 12 = 2 := by decide
            rw [e1, h12, e2]
            rw [h12, e2] at ha
            exact byt_rel b n a h ho' h12 (by omega) (by omega) (by omega) (by omega) (by omega) w hk
          · have e1 : bytL b n a = outV b n ((lenM (opMode (Int.ofNat b))).toNat - 1) := if_neg h12
            rw [e1]
            obtain ⟨m, hm⟩ := Int.eq_ofNat_of_zero_le hmo.1.1.1
            have hb := byt_plain b m n a h ho' hm (by omega) (by omega) (by omega) (by omega) (by rw [← hm]; omega) (by rw [← hm]; exact ⟨hmo.1.2, hmo.2⟩) w hk
            rw [hm]
            exact hb
end Go.Proofs.YtadkilofkpmpgaaGreatDoor
