/- 'asm.Parse' at every text; 'asm.Print' of what is wrong. 'AsmPrints' answers true. -/
import Derived.Test.YtadkilofkpmpgaaGreatDoorParM
import Derived.Test.YtadkilofkpmpgaaGreatDoorPrtA
import Derived.Test.YtadkilofkpmpgaaGreatDoorRpP
import Derived.Test.YtadkilofkpmpgaaGreatDoorWr
import Derived.Test.YtadkilofkpmpgaaGreatDoorLsP
import Derived.Deep.RegionHeld3
import Derived.Deep.Cut
namespace Go.Proofs.YtadkilofkpmpgaaGreatDoor
open Go Go.RowKit
set_option maxRecDepth 100000
/-- What is wrong with a line. -/
def wrongL (b : Nat) (n : Int) : Int := if (opName (Int.ofNat b)).isEmpty = true then 13 else if n < 0 ∨ limM (opMode (Int.ofNat b)) ≤ n then 10 else 0
theorem parse_calls (s : ByteArray) (hs : s.size ≤ 65536) (w : World) (hk : Rk.Knows kn5 w) (he : ErrV w) :
    Calls Tryz.prog 11 #[.string s] w fun e w' => e = .returned (pv3 (parseW s.data.toList)) ∧ Below w.heap.size w w' := by
  by_cases h : s.size < 3
  · exact par_short s h w
  · cases haz : (s.data.toList.take 3).all isAZ with
    | false => exact par_form s h haz w
    | true => exact par_main s h hs haz w hk he
theorem print_err (b : Nat) (n : Int) (h : b < 256) (hw : wrongL b n ≠ 0) (w : World) (hk : Rk.Knows kn5 w) :
    Calls Tryz.prog 7 #[.agg #[.int .u8 (b : Int), .int .i64 n]] w fun e w' => e = .returned (.tuple #[.string ⟨⟨[]⟩⟩, .int .i64 (wrongL b n)]) ∧ Below w.heap.size w w' := by
  unfold wrongL at hw ⊢
  by_cases ho : (opName (Int.ofNat b)).isEmpty = true
  · rw [if_pos ho]
    exact print_bad b n h ho w hk
  · rw [if_neg ho] at hw ⊢
    by_cases hn : n < 0 ∨ limM (opMode (Int.ofNat b)) ≤ n
    · rw [if_pos hn]
      exact print_out b n h (by simpa using ho) hn w hk
    · rw [if_neg hn] at hw
      exact absurd rfl hw
theorem wrongL_0 (b : Nat) (n : Int) (hw : wrongL b n = 0) : (opName (Int.ofNat b)).isEmpty = false ∧ 0 ≤ n ∧ n < limM (opMode (Int.ofNat b)) := by
  unfold wrongL at hw
  by_cases ho : (opName (Int.ofNat b)).isEmpty = true
  · rw [if_pos ho] at hw; cases hw
  · rw [if_neg ho] at hw
    by_cases hn : n < 0 ∨ limM (opMode (Int.ofNat b)) ≤ n
    · rw [if_pos hn] at hw; cases hw
    · exact ⟨by simpa using ho, by omega, by omega⟩
end Go.Proofs.YtadkilofkpmpgaaGreatDoor
namespace Go.Proofs.YtadkilofkpmpgaaGreatDoor
open Go Go.RowKit
set_option maxRecDepth 100000
theorem byteW_op (nm : List UInt8) (m : Int) : 0 ≤ (byteW nm m opTab 0 14).1 ∧ (byteW nm m opTab 0 14).1 < 256 := by
  rw [byteW_law]
  split
  · exact ⟨by decide, by decide⟩
  · rename_i hr
    split
    · exact ⟨by decide, by decide⟩
    · rename_i hm
      split
      · exact ⟨by decide, by decide⟩
      · rename_i hq
        have h := rowOf_in nm hr
        have hm' := Classical.not_not.1 hm
        exact ⟨by show 0 ≤ refAt _ _; omega, refAt_hi _ _ h.1 h.2 hm'.1 hm'.2⟩
theorem prsA_op (nm rest : List UInt8) : ∀ (f m : Nat) (e : Int), 0 ≤ (prsA nm rest f m e).1 ∧ (prsA nm rest f m e).1 < 256
  | 0, _, _ => by
    unfold prsA
    exact ⟨Int.le_refl 0, show (0 : Int) < 256 by decide⟩
  | f + 1, m, e => by
    rw [prsA]
    split
    · exact prsA_op nm rest f (m + 1) e
    · split
      · exact byteW_op nm (m : Int)
      · exact prsA_op nm rest f (m + 1) _
theorem parseW_op (l : List UInt8) : 0 ≤ (parseW l).1 ∧ (parseW l).1 < 256 := by
  unfold parseW
  split
  · exact ⟨by decide, by decide⟩
  · exact prsA_op _ _ _ _ _
set_option maxHeartbeats 800000 in
theorem prints_long (b n : Int) (s : ByteArray) (hs : 30 < s.size) (w : World) (hk : Rk.Knows kn5 w) :
    Calls Tryz.prog 3 #[.agg #[.int .u8 b, .int .i64 n], .string s] w fun e w' => e = .returned (.bool true) ∧ Below w.heap.size w w' := by
  have c3 := fun W hW => awake5_calls W (hk.below hW)
  have hB := (Below.refl w.heap.size w).alloc (Nat.le_refl _) (.cells #[.int .u8 b, .int .i64 n] 23)
  have d1 : decide ((s.size : Int) > 30) = true := decide_eq_true (by omega)
  clear hs hk
  go_enter Tryz.func3, Tryz.ntmps3
  go_wp2_with (go_at_call 6; refine (c3 _ hB).mono ?_; rintro e w2 ⟨rfl, hw2⟩; replace hB := stepB' hB hw2)
  go_ret
  exact ⟨rfl, hB⟩
set_option maxHeartbeats 1600000 in
theorem prints_no (b : Nat) (n : Int) (h : b < 256) (hw : wrongL b n ≠ 0) (s : ByteArray) (hs : s.size ≤ 30) (w : World) (hk : Rk.Knows kn5 w) (hev : ErrV w) :
    Calls Tryz.prog 3 #[.agg #[.int .u8 (b : Int), .int .i64 n], .string s] w fun e w' => e = .returned (.bool true) ∧ Below w.heap.size w w' := by
  have c3 := fun W hW => awake5_calls W (hk.below hW)
  have c4 := fun W => plain_calls (b : Int) n (by omega) (by omega) W
  have cW := fun W => wrong_calls (b : Int) n (by omega) (by omega) W
  have eW : wrongI (b : Int) n = wrongL b n := rfl
  rw [eW] at cW
  have c5 := fun W (hW : Below w.heap.size w W) => parse_calls s (by omega) W (hk.below hW) (hev.below hW)
  have c6 := fun W => rparse_calls s W
  have hop := parseW_op s.data.toList
  have c7 := fun W => plain_calls (parseW s.data.toList).1 (parseW s.data.toList).2.1 hop.1 hop.2 W
  have cP := fun W (hW : Below w.heap.size w W) => print_err b n h hw W (hk.below hW)
  have d2 : (wrongL b n == 0) = false := beq_eq_false_iff_ne.2 hw
  have d3 : (wrongL b n != 0) = true := by rw [bne, d2]; rfl
  generalize wrongL b n = ep at cP cW d2 d3 hw
  generalize parseW s.data.toList = R at c5 c6 c7 hop
  obtain ⟨o, m, er⟩ := R
  have hB := (Below.refl w.heap.size w).alloc (Nat.le_refl _) (.cells #[.int .u8 (b : Int), .int .i64 n] 23)
  have hbx : boxAt (w.alloc (.cells #[.int .u8 (b : Int), .int .i64 n] 23)) w.heap.size [.int .u8 (b : Int), .int .i64 n] 23 := by
    unfold boxAt; rw [heap_alloc_new]
  have d1 : decide ((s.size : Int) > 30) = false := decide_eq_false (by omega)
  clear hop hs hk hev h hw eW
  go_enter Tryz.func3, Tryz.ntmps3
  go_upto_region 9 with (first
    | (go_at_call 7; refine (cP _ hB).mono ?_; rintro e w2 ⟨rfl, hw2⟩; replace hB := stepB' hB hw2; replace hbx := hbx.below hw2; have q0 := hbx.cell 0; have q1 := hbx.cell 1)
    | (go_at_call 9; refine (c4 _).mono ?_; rintro e w3 ⟨rfl, hw3⟩; replace hB := stepB' hB hw3; replace hbx := hbx.below hw3; have q0 := hbx.cell 0; have q1 := hbx.cell 1)
    | (go_at_call 8; refine (cW _).mono ?_; rintro e w4 ⟨rfl, hw4⟩; replace hB := stepB' hB hw4; replace hbx := hbx.below hw4; have q0 := hbx.cell 0; have q1 := hbx.cell 1)
    | (go_at_call 11; refine (c5 _ hB).mono ?_; rintro e w5 ⟨rfl, hw5⟩; replace hB := stepB' hB hw5)
    | (go_at_call 12; refine (c6 _).mono ?_; rintro e w6 ⟨rfl, hw6⟩))
  have hB5 := hB.alloc hB.size (.cells #[.int .u8 o, .int .i64 m] 23)
  have bA : boxAt (w5.alloc (.cells #[.int .u8 o, .int .i64 m] 23)) w5.heap.size [.int .u8 o, .int .i64 m] 23 := by unfold boxAt; rw [heap_alloc_new]
  have hB6 := stepB' hB5 hw6
  have bA6 := (bA.below hw6).alloc (.cells #[.int .i64 o, .int .i64 m] 30)
  have bR : boxAt (w6.alloc (.cells #[.int .i64 o, .int .i64 m] 30)) w6.heap.size [.int .i64 o, .int .i64 m] 30 := by unfold boxAt; rw [heap_alloc_new]
  have hB7 := hB6.alloc hB6.size (.cells #[.int .i64 o, .int .i64 m] 30)
  generalize w6.alloc (.cells #[.int .i64 o, .int .i64 m] 30) = W7 at hB7 bA6 bR ⊢
  generalize w6.heap.size = N6 at bR ⊢
  generalize w5.heap.size = N5 at bA6 ⊢
  have sP : ∀ W', Below W7.heap.size W7 W' → Calls Tryz.prog 9 #[.agg #[.int .u8 o, .int .i64 m]] W' fun e w'' => e = .returned (.agg #[.int .i64 o, .int .i64 m]) ∧ Below W7.heap.size W7 w'' := fun W' hW =>
    (c7 W').mono fun e w'' ⟨he, hb⟩ => ⟨he, stepB' hW hb⟩
  have sA : ∀ W', Below W7.heap.size W7 W' → Calls Tryz.prog 6 #[] W' fun e w'' => e = .returned (.bool true) ∧ Below W7.heap.size W7 w'' := fun W' hW =>
    (c3 W' (stepB' hB7 hW)).mono fun e w'' ⟨he, hb⟩ => ⟨he, stepB' hW hb⟩
  have r0 : ∀ W', Below W7.heap.size W7 W' → W'.cell? ⟨N5, 0, none⟩ = some (.int .u8 o) := fun W' hW => (bA6.below hW).cell 0
  have r1 : ∀ W', Below W7.heap.size W7 W' → W'.cell? ⟨N5, 1, none⟩ = some (.int .i64 m) := fun W' hW => (bA6.below hW).cell 1
  have r2 : ∀ W', Below W7.heap.size W7 W' → W'.cell? ⟨N6, 0, none⟩ = some (.int .i64 o) := fun W' hW => (bR.below hW).cell 0
  have r3 : ∀ W', Below W7.heap.size W7 W' → W'.cell? ⟨N6, 1, none⟩ = some (.int .i64 m) := fun W' hW => (bR.below hW).cell 1
  have hB8 := Below.refl W7.heap.size W7
  have hD : Below W7.heap.size W7 W7.drew := ⟨hB8.os, hB8.tape, hB8.output, hB8.size, hB8.block⟩
  have g0 := r0 _ hD
  have g1 := r1 _ hD
  have g2 := r2 _ hD
  have g3 := r3 _ hD
  clear c3 c4 c5 c6 c7 cW cP bA bA6 bR hB5 hB6 hw6 hw5 hw2 hbx hB d1
  go_region_held3 (fun w' => Below W7.heap.size W7 w' ∧ w'.cell? ⟨N5, 0, none⟩ = some (.int .u8 o) ∧ w'.cell? ⟨N5, 1, none⟩ = some (.int .i64 m) ∧ w'.cell? ⟨N6, 0, none⟩ = some (.int .i64 o) ∧ w'.cell? ⟨N6, 1, none⟩ = some (.int .i64 m))
    (first | exact ⟨by assumption, by assumption, by assumption, by assumption, by assumption⟩)
    (first
      | (go_at_call 9; refine (sP _ (by assumption)).mono ?_; rintro e w' ⟨rfl, hw⟩; have t0 := r0 _ hw; have t1 := r1 _ hw; have t2 := r2 _ hw; have t3 := r3 _ hw)
      | (go_at_call 6; refine (sA _ (by assumption)).mono ?_; rintro e w' ⟨rfl, hw⟩; have t0 := r0 _ hw; have t1 := r1 _ hw; have t2 := r2 _ hw; have t3 := r3 _ hw))
  all_goals
    go_wp2
    go_ret
    exact ⟨rfl, stepB' hB7 hw⟩
set_option maxHeartbeats 1600000 in
theorem prints_ok (b : Nat) (n : Int) (h : b < 256) (hw : wrongL b n = 0) (s : ByteArray) (hs : s.size ≤ 30) (w : World) (hk : Rk.Knows kn5 w) (hev : ErrV w) :
    Calls Tryz.prog 3 #[.agg #[.int .u8 (b : Int), .int .i64 n], .string s] w fun e w' => e = .returned (.bool true) ∧ Below w.heap.size w w' := by
  have c3 := fun W hW => awake5_calls W (hk.below hW)
  have c4 := fun W => plain_calls (b : Int) n (by omega) (by omega) W
  have cW := fun W => wrong_calls (b : Int) n (by omega) (by omega) W
  have eW : wrongI (b : Int) n = wrongL b n := rfl
  rw [eW] at cW
  have c5 := fun W (hW : Below w.heap.size w W) => parse_calls s (by omega) W (hk.below hW) (hev.below hW)
  have c6 := fun W => rparse_calls s W
  have hop := parseW_op s.data.toList
  have c7 := fun W => plain_calls (parseW s.data.toList).1 (parseW s.data.toList).2.1 hop.1 hop.2 W
  obtain ⟨ho, n0, n1⟩ := wrongL_0 b n hw
  have cP := fun W (hW : Below w.heap.size w W) => print_inI (b : Int) n (by omega) (by omega) ho n0 n1 W (hk.below hW)
  have cT := fun W => text_calls b n h ho n0 n1 W
  rw [Int.toNat_natCast] at cP
  rw [hw] at cW
  generalize textL b n = tx at cP cT
  generalize parseW s.data.toList = R at c5 c6 c7 hop
  obtain ⟨o, m, er⟩ := R
  have hB := (Below.refl w.heap.size w).alloc (Nat.le_refl _) (.cells #[.int .u8 (b : Int), .int .i64 n] 23)
  have hbx : boxAt (w.alloc (.cells #[.int .u8 (b : Int), .int .i64 n] 23)) w.heap.size [.int .u8 (b : Int), .int .i64 n] 23 := by
    unfold boxAt; rw [heap_alloc_new]
  have d1 : decide ((s.size : Int) > 30) = false := decide_eq_false (by omega)
  clear hop hs hk hev h hw eW ho n0 n1
  go_enter Tryz.func3, Tryz.ntmps3
  go_upto_region 9 with (first
    | (go_at_call 7; refine (cP _ hB).mono ?_; rintro e w2 ⟨rfl, hw2⟩; replace hB := stepB' hB hw2; replace hbx := hbx.below hw2; have q0 := hbx.cell 0; have q1 := hbx.cell 1)
    | (go_at_call 9; refine (c4 _).mono ?_; rintro e w3 ⟨rfl, hw3⟩; replace hB := stepB' hB hw3; replace hbx := hbx.below hw3; have q0 := hbx.cell 0; have q1 := hbx.cell 1)
    | (go_at_call 8; refine (cW _).mono ?_; rintro e w4 ⟨rfl, hw4⟩; replace hB := stepB' hB hw4; replace hbx := hbx.below hw4; have q0 := hbx.cell 0; have q1 := hbx.cell 1)
    | (go_at_call 10; refine (cT _).mono ?_; rintro e w4 ⟨rfl, hw4⟩; replace hB := stepB' hB hw4; replace hbx := hbx.below hw4; have q0 := hbx.cell 0; have q1 := hbx.cell 1)
    | (go_at_call 11; refine (c5 _ hB).mono ?_; rintro e w5 ⟨rfl, hw5⟩; replace hB := stepB' hB hw5)
    | (go_at_call 12; refine (c6 _).mono ?_; rintro e w6 ⟨rfl, hw6⟩))
  have hB5 := hB.alloc hB.size (.cells #[.int .u8 o, .int .i64 m] 23)
  have bA : boxAt (w5.alloc (.cells #[.int .u8 o, .int .i64 m] 23)) w5.heap.size [.int .u8 o, .int .i64 m] 23 := by unfold boxAt; rw [heap_alloc_new]
  have hB6 := stepB' hB5 hw6
  have bA6 := (bA.below hw6).alloc (.cells #[.int .i64 o, .int .i64 m] 30)
  have bR : boxAt (w6.alloc (.cells #[.int .i64 o, .int .i64 m] 30)) w6.heap.size [.int .i64 o, .int .i64 m] 30 := by unfold boxAt; rw [heap_alloc_new]
  have hB7 := hB6.alloc hB6.size (.cells #[.int .i64 o, .int .i64 m] 30)
  generalize w6.alloc (.cells #[.int .i64 o, .int .i64 m] 30) = W7 at hB7 bA6 bR ⊢
  generalize w6.heap.size = N6 at bR ⊢
  generalize w5.heap.size = N5 at bA6 ⊢
  have sP : ∀ W', Below W7.heap.size W7 W' → Calls Tryz.prog 9 #[.agg #[.int .u8 o, .int .i64 m]] W' fun e w'' => e = .returned (.agg #[.int .i64 o, .int .i64 m]) ∧ Below W7.heap.size W7 w'' := fun W' hW =>
    (c7 W').mono fun e w'' ⟨he, hb⟩ => ⟨he, stepB' hW hb⟩
  have sA : ∀ W', Below W7.heap.size W7 W' → Calls Tryz.prog 6 #[] W' fun e w'' => e = .returned (.bool true) ∧ Below W7.heap.size W7 w'' := fun W' hW =>
    (c3 W' (stepB' hB7 hW)).mono fun e w'' ⟨he, hb⟩ => ⟨he, stepB' hW hb⟩
  have r0 : ∀ W', Below W7.heap.size W7 W' → W'.cell? ⟨N5, 0, none⟩ = some (.int .u8 o) := fun W' hW => (bA6.below hW).cell 0
  have r1 : ∀ W', Below W7.heap.size W7 W' → W'.cell? ⟨N5, 1, none⟩ = some (.int .i64 m) := fun W' hW => (bA6.below hW).cell 1
  have r2 : ∀ W', Below W7.heap.size W7 W' → W'.cell? ⟨N6, 0, none⟩ = some (.int .i64 o) := fun W' hW => (bR.below hW).cell 0
  have r3 : ∀ W', Below W7.heap.size W7 W' → W'.cell? ⟨N6, 1, none⟩ = some (.int .i64 m) := fun W' hW => (bR.below hW).cell 1
  have hB8 := Below.refl W7.heap.size W7
  have hD : Below W7.heap.size W7 W7.drew := ⟨hB8.os, hB8.tape, hB8.output, hB8.size, hB8.block⟩
  have g0 := r0 _ hD
  have g1 := r1 _ hD
  have g2 := r2 _ hD
  have g3 := r3 _ hD
  clear c3 c4 c5 c6 c7 cW cP bA bA6 bR hB5 hB6 hw6 hw5 hw2 hbx hB d1
  go_region_held3 (fun w' => Below W7.heap.size W7 w' ∧ w'.cell? ⟨N5, 0, none⟩ = some (.int .u8 o) ∧ w'.cell? ⟨N5, 1, none⟩ = some (.int .i64 m) ∧ w'.cell? ⟨N6, 0, none⟩ = some (.int .i64 o) ∧ w'.cell? ⟨N6, 1, none⟩ = some (.int .i64 m))
    (first | exact ⟨by assumption, by assumption, by assumption, by assumption, by assumption⟩)
    (first
      | (go_at_call 9; refine (sP _ (by assumption)).mono ?_; rintro e w' ⟨rfl, hw⟩; have t0 := r0 _ hw; have t1 := r1 _ hw; have t2 := r2 _ hw; have t3 := r3 _ hw)
      | (go_at_call 6; refine (sA _ (by assumption)).mono ?_; rintro e w' ⟨rfl, hw⟩; have t0 := r0 _ hw; have t1 := r1 _ hw; have t2 := r2 _ hw; have t3 := r3 _ hw))
  all_goals
    go_wp2
    go_ret
    exact ⟨rfl, stepB' hB7 hw⟩
theorem prints_calls (b n : Int) (h0 : 0 ≤ b) (h1 : b < 256) (s : ByteArray) (w : World) (hk : Rk.Knows kn5 w) (hev : ErrV w) :
    Calls Tryz.prog 3 #[.agg #[.int .u8 b, .int .i64 n], .string s] w fun e w' => e = .returned (.bool true) ∧ Below w.heap.size w w' := by
  obtain ⟨k, rfl⟩ := Int.eq_ofNat_of_zero_le h0
  by_cases hs : s.size ≤ 30
  · by_cases hw : wrongL k n = 0
    · exact prints_ok k n (by omega) hw s hs w hk hev
    · exact prints_no k n (by omega) hw s hs w hk hev
  · exact prints_long (k : Int) n s (by omega) w hk
end Go.Proofs.YtadkilofkpmpgaaGreatDoor
