/- The statement of 'AsmWhole': at any bytes, any text and any address it answers true, the listed variables reading as the program's text lays them. 'cochinealref05.Bytes': where nothing is wrong, and where a branch is too far. 'cochinealref05.Bytes': its contract: it answers as 'asm.Bytes' does. The two 'Bytes's, the two 'Read's: one answer each, whatever is wrong. A text's lines: strings.Split at '\n' and the reference's. 'asm.Assemble': what it answers, and its walk. 'asm.Assemble' at every text of at most 65536 bytes. 'asm.List': the texts of bytes' lines. 'asm.List': its walk. A line's text is read as the line; a line's bytes are read as the line: plain laws. A line's bytes are read as the line, and what is read has those bytes: plain laws. Assemble of what List answers is the bytes; what is assembled is listed: plain laws. 'AsmWhole' answers true. 'AsmWhole' answers true: the walk. A row's wrap with both the listed variables and the world's shape; internal/bytealg.MaxLen by the shape. The error's variable, where the listed variables read as the program's text lays them. -/
import Derived.Test.YtadkilofkpmpgaaGreatDoorWr
import Derived.WalkKit
import Derived.OwnWalk
import Derived.Maps.AppendAt
import Derived.Deep.Cut
import Derived.Test.YtadkilofkpmpgaaGreatDoorMovP
import Derived.Test.YtadkilofkpmpgaaGreatDoorLsP
import Derived.Test.YtadkilofkpmpgaaGreatDoorShf
import Derived.Lib.Split
import Derived.Lib.SplitLaws
import Derived.Test.YtadkilofkpmpgaaGreatDoorLawPm
import Derived.WalkMore
import Derived.Test.YtadkilofkpmpgaaGreatDoorTxt
import Derived.Test.YtadkilofkpmpgaaGreatDoorBld
import Derived.Test.YtadkilofkpmpgaaGreatDoorPar
import Derived.Test.YtadkilofkpmpgaaGreatDoorRdA
import Derived.Test.YtadkilofkpmpgaaGreatDoorProg
import Derived.HandedShaped
import Derived.Shelf.Vars
import Derived.Test.YtadkilofkpmpgaaGreatDoorKn5
import Derived.Test.YtadkilofkpmpgaaGreatDoorPuP
import Derived.Test.YtadkilofkpmpgaaGreatDoorArg
import Derived.Test.YtadkilofkpmpgaaGreatDoorCards
import Derived.Test.YtadkilofkpmpgaaGreatDoorTie
import Derived.SevenTiedAt
import Derived.Stop.Joined
namespace Go.Proofs.YtadkilofkpmpgaaGreatDoor
open Go Go.RowKit
set_option maxRecDepth 100000
set_option maxHeartbeats 1600000 in
theorem rb_1 (x n a r m : Int) (h0 : 0 ≤ x) (h1 : x < 256) (hf : fnd x = (r, m)) (hw : wrongI x n = 0) (hz : lenM m = 1) (h12 : ¬ m = 12) (a0 : 0 ≤ a) (a1 : a + 1 ≤ 65536) (w : World) :
    Calls Tryz.prog 35 #[.agg #[.int .i64 x, .int .i64 n], .int .i64 a] w fun e w' => ∃ v, e = .returned (.tuple #[v, .int .i64 0]) ∧ w'.ownsRow w.heap.size 5 1 v 1 [.int .u8 x] ∧ Below w.heap.size w w' := by
  have c1 := fun W => wrong_calls x n h0 h1 W
  have c2 := fun W => find_calls x W
  have c3 := fun W => rlen_calls m W
  rw [hw] at c1
  rw [hf] at c2
  rw [hz] at c3
  have hB := (Below.refl w.heap.size w).alloc (Nat.le_refl _) (.cells #[.int .i64 x, .int .i64 n] 30)
  have hbx : boxAt (w.alloc (.cells #[.int .i64 x, .int .i64 n] 30)) w.heap.size [.int .i64 x, .int .i64 n] 30 := by
    unfold boxAt; rw [heap_alloc_new]
  have d1 : decide (a < 0) = false := decide_eq_false (by omega)
  have d2 : decide (a > 65535) = false := decide_eq_false (by omega)
  have d3 : (m == 12) = false := beq_eq_false_iff_ne.2 h12
  have w1 : wrap64 (a + 1) = a + 1 := by unfold wrap64; omega
  have d4 : decide (a + 1 > 65536) = false := decide_eq_false (by omega)
  have x8 : x % 256 = x := by omega
  clear h0 h1 hf hw hz h12 a0 a1
  go_enter Tryz.func35, Tryz.ntmps35
  go_wp2_with (first
    | (go_at_call 8; refine (c1 _).mono ?_; rintro e w2 ⟨rfl, hw2⟩; replace hB := stepB' hB hw2; replace hbx := hbx.below hw2; have q0 := hbx.cell 0; have q1 := hbx.cell 1)
    | (go_at_call 22; refine (c2 _).mono ?_; rintro e w3 ⟨rfl, hw3⟩; replace hB := stepB' hB hw3; replace hbx := hbx.below hw3; have q0 := hbx.cell 0; have q1 := hbx.cell 1)
    | (go_at_call 63; refine (c3 _).mono ?_; rintro e w4 ⟨rfl, hw4⟩; replace hB := stepB' hB hw4; replace hbx := hbx.below hw4; have q0 := hbx.cell 0; have q1 := hbx.cell 1))
  go_ret2
  exact ⟨_, rfl, ⟨by simp, .inr ⟨w4.heap.size, 1, #[.int .u8 x], rfl, hB.size, by rw [heap_alloc_new], Nat.le_refl _, by decide, by simp, by simp⟩⟩, hB.alloc hB.size _⟩
set_option maxHeartbeats 1600000 in
theorem rb_2 (x n a r m : Int) (h0 : 0 ≤ x) (h1 : x < 256) (hf : fnd x = (r, m)) (hw : wrongI x n = 0) (hz : lenM m = 2) (h12 : ¬ m = 12) (n0 : 0 ≤ n) (n1 : n < 256) (a0 : 0 ≤ a) (a1 : a + 2 ≤ 65536) (w : World) :
    Calls Tryz.prog 35 #[.agg #[.int .i64 x, .int .i64 n], .int .i64 a] w fun e w' => ∃ v, e = .returned (.tuple #[v, .int .i64 0]) ∧ w'.ownsRow w.heap.size 5 1 v 2 [.int .u8 x, .int .u8 n] ∧ Below w.heap.size w w' := by
  have c1 := fun W => wrong_calls x n h0 h1 W
  have c2 := fun W => find_calls x W
  have c3 := fun W => rlen_calls m W
  rw [hw] at c1
  rw [hf] at c2
  rw [hz] at c3
  have hB := (Below.refl w.heap.size w).alloc (Nat.le_refl _) (.cells #[.int .i64 x, .int .i64 n] 30)
  have hbx : boxAt (w.alloc (.cells #[.int .i64 x, .int .i64 n] 30)) w.heap.size [.int .i64 x, .int .i64 n] 30 := by
    unfold boxAt; rw [heap_alloc_new]
  have d1 : decide (a < 0) = false := decide_eq_false (by omega)
  have d2 : decide (a > 65535) = false := decide_eq_false (by omega)
  have d3 : (m == 12) = false := beq_eq_false_iff_ne.2 h12
  have w1 : wrap64 (a + 2) = a + 2 := by unfold wrap64; omega
  have d4 : decide (a + 2 > 65536) = false := decide_eq_false (by omega)
  have x8 : x % 256 = x := by omega
  have n8 : n % 256 = n := by omega
  have n9 : n.tmod 256 = n := by rw [Int.tmod_eq_emod_of_nonneg n0]; exact n8
  clear n0 n1 h0 h1 hf hw hz h12 a0 a1
  go_enter Tryz.func35, Tryz.ntmps35
  obtain ⟨i0, hi, hz0, hz1, hz2⟩ := info_parts (show (Tryz.prog.info? 5).map (fun i => (i.zero, i.size, i.bytes)) = some (some (.int .u8 0), 1, 1) by kernel_rfl)
  go_upto_region 14 with (first
    | (go_at_call 8; refine (c1 _).mono ?_; rintro e w2 ⟨rfl, hw2⟩; replace hB := stepB' hB hw2; replace hbx := hbx.below hw2; have q0 := hbx.cell 0; have q1 := hbx.cell 1)
    | (go_at_call 22; refine (c2 _).mono ?_; rintro e w3 ⟨rfl, hw3⟩; replace hB := stepB' hB hw3; replace hbx := hbx.below hw3; have q0 := hbx.cell 0; have q1 := hbx.cell 1)
    | (go_at_call 63; refine (c3 _).mono ?_; rintro e w4 ⟨rfl, hw4⟩; replace hB := stepB' hB hw4; replace hbx := hbx.below hw4; have q0 := hbx.cell 0; have q1 := hbx.cell 1))
  have hB5 := hB.alloc hB.size (.cells #[.int .u8 x] 5)
  have hown : (w4.alloc (.cells #[.int .u8 x] 5)).ownsRow w.heap.size 5 1 (.slice (some ⟨w4.heap.size, 0, none⟩) 1 1) 1 [.int .u8 x] :=
    ⟨by simp, .inr ⟨w4.heap.size, 1, #[.int .u8 x], rfl, hB.size, by rw [heap_alloc_new], Nat.le_refl _, by decide, by simp, by simp⟩⟩
  have hB6 := (hB.alloc hB.size (.cells #[.int .u8 x] 5)).size
  have q5 := (hbx.alloc (.cells #[.int .u8 x] 5)).cell 1
  generalize w4.alloc (.cells #[.int .u8 x] 5) = W5 at hB5 hB6 hown q5 ⊢
  clear q0 q1 hbx hB hw2 hw3 hw4 c1 c2 c3
  go_wp2_with (at_builtin; refine wpList_append_own _ rfl _ _ 38 rfl w.heap.size 5 i0 (.int .u8 0) 1 1 Tryz.underlying38 hi hz0 hz1 hz2 rfl (by decide) _ _ _ rfl (hown.alloc _) ⟨W5.heap.size, 0, none⟩ 1 1 [.int .u8 n] rfl rfl (cell_one_new _ _ _) (by simp [Value.oneCell']) (by decide) (by decide) (by simp; omega) ?_; intro v' w7 hown' hgrow _)
  have hB7 := (hB5.alloc hB6 _).grown hgrow (by simp; omega) (fun k hk => (hown.lt k hk).1)
  go_ret2
  exact ⟨_, rfl, by simpa using hown', hB7⟩
set_option maxHeartbeats 1600000 in
theorem rb_3 (x n a r m : Int) (h0 : 0 ≤ x) (h1 : x < 256) (hf : fnd x = (r, m)) (hw : wrongI x n = 0) (hz : lenM m = 3) (h12 : ¬ m = 12) (n0 : 0 ≤ n) (n1 : n < 65536) (a0 : 0 ≤ a) (a1 : a + 3 ≤ 65536) (w : World) :
    Calls Tryz.prog 35 #[.agg #[.int .i64 x, .int .i64 n], .int .i64 a] w fun e w' => ∃ v, e = .returned (.tuple #[v, .int .i64 0]) ∧ w'.ownsRow w.heap.size 5 1 v 3 [.int .u8 x, .int .u8 (n % 256), .int .u8 (n / 256)] ∧ Below w.heap.size w w' := by
  have c1 := fun W => wrong_calls x n h0 h1 W
  have c2 := fun W => find_calls x W
  have c3 := fun W => rlen_calls m W
  rw [hw] at c1
  rw [hf] at c2
  rw [hz] at c3
  have hB := (Below.refl w.heap.size w).alloc (Nat.le_refl _) (.cells #[.int .i64 x, .int .i64 n] 30)
  have hbx : boxAt (w.alloc (.cells #[.int .i64 x, .int .i64 n] 30)) w.heap.size [.int .i64 x, .int .i64 n] 30 := by
    unfold boxAt; rw [heap_alloc_new]
  have d1 : decide (a < 0) = false := decide_eq_false (by omega)
  have d2 : decide (a > 65535) = false := decide_eq_false (by omega)
  have d3 : (m == 12) = false := beq_eq_false_iff_ne.2 h12
  have w1 : wrap64 (a + 3) = a + 3 := by unfold wrap64; omega
  have d4 : decide (a + 3 > 65536) = false := decide_eq_false (by omega)
  have x8 : x % 256 = x := by omega
  have n8 : n % 256 % 256 = n % 256 := by omega
  have n9 : n.tmod 256 = n % 256 := Int.tmod_eq_emod_of_nonneg n0
  have n10 : n.tdiv 256 = n / 256 := Int.tdiv_eq_ediv_of_nonneg n0
  have n11 : n / 256 % 256 = n / 256 := by omega
  generalize n % 256 = lo at n8 n9 ⊢
  generalize n / 256 = hi8 at n10 n11 ⊢
  clear n0 n1 h0 h1 hf hw hz h12 a0 a1
  go_enter Tryz.func35, Tryz.ntmps35
  obtain ⟨i0, hi, hz0, hz1, hz2⟩ := info_parts (show (Tryz.prog.info? 5).map (fun i => (i.zero, i.size, i.bytes)) = some (some (.int .u8 0), 1, 1) by kernel_rfl)
  go_upto_region 14 with (first
    | (go_at_call 8; refine (c1 _).mono ?_; rintro e w2 ⟨rfl, hw2⟩; replace hB := stepB' hB hw2; replace hbx := hbx.below hw2; have q0 := hbx.cell 0; have q1 := hbx.cell 1)
    | (go_at_call 22; refine (c2 _).mono ?_; rintro e w3 ⟨rfl, hw3⟩; replace hB := stepB' hB hw3; replace hbx := hbx.below hw3; have q0 := hbx.cell 0; have q1 := hbx.cell 1)
    | (go_at_call 63; refine (c3 _).mono ?_; rintro e w4 ⟨rfl, hw4⟩; replace hB := stepB' hB hw4; replace hbx := hbx.below hw4; have q0 := hbx.cell 0; have q1 := hbx.cell 1))
  have hB5 := hB.alloc hB.size (.cells #[.int .u8 x] 5)
  have hown : (w4.alloc (.cells #[.int .u8 x] 5)).ownsRow w.heap.size 5 1 (.slice (some ⟨w4.heap.size, 0, none⟩) 1 1) 1 [.int .u8 x] :=
    ⟨by simp, .inr ⟨w4.heap.size, 1, #[.int .u8 x], rfl, hB.size, by rw [heap_alloc_new], Nat.le_refl _, by decide, by simp, by simp⟩⟩
  have hB6 := (hB.alloc hB.size (.cells #[.int .u8 x] 5)).size
  have q5 := (hbx.alloc (.cells #[.int .u8 x] 5)).cell 1
  generalize w4.alloc (.cells #[.int .u8 x] 5) = W5 at hB5 hB6 hown q5 ⊢
  have hN : w.heap.size < w4.heap.size := by
    have z2 := hw2.size
    have z3 := hw3.size
    have z4 := hw4.size
    simp at z2
    omega
  have q6 : (W5.alloc (.cells #[.int .u8 lo] 5)).cell? ⟨w.heap.size, 1, none⟩ = some (.int .i64 n) :=
    (((Below.refl W5.heap.size W5).alloc (Nat.le_refl _) (.cells #[.int .u8 lo] 5)).cell (p := ⟨w.heap.size, 1, none⟩) (World.block_lt_of_cell? W5 _ q5)).trans q5
  clear q0 q1 hbx hB hw2 hw3 hw4 c1 c2 c3
  go_upto_region 16 with (at_builtin; refine wpList_append_own _ rfl _ _ 38 rfl w.heap.size 5 i0 (.int .u8 0) 1 1 Tryz.underlying38 hi hz0 hz1 hz2 rfl (by decide) _ _ _ rfl (hown.alloc _) ⟨W5.heap.size, 0, none⟩ 1 1 [.int .u8 lo] rfl rfl (cell_one_new _ _ _) (by simp [Value.oneCell']) (by decide) (by decide) (by simp; omega) ?_; intro v' w7 hown' hgrow _)
  have hB7 := (hB5.alloc hB6 _).grown hgrow (by simp; omega) (fun k hk => (hown.lt k hk).1)
  have q7 : w7.cell? ⟨w.heap.size, 1, none⟩ = some (.int .i64 n) := by
    rw [World.cell?_of_block (w := W5.alloc (.cells #[.int .u8 lo] 5)) (a := ⟨w.heap.size, 1, none⟩) (hgrow.block w.heap.size (by simp; omega) (fun e => by
      have e' : some w.heap.size = some w4.heap.size := e
      simp at e'
      omega))]
    exact q6
  have hB8 := hB7.size
  clear hgrow hown q5 q6 hB5 hB6
  go_wp2_with (at_builtin; refine wpList_append_own _ rfl _ _ 38 rfl w.heap.size 5 i0 (.int .u8 0) 1 1 Tryz.underlying38 hi hz0 hz1 hz2 rfl (by decide) _ _ _ rfl (hown'.alloc _) ⟨w7.heap.size, 0, none⟩ 1 1 [.int .u8 hi8] rfl rfl (cell_one_new _ _ _) (by simp [Value.oneCell']) (by decide) (by decide) (by simp; omega) ?_; intro v2 w9 hown2 hgrow2 _)
  have hB9 := (hB7.alloc hB8 _).grown hgrow2 (by simp; omega) (fun k hk => (hown'.lt k hk).1)
  go_ret2
  exact ⟨_, rfl, by simpa using hown2, hB9⟩
set_option maxHeartbeats 1600000 in
theorem rb_r (x n a r m : Int) (h0 : 0 ≤ x) (h1 : x < 256) (hf : fnd x = (r, m)) (hw : wrongI x n = 0) (hz : lenM m = 2) (h12 : m = 12) (_n0 : 0 ≤ n) (_n1 : n < 65536) (nr : -128 ≤ n - (a + 2) ∧ n - (a + 2) < 128) (a0 : 0 ≤ a) (a1 : a + 2 ≤ 65536) (w : World) :
    Calls Tryz.prog 35 #[.agg #[.int .i64 x, .int .i64 n], .int .i64 a] w fun e w' => ∃ v, e = .returned (.tuple #[v, .int .i64 0]) ∧ w'.ownsRow w.heap.size 5 1 v 2 [.int .u8 x, .int .u8 ((n - (a + 2)) % 256)] ∧ Below w.heap.size w w' := by
  have c1 := fun W => wrong_calls x n h0 h1 W
  have c2 := fun W => find_calls x W
  have c3 := fun W => rlen_calls m W
  rw [hw] at c1
  rw [hf] at c2
  rw [hz] at c3
  have hB := (Below.refl w.heap.size w).alloc (Nat.le_refl _) (.cells #[.int .i64 x, .int .i64 n] 30)
  have hbx : boxAt (w.alloc (.cells #[.int .i64 x, .int .i64 n] 30)) w.heap.size [.int .i64 x, .int .i64 n] 30 := by
    unfold boxAt; rw [heap_alloc_new]
  have d1 : decide (a < 0) = false := decide_eq_false (by omega)
  have d2 : decide (a > 65535) = false := decide_eq_false (by omega)
  have d3 : (m == 12) = true := beq_iff_eq.2 h12
  have w1 : wrap64 (a + 2) = a + 2 := by unfold wrap64; omega
  have d4 : decide (a + 2 > 65536) = false := decide_eq_false (by omega)
  have x8 : x % 256 = x := by omega
  have w2 : wrap64 (n - a) = n - a := by unfold wrap64; omega
  have w3 : wrap64 (n - a - 2) = n - a - 2 := by unfold wrap64; omega
  have w4 : wrap64 (n - a - 2 + 256) = n - a - 2 + 256 := by unfold wrap64; omega
  have d5 : decide (n - a - 2 < -128) = false := decide_eq_false (by omega)
  have d6 : decide (n - a - 2 > 127) = false := decide_eq_false (by omega)
  have n8 : (n - (a + 2)) % 256 % 256 = (n - (a + 2)) % 256 := by omega
  have n9 : (n - a - 2 + 256).tmod 256 = (n - (a + 2)) % 256 := by rw [Int.tmod_eq_emod_of_nonneg (by omega)]; omega
  generalize (n - (a + 2)) % 256 = y at n8 n9 ⊢
  clear nr _n0 _n1 h0 h1 hf hw hz h12 a0 a1
  go_enter Tryz.func35, Tryz.ntmps35
  obtain ⟨i0, hi, hz0, hz1, hz2⟩ := info_parts (show (Tryz.prog.info? 5).map (fun i => (i.zero, i.size, i.bytes)) = some (some (.int .u8 0), 1, 1) by kernel_rfl)
  go_upto_region 10 with (first
    | (go_at_call 8; refine (c1 _).mono ?_; rintro e w2 ⟨rfl, hw2⟩; replace hB := stepB' hB hw2; replace hbx := hbx.below hw2; have q0 := hbx.cell 0; have q1 := hbx.cell 1)
    | (go_at_call 22; refine (c2 _).mono ?_; rintro e w3 ⟨rfl, hw3⟩; replace hB := stepB' hB hw3; replace hbx := hbx.below hw3; have q0 := hbx.cell 0; have q1 := hbx.cell 1)
    | (go_at_call 63; refine (c3 _).mono ?_; rintro e w4 ⟨rfl, hw4⟩; replace hB := stepB' hB hw4; replace hbx := hbx.below hw4; have q0 := hbx.cell 0; have q1 := hbx.cell 1))
  have hB5 := hB.alloc hB.size (.cells #[.int .u8 x] 5)
  have hown : (w4.alloc (.cells #[.int .u8 x] 5)).ownsRow w.heap.size 5 1 (.slice (some ⟨w4.heap.size, 0, none⟩) 1 1) 1 [.int .u8 x] :=
    ⟨by simp, .inr ⟨w4.heap.size, 1, #[.int .u8 x], rfl, hB.size, by rw [heap_alloc_new], Nat.le_refl _, by decide, by simp, by simp⟩⟩
  have hB6 := (hB.alloc hB.size (.cells #[.int .u8 x] 5)).size
  have q5 := (hbx.alloc (.cells #[.int .u8 x] 5)).cell 1
  generalize w4.alloc (.cells #[.int .u8 x] 5) = W5 at hB5 hB6 hown q5 ⊢
  clear q0 q1 hbx hB hw2 hw3 hw4 c1 c2 c3
  go_wp2_with (at_builtin; refine wpList_append_own _ rfl _ _ 38 rfl w.heap.size 5 i0 (.int .u8 0) 1 1 Tryz.underlying38 hi hz0 hz1 hz2 rfl (by decide) _ _ _ rfl (hown.alloc _) ⟨W5.heap.size, 0, none⟩ 1 1 [.int .u8 y] rfl rfl (cell_one_new _ _ _) (by simp [Value.oneCell']) (by decide) (by decide) (by simp; omega) ?_; intro v' w7 hown' hgrow _)
  have hB7 := (hB5.alloc hB6 _).grown hgrow (by simp; omega) (fun k hk => (hown.lt k hk).1)
  go_ret2
  exact ⟨_, rfl, by simpa using hown', hB7⟩
set_option maxHeartbeats 1600000 in
theorem rb_x (x n a r m : Int) (h0 : 0 ≤ x) (h1 : x < 256) (hf : fnd x = (r, m)) (hw : wrongI x n = 0) (hz : lenM m = 2) (h12 : m = 12) (n0 : 0 ≤ n) (n1 : n < 65536) (nr : n - (a + 2) < -128 ∨ 128 ≤ n - (a + 2)) (a0 : 0 ≤ a) (a1 : a + 2 ≤ 65536) (w : World) :
    Calls Tryz.prog 35 #[.agg #[.int .i64 x, .int .i64 n], .int .i64 a] w fun e w' => e = .returned (.tuple #[.slice none 0 0, .int .i64 10]) ∧ Below w.heap.size w w' := by
  have c1 := fun W => wrong_calls x n h0 h1 W
  have c2 := fun W => find_calls x W
  have c3 := fun W => rlen_calls m W
  rw [hw] at c1
  rw [hf] at c2
  rw [hz] at c3
  have hB := (Below.refl w.heap.size w).alloc (Nat.le_refl _) (.cells #[.int .i64 x, .int .i64 n] 30)
  have hbx : boxAt (w.alloc (.cells #[.int .i64 x, .int .i64 n] 30)) w.heap.size [.int .i64 x, .int .i64 n] 30 := by
    unfold boxAt; rw [heap_alloc_new]
  have d1 : decide (a < 0) = false := decide_eq_false (by omega)
  have d2 : decide (a > 65535) = false := decide_eq_false (by omega)
  have d3 : (m == 12) = true := beq_iff_eq.2 h12
  have w1 : wrap64 (a + 2) = a + 2 := by unfold wrap64; omega
  have d4 : decide (a + 2 > 65536) = false := decide_eq_false (by omega)
  have x8 : x % 256 = x := by omega
  have w2 : wrap64 (n - a) = n - a := by unfold wrap64; omega
  have w3 : wrap64 (n - a - 2) = n - a - 2 := by unfold wrap64; omega
  by_cases nl : n - a - 2 < -128
  · have d5 : decide (n - a - 2 < -128) = true := decide_eq_true nl
    clear nl nr n0 n1 h0 h1 hf hw hz h12 a0 a1
    go_enter Tryz.func35, Tryz.ntmps35
    go_wp2_with (first
      | (go_at_call 8; refine (c1 _).mono ?_; rintro e w2 ⟨rfl, hw2⟩; replace hB := stepB' hB hw2; replace hbx := hbx.below hw2; have q0 := hbx.cell 0; have q1 := hbx.cell 1)
      | (go_at_call 22; refine (c2 _).mono ?_; rintro e w3 ⟨rfl, hw3⟩; replace hB := stepB' hB hw3; replace hbx := hbx.below hw3; have q0 := hbx.cell 0; have q1 := hbx.cell 1)
      | (go_at_call 63; refine (c3 _).mono ?_; rintro e w4 ⟨rfl, hw4⟩; replace hB := stepB' hB hw4; replace hbx := hbx.below hw4; have q0 := hbx.cell 0; have q5 := (hbx.alloc (.cells #[.int .u8 x] 5)).cell 1))
    go_ret2
    exact ⟨rfl, hB.alloc hB.size _⟩
  · have d5 : decide (n - a - 2 < -128) = false := decide_eq_false nl
    have d6 : decide (n - a - 2 > 127) = true := decide_eq_true (by omega)
    clear nl nr n0 n1 h0 h1 hf hw hz h12 a0 a1
    go_enter Tryz.func35, Tryz.ntmps35
    go_wp2_with (first
      | (go_at_call 8; refine (c1 _).mono ?_; rintro e w2 ⟨rfl, hw2⟩; replace hB := stepB' hB hw2; replace hbx := hbx.below hw2; have q0 := hbx.cell 0; have q1 := hbx.cell 1)
      | (go_at_call 22; refine (c2 _).mono ?_; rintro e w3 ⟨rfl, hw3⟩; replace hB := stepB' hB hw3; replace hbx := hbx.below hw3; have q0 := hbx.cell 0; have q1 := hbx.cell 1)
      | (go_at_call 63; refine (c3 _).mono ?_; rintro e w4 ⟨rfl, hw4⟩; replace hB := stepB' hB hw4; replace hbx := hbx.below hw4; have q0 := hbx.cell 0; have q5 := (hbx.alloc (.cells #[.int .u8 x] 5)).cell 1))
    go_ret2
    exact ⟨rfl, hB.alloc hB.size _⟩
end Go.Proofs.YtadkilofkpmpgaaGreatDoor
namespace Go.Proofs.YtadkilofkpmpgaaGreatDoor
open Go Go.RowKit
set_option maxRecDepth 100000
theorem rbyt_err (b : Nat) (n a e : Int) (h : b < 256) (he : bytE b n a = some e) (w : World) :
    Calls Tryz.prog 35 #[.agg #[.int .i64 (b : Int), .int .i64 n], .int .i64 a] w fun r w' => r = .returned (.tuple #[.slice none 0 0, .int .i64 e]) ∧ Below w.heap.size w w' := by
  have go : ∀ (er : Int) {q : Rk.Orc} {v : Value} {q' : Rk.Orc} {ob : Prop}, runRb (Int.ofNat b) n a er q = some (v, q', ob) → ob →
      Calls Tryz.prog 35 #[.agg #[.int .i64 (Int.ofNat b), .int .i64 n], .int .i64 a] w fun e w' => e = .returned v ∧ Below w.heap.size w w' :=
    fun er {q v q' ob} h ho => (Rk.fn_good mixed okf_ok (callB_good _ er) 1 _ _ _ _ _ _ _ h w (Rk.noKn_knows w) ho).2
  have hb0 : 0 ≤ Int.ofNat b := Int.natCast_nonneg b
  have hb1 : Int.ofNat b < 256 := by simp; omega
  rw [bytE_wrong] at he
  split at he
  · rename_i hw
    have pw : pW (Int.ofNat b) n 0 := ⟨⟨hb0, hb1, hw⟩, trivial⟩
    have ho : (opName (Int.ofNat b)).isEmpty = false := by
      unfold wrongI at hw
      split at hw
      · cases hw
      · rename_i h; simpa using h
    have hn : 0 ≤ n ∧ n < limM (opMode (Int.ofNat b)) := by
      unfold wrongI at hw
      rw [ho] at hw
      simp only [Bool.false_eq_true, if_false] at hw
      split at hw
      · cases hw
      · omega
    have hf := fnd_good (Int.ofNat b) hb0 hb1 ho
    have hm := mode_of (Int.ofNat b) hb0 hb1 ho
    split at he
    · rename_i ha
      cases he
      by_cases a0 : a < 0
      · exact go 0 (rb_a0 ..) ⟨decide_eq_true a0, pw⟩
      · by_cases a1 : 65535 < a
        · exact go 0 (rb_a1 ..) ⟨decide_eq_true a1, decide_eq_false a0, pw⟩
        · refine go 0 (rb_a2 ..) ⟨decide_eq_true ?_, decide_eq_false a1, decide_eq_false a0, pw⟩
          rw [hf.2.2.1, IntKind.wrap_i64]; omega
    · rename_i ha
      split at he
      · rename_i hr
        cases he
        have hlim : limM (opMode (Int.ofNat b)) = 65536 := by rw [hr.1]; decide
        have hz : lenM 12 = 2 := len_12
        exact rb_x (Int.ofNat b) n a _ 12 hb0 hb1 (Prod.ext rfl (by rw [hf.2.2.1]; exact hr.1)) hw hz rfl hn.1 (by omega) hr.2 (by omega) (by rw [hr.1, hz] at ha; omega) w
      · cases he
  · rename_i hw
    cases he
    unfold wrongI at hw
    by_cases ho : (opName (Int.ofNat b)).isEmpty = true
    · have e13 : wrongI (Int.ofNat b) n = 13 := by unfold wrongI; rw [if_pos ho]
      rw [e13]
      exact go 13 (rb_13 ..) ⟨⟨hb0, hb1, e13⟩, trivial⟩
    · have e10 : wrongI (Int.ofNat b) n = 10 := by
        unfold wrongI
        rw [if_neg ho] at hw ⊢
        split at hw
        · rename_i hn; rw [if_pos hn]
        · exact absurd rfl hw
      rw [e10]
      exact go 10 (rb_10 ..) ⟨⟨hb0, hb1, e10⟩, trivial⟩
theorem rbyt_ok (b : Nat) (n a : Int) (h : b < 256) (he : bytE b n a = none) (w : World) :
    Calls Tryz.prog 35 #[.agg #[.int .i64 (b : Int), .int .i64 n], .int .i64 a] w fun r w' => ∃ g cap, r = .returned (.tuple #[.slice (some ⟨g, 0, none⟩) (lenM (opMode (Int.ofNat b))).toNat cap, .int .i64 0]) ∧ CellsAt w' g 0 (bytI b n a) ∧ Below w.heap.size w w' := by
  have hg := good_len b n a h he
  have hb0 : 0 ≤ Int.ofNat b := Int.natCast_nonneg b
  have hb1 : Int.ofNat b < 256 := by simp; omega
  have hL := bytI_len b n a h he
  have fin : ∀ (xs : List Int), bytI b n a = xs → Calls Tryz.prog 35 #[.agg #[.int .i64 (Int.ofNat b), .int .i64 n], .int .i64 a] w (fun e w' => ∃ v, e = .returned (.tuple #[v, .int .i64 0]) ∧ w'.ownsRow w.heap.size 5 1 v xs.length (xs.map (Value.int .u8)) ∧ Below w.heap.size w w') →
      Calls Tryz.prog 35 #[.agg #[.int .i64 (b : Int), .int .i64 n], .int .i64 a] w fun r w' => ∃ g cap, r = .returned (.tuple #[.slice (some ⟨g, 0, none⟩) (lenM (opMode (Int.ofNat b))).toNat cap, .int .i64 0]) ∧ CellsAt w' g 0 (bytI b n a) ∧ Below w.heap.size w w' := by
    intro xs hxs hc
    refine hc.mono fun r w' ⟨v, hr, hown, hB⟩ => ?_
    have hl : xs.length = (lenM (opMode (Int.ofNat b))).toNat := by rw [← hxs]; exact hL
    obtain ⟨g, cap, rfl, hcl⟩ := row_cells hown (by omega)
    refine ⟨g, cap, by rw [← hl]; exact hr, fun j x hj => hcl j _ ?_, hB⟩
    rw [List.getElem?_map, ← hxs, hj]
    rfl
  have hf := fnd_good (Int.ofNat b) hb0 hb1 hg.1
  rw [bytE_wrong] at he
  split at he
  · rename_i hw
    split at he
    · cases he
    · rename_i ha
      split at he
      · cases he
      · rename_i hr
        have hn : 0 ≤ n ∧ n < limM (opMode (Int.ofNat b)) := by
          unfold wrongI at hw
          rw [hg.1] at hw
          simp only [Bool.false_eq_true, if_false] at hw
          split at hw
          · cases hw
          · omega
        have hlim : (lenM (opMode (Int.ofNat b)) = 2 ∧ limM (opMode (Int.ofNat b)) = 256) ∨ lenM (opMode (Int.ofNat b)) ≠ 2 ∨ opMode (Int.ofNat b) = 12 := by
          have hall : (good.all fun b => decide ((lenM (opMode (Int.ofNat b)) = 2 ∧ limM (opMode (Int.ofNat b)) = 256) ∨ lenM (opMode (Int.ofNat b)) ≠ 2 ∨ opMode (Int.ofNat b) = 12)) = true := by decide +kernel
          exact of_decide_eq_true (List.all_eq_true.1 hall b (mem_good b h hg.1))
        have hlim2 : limM (opMode (Int.ofNat b)) ≤ 65536 := by
          have hall : (good.all fun b => decide (limM (opMode (Int.ofNat b)) ≤ 65536)) = true := by decide +kernel
          exact of_decide_eq_true (List.all_eq_true.1 hall b (mem_good b h hg.1))
        by_cases h12 : opMode (Int.ofNat b) = 12
        · have hz : lenM 12 = 2 := len_12
          rw [h12, hz] at ha
          refine fin [(b : Int), (n - (a + 2)) % 256] ?_ (rb_r (Int.ofNat b) n a _ 12 hb0 hb1 (Prod.ext rfl (by rw [hf.2.2.1]; exact h12)) hw hz rfl hn.1 (by omega) (by omega) (by omega) (by omega) w)
          unfold bytI
          rw [if_pos h12]
          simp [outI, List.range_succ]
        · have hfe : fnd (Int.ofNat b) = ((fnd (Int.ofNat b)).1, opMode (Int.ofNat b)) := Prod.ext rfl hf.2.2.1
          have hz3 : lenM (opMode (Int.ofNat b)) = 1 ∨ lenM (opMode (Int.ofNat b)) = 2 ∨ lenM (opMode (Int.ofNat b)) = 3 := by omega
          rcases hz3 with hz | hz | hz
          · refine fin [(b : Int)] ?_ (rb_1 (Int.ofNat b) n a _ _ hb0 hb1 hfe hw hz h12 (by omega) (by omega) w)
            unfold bytI
            rw [if_neg h12, hz]
            rfl
          · refine fin [(b : Int), n] ?_ (rb_2 (Int.ofNat b) n a _ _ hb0 hb1 hfe hw hz h12 hn.1 (by omega) (by omega) (by omega) w)
            unfold bytI
            rw [if_neg h12, hz]
            have e1 : n % 256 = n := by omega
            simp [outI, List.range_succ, e1]
          · refine fin [(b : Int), n % 256, n / 256] ?_ (rb_3 (Int.ofNat b) n a _ _ hb0 hb1 hfe hw hz h12 hn.1 (by omega) (by omega) (by omega) w)
            unfold bytI
            rw [if_neg h12, hz]
            have e1 : n / 256 % 256 = n / 256 := by omega
            simp [outI, List.range_succ, e1]
  · cases he
end Go.Proofs.YtadkilofkpmpgaaGreatDoor
namespace Go.Proofs.YtadkilofkpmpgaaGreatDoor
open Go Go.RowKit
set_option maxRecDepth 100000
/-- The bytes, none where something is wrong; and what is wrong. -/
def bytX (b n a : Int) : List Int := match bytE b.toNat n a with
  | some _ => []
  | none => bytI b.toNat n a
def bytEr (b n a : Int) : Int := match bytE b.toNat n a with
  | some e => e
  | none => 0
theorem byt_any (b n a : Int) (h0 : 0 ≤ b) (h1 : b < 256) (w : World) (hk : Rk.Knows kn5 w) :
    Calls Tryz.prog 17 #[.agg #[.int .u8 b, .int .i64 n], .int .i64 a] w fun r w' => ∃ p cap, r = .returned (.tuple #[.slice p (bytX b n a).length cap, .int .i64 (bytEr b n a)]) ∧ SlAt w' p (bytX b n a) ∧ Below w.heap.size w w' := by
  obtain ⟨k, rfl⟩ := Int.eq_ofNat_of_zero_le h0
  have hk256 : k < 256 := by omega
  unfold bytX bytEr
  rw [Int.toNat_natCast]
  cases he : bytE k n a with
  | some e => exact (byt_errL k n a e hk256 he w hk).mono fun r w' ⟨hr, hB⟩ => ⟨none, 0, hr, SlAt.nil, hB⟩
  | none => exact (byt_okC k n a hk256 he w hk).mono fun r w' ⟨g, cap, hr, hc, hB⟩ => ⟨some ⟨g, 0, none⟩, cap, by rw [bytI_len k n a hk256 he]; exact hr, SlAt.of_cells hc, hB⟩
theorem rbyt_any (b n a : Int) (h0 : 0 ≤ b) (h1 : b < 256) (w : World) :
    Calls Tryz.prog 35 #[.agg #[.int .i64 b, .int .i64 n], .int .i64 a] w fun r w' => ∃ p cap, r = .returned (.tuple #[.slice p (bytX b n a).length cap, .int .i64 (bytEr b n a)]) ∧ SlAt w' p (bytX b n a) ∧ Below w.heap.size w w' := by
  obtain ⟨k, rfl⟩ := Int.eq_ofNat_of_zero_le h0
  have hk256 : k < 256 := by omega
  unfold bytX bytEr
  rw [Int.toNat_natCast]
  cases he : bytE k n a with
  | some e => exact (rbyt_err k n a e hk256 he w).mono fun r w' ⟨hr, hB⟩ => ⟨none, 0, hr, SlAt.nil, hB⟩
  | none => exact (rbyt_ok k n a hk256 he w).mono fun r w' ⟨g, cap, hr, hc, hB⟩ => ⟨some ⟨g, 0, none⟩, cap, by rw [bytI_len k n a hk256 he]; exact hr, SlAt.of_cells hc, hB⟩
theorem bytX_len (b n a : Int) (h0 : 0 ≤ b) (h1 : b < 256) : (bytX b n a).length ≤ 3 := by
  obtain ⟨k, rfl⟩ := Int.eq_ofNat_of_zero_le h0
  have hk256 : k < 256 := by omega
  unfold bytX
  rw [Int.toNat_natCast]
  cases he : bytE k n a with
  | some e => simp
  | none =>
    have := good_len k n a hk256 he
    show (bytI k n a).length ≤ 3
    rw [bytI_len k n a hk256 he]; omega
end Go.Proofs.YtadkilofkpmpgaaGreatDoor
namespace Go.Proofs.YtadkilofkpmpgaaGreatDoor
open Go Go.RowKit
set_option maxRecDepth 100000
/-- A text's lines. -/
def linesL : List UInt8 → List (List UInt8)
  | [] => [[]]
  | c :: l => if c = 10 then [] :: linesL l else match linesL l with
    | [] => [[c]]
    | p :: ps => (c :: p) :: ps
theorem linesL_none : ∀ l : List UInt8, (∀ x ∈ l, x ≠ 10) → linesL l = [l]
  | [], _ => rfl
  | c :: l, h => by
    rw [linesL, if_neg (h c (List.mem_cons_self ..)), linesL_none l (fun x hx => h x (List.mem_cons_of_mem _ hx))]
theorem splitK_lines : ∀ (l : List UInt8) (k : Nat), l.count 10 ≤ k → Lib.splitK [10] 0 k l = linesL l
  | [], 0, _ => rfl
  | [], k + 1, _ => rfl
  | c :: l, 0, h => by
    have hn : ∀ x ∈ c :: l, x ≠ 10 := fun x hx e => by
      subst e
      have := List.count_pos_iff.2 hx
      omega
    rw [linesL_none _ hn]
    rfl
  | c :: l, k + 1, h => by
    by_cases hc : c = 10
    · subst hc
      rw [linesL, if_pos rfl]
      have hi : Lib.index (10 :: l) [10] = 0 := by
        rw [Lib.index, if_pos (by simp [List.isPrefixOf])]
      have ih := splitK_lines l k (by rw [List.count_cons_self] at h; omega)
      rw [Lib.splitK, hi, if_neg (by decide)]
      show [] :: Lib.splitK [10] 0 k ((10 :: l).drop 1) = _
      rw [List.drop_one, List.tail_cons, ih]
    · have ih := splitK_lines l (k + 1) (by rw [List.count_cons_of_ne hc] at h; omega)
      have hi : Lib.index (c :: l) [10] = if Lib.index l [10] == -1 then -1 else Lib.index l [10] + 1 := by
        rw [Lib.index, if_neg]
        simp [List.isPrefixOf]
        exact fun e => hc e.symm
      rw [linesL, if_neg hc, ← ih]
      rw [Lib.splitK, Lib.splitK, hi]
      have hge := Lib.index_ge l [10]
      by_cases hm : Lib.index l [10] = -1
      · rw [hm]
        rfl
      · have b1 : (Lib.index l [10] == -1) = false := beq_eq_false_iff_ne.2 hm
        have b2 : (Lib.index l [10] + 1 == -1) = false := beq_eq_false_iff_ne.2 (by omega)
        rw [b1]
        simp only [Bool.false_eq_true, if_false]
        rw [b2]
        simp only [Bool.false_eq_true, if_false]
        obtain ⟨i, hi2⟩ := Int.eq_ofNat_of_zero_le (show 0 ≤ Lib.index l [10] by omega)
        rw [hi2, show ((i : Int) + 1).toNat = i + 1 by omega, Int.toNat_natCast]
        simp only [Nat.add_zero, List.take_succ_cons, List.length_cons, List.length_nil, Nat.zero_add, List.drop_succ_cons]
/-- The pieces that strings.Split hands back. -/
theorem split_lines (s : ByteArray) : (Lib.splitB ⟨#[10]⟩ 0 (Lib.countB s ⟨#[10]⟩) s).map (·.data.toList) = linesL s.data.toList := by
  rw [Lib.splitB_data]
  refine splitK_lines _ _ ?_
  show _ ≤ Lib.count s.data.toList [10]
  rw [Lib.count_one]
  exact Nat.le_refl _
end Go.Proofs.YtadkilofkpmpgaaGreatDoor
namespace Go.Proofs.YtadkilofkpmpgaaGreatDoor
open Go Go.RowKit
set_option maxRecDepth 100000
/-- What 'Assemble' answers: the bytes, the line that is wrong, what is wrong. -/
def asmW (a : Int) : List (List UInt8) → Nat → List Int → List Int × Int × Int
  | [], _, out => (out, 0, 0)
  | l :: ls, i, out =>
    if l = [] then asmW a ls (i + 1) out
    else if (parseW l).2.2 ≠ 0 then ([], (i : Int) + 1, (parseW l).2.2)
    else if bytEr (parseW l).1 (parseW l).2.1 (wrap64 (a + out.length)) ≠ 0 then ([], (i : Int) + 1, bytEr (parseW l).1 (parseW l).2.1 (wrap64 (a + out.length)))
    else asmW a ls (i + 1) (out ++ bytX (parseW l).1 (parseW l).2.1 (wrap64 (a + out.length)))
theorem own_belowW {w w' : World} {base : Nat} {e : TypeId} {size : Nat} {v : Value} {n : Nat} {xs : List Value} (h : w.ownsRow base e size v n xs) (hb : Below w.heap.size w w') : w'.ownsRow base e size v n xs :=
  h.kept (row := none) ⟨hb.os, hb.tape, hb.output, hb.size, fun k hk _ => hb.block k hk⟩ (by cases v.ownBlock <;> simp)
theorem bytR_bad (b n a : Int) (h0 : 0 ≤ b) (h1 : b < 256) (hr : bytEr b n a ≠ 0) (w : World) (hk : Rk.Knows kn5 w) :
    Calls Tryz.prog 17 #[.agg #[.int .u8 b, .int .i64 n], .int .i64 a] w fun r w' => r = .returned (.tuple #[.slice none 0 0, .int .i64 (bytEr b n a)]) ∧ Below w.heap.size w w' := by
  obtain ⟨k, rfl⟩ := Int.eq_ofNat_of_zero_le h0
  have hk256 : k < 256 := by omega
  unfold bytEr at hr ⊢
  rw [Int.toNat_natCast] at hr ⊢
  cases he : bytE k n a with
  | some e => exact byt_errL k n a e hk256 he w hk
  | none => rw [he] at hr; exact absurd rfl hr
theorem rbytR_bad (b n a : Int) (h0 : 0 ≤ b) (h1 : b < 256) (hr : bytEr b n a ≠ 0) (w : World) :
    Calls Tryz.prog 35 #[.agg #[.int .i64 b, .int .i64 n], .int .i64 a] w fun r w' => r = .returned (.tuple #[.slice none 0 0, .int .i64 (bytEr b n a)]) ∧ Below w.heap.size w w' := by
  obtain ⟨k, rfl⟩ := Int.eq_ofNat_of_zero_le h0
  have hk256 : k < 256 := by omega
  unfold bytEr at hr ⊢
  rw [Int.toNat_natCast] at hr ⊢
  cases he : bytE k n a with
  | some e => exact rbyt_err k n a e hk256 he w
  | none => rw [he] at hr; exact absurd rfl hr
theorem bytE_ne0 (b : Nat) (n a e : Int) (he : bytE b n a = some e) : e ≠ 0 := by
  unfold bytE at he
  intro h
  subst h
  split at he
  · simp at he
  · split at he
    · simp at he
    · split at he
      · simp at he
      · split at he <;> simp at he
theorem byt_none (k : Nat) (n a : Int) (hr : bytEr (k : Int) n a = 0) : bytE k n a = none := by
  unfold bytEr at hr
  rw [Int.toNat_natCast] at hr
  cases he : bytE k n a with
  | none => rfl
  | some e =>
    rw [he] at hr
    exact absurd hr (bytE_ne0 k n a e he)
theorem news_of {w : World} {g : Nat} {X : List Int} (h : CellsAt w g 0 X) : ∀ j u, (X.map (Value.int .u8))[j]? = some u → w.cell? ((⟨g, 0, none⟩ : Addr).add j) = some u := fun j u hu => by
  obtain ⟨x, hx, rfl⟩ := List.mem_map.1 (List.mem_of_getElem? hu)
  rw [List.getElem?_map] at hu
  cases hj : X[j]? with
  | none => rw [hj] at hu; cases hu
  | some y =>
    rw [hj] at hu
    rw [Addr.add_lit, h j y hj]
    exact hu
theorem bytR_good (b n a : Int) (h0 : 0 ≤ b) (h1 : b < 256) (hr : bytEr b n a = 0) (w : World) (hk : Rk.Knows kn5 w) :
    Calls Tryz.prog 17 #[.agg #[.int .u8 b, .int .i64 n], .int .i64 a] w fun r w' => ∃ g cap, r = .returned (.tuple #[.slice (some ⟨g, 0, none⟩) (bytX b n a).length cap, .int .i64 0]) ∧ CellsAt w' g 0 (bytX b n a) ∧ Below w.heap.size w w' := by
  obtain ⟨k, rfl⟩ := Int.eq_ofNat_of_zero_le h0
  have hk256 : k < 256 := by omega
  have he := byt_none k n a hr
  unfold bytX
  rw [Int.toNat_natCast, he]
  exact (byt_okC k n a hk256 he w hk).mono fun r w' ⟨g, cap, hr, hc, hB⟩ => ⟨g, cap, by rw [bytI_len k n a hk256 he]; exact hr, hc, hB⟩
theorem rbytR_good (b n a : Int) (h0 : 0 ≤ b) (h1 : b < 256) (hr : bytEr b n a = 0) (w : World) :
    Calls Tryz.prog 35 #[.agg #[.int .i64 b, .int .i64 n], .int .i64 a] w fun r w' => ∃ g cap, r = .returned (.tuple #[.slice (some ⟨g, 0, none⟩) (bytX b n a).length cap, .int .i64 0]) ∧ CellsAt w' g 0 (bytX b n a) ∧ Below w.heap.size w w' := by
  obtain ⟨k, rfl⟩ := Int.eq_ofNat_of_zero_le h0
  have hk256 : k < 256 := by omega
  have he := byt_none k n a hr
  unfold bytX
  rw [Int.toNat_natCast, he]
  exact (rbyt_ok k n a hk256 he w).mono fun r w' ⟨g, cap, hr, hc, hB⟩ => ⟨g, cap, by rw [bytI_len k n a hk256 he]; exact hr, hc, hB⟩
/-- What is gathered, as a slice. -/
theorem slAt_own {w : World} {base n : Nat} {v : Value} {xs : List Int} (h : w.ownsRow base 5 1 v n (xs.map (Value.int .u8))) : ∃ p cap, v = .slice p xs.length cap ∧ xs.length ≤ cap ∧ cap ≤ maxLen ∧ SlAt w p xs := by
  have hl : xs.length = n := by have := h.1; simpa using this
  subst hl
  rcases h.2 with ⟨rfl, h0⟩ | ⟨g, cap, cur, rfl, _, hg, hc, hm, _, _⟩
  · have : xs = [] := List.eq_nil_of_length_eq_zero h0
    subst this
    exact ⟨none, 0, rfl, Nat.le_refl _, by decide, SlAt.nil⟩
  · refine ⟨_, cap, rfl, hc, hm, fun j x hj => ⟨g, 0, rfl, ?_⟩⟩
    have := h.cells (g := g) rfl j (.int .u8 x) (by rw [List.getElem?_map, hj]; rfl)
    rwa [Addr.add_lit] at this
end Go.Proofs.YtadkilofkpmpgaaGreatDoor
namespace Go.Proofs.YtadkilofkpmpgaaGreatDoor
open Go Go.RowKit
set_option maxRecDepth 100000
theorem linesL_le : ∀ (s l : List UInt8), l ∈ linesL s → l.length ≤ s.length
  | [], l, h => by
    rw [linesL] at h
    obtain rfl := List.mem_singleton.1 h
    exact Nat.le_refl _
  | c :: s, l, h => by
    rw [linesL] at h
    split at h
    · rcases List.mem_cons.1 h with rfl | h
      · exact Nat.zero_le _
      · exact Nat.le_succ_of_le (linesL_le s l h)
    · split at h
      · obtain rfl := List.mem_singleton.1 h
        simp
      · rename_i p ps hp
        rcases List.mem_cons.1 h with rfl | h
        · have := linesL_le s p (by rw [hp]; exact List.mem_cons_self ..)
          simp; omega
        · have := linesL_le s l (by rw [hp]; exact List.mem_cons_of_mem _ h)
          simp; omega
theorem asmW_step (a : Int) (ps : List ByteArray) (i : Nat) (out : List Int) (h : i < ps.length) :
    asmW a ((ps.map (·.data.toList)).drop i) i out =
      if (ps[i]'h).data.toList = [] then asmW a ((ps.map (·.data.toList)).drop (i + 1)) (i + 1) out
      else if (parseW (ps[i]'h).data.toList).2.2 ≠ 0 then ([], (i : Int) + 1, (parseW (ps[i]'h).data.toList).2.2)
      else if bytEr (parseW (ps[i]'h).data.toList).1 (parseW (ps[i]'h).data.toList).2.1 (wrap64 (a + out.length)) ≠ 0 then ([], (i : Int) + 1, bytEr (parseW (ps[i]'h).data.toList).1 (parseW (ps[i]'h).data.toList).2.1 (wrap64 (a + out.length)))
      else asmW a ((ps.map (·.data.toList)).drop (i + 1)) (i + 1) (out ++ bytX (parseW (ps[i]'h).data.toList).1 (parseW (ps[i]'h).data.toList).2.1 (wrap64 (a + out.length))) := by
  rw [List.drop_eq_getElem_cons (by simpa using h), asmW, List.getElem_map]
theorem info5 : (Tryz.prog.info? 5).map (fun i => (i.zero, i.size, i.bytes)) = some (some (.int .u8 0), 1, 1) := by kernel_rfl
/-- The answer of 'Assemble'. -/
abbrev AsmOut (R : List Int × Int × Int) (w : World) (e : Ending) (w' : World) : Prop := ∃ p cap, e = .returned (.tuple #[.slice p R.1.length cap, .int .i64 R.2.1, .int .i64 R.2.2]) ∧ R.1.length ≤ cap ∧ SlAt w' p R.1 ∧ Below w.heap.size w w'
set_option maxHeartbeats 3200000 in
theorem asm_gen (s : ByteArray) (hs : s.size ≤ 65536) (a m : Int) (w : World) (hk : Rk.Knows kn5 w) (hev : ErrV w) (hm : w.cell? ⟨3, 0, none⟩ = some (.int .i64 m)) :
    Calls Tryz.prog 13 #[.string s, .int .i64 a] w fun e w' => AsmOut (asmW a (linesL s.data.toList) 0 []) w e w' := by
  have c4 := split_calls s ⟨#[10]⟩ m w (by omega) hm (by decide)
  have hlen := Lib.splitB_all ⟨#[10]⟩ (by decide) 0 (Lib.countB s ⟨#[10]⟩) s rfl
  have hcle := Lib.countB_le ⟨#[10]⟩ (by decide) s.size s (Nat.le_refl _)
  have hsp := split_lines s
  have hpz : ∀ p ∈ Lib.splitB ⟨#[10]⟩ 0 (Lib.countB s ⟨#[10]⟩) s, p.size ≤ 65536 := fun p hp => by
    have := linesL_le s.data.toList p.data.toList (by rw [← hsp]; exact List.mem_map.2 ⟨p, hp, rfl⟩)
    have e1 : p.data.toList.length = p.size := by rw [Array.length_toList]; rfl
    have e2 : s.data.toList.length = s.size := by rw [Array.length_toList]; rfl
    omega
  rw [← hsp]
  generalize Lib.splitB ⟨#[10]⟩ 0 (Lib.countB s ⟨#[10]⟩) s = ps at hlen hpz c4 ⊢
  rw [← hlen] at c4
  obtain ⟨i0, hi5, hz0, hz1, hz2⟩ := info_parts info5
  have hN : ps.length ≤ 65537 := by omega
  have HC : Hid (∀ W, Below w.heap.size w W → Rk.Knows kn5 W ∧ ErrV W) := fun W hW => ⟨hk.below hW, hev.below hW⟩
  have HZ : Hid (∀ p ∈ ps, p.size ≤ 65536) := hpz
  have d1 : decide ((s.size : Int) > 65536) = false := decide_eq_false (by omega)
  clear hlen hcle hsp hpz hk hev hm hs
  have c5 : Calls Tryz.prog 33 #[.string s, .string ⟨#[10]⟩] w fun e w2 => e = .returned (.slice (some ⟨w.heap.size, 0, none⟩) ps.length ps.length) ∧ Hid (Below w.heap.size w w2 ∧ w.heap.size ≤ w2.heap.size ∧ ∀ i (h : i < ps.length), ∀ W, Below w2.heap.size w2 W → W.cell? ⟨w.heap.size, i, none⟩ = some (.string (ps[i]'h))) :=
    c4.mono fun e w2 ⟨he, hw⟩ => ⟨he, by
      subst hw
      refine ⟨(Below.refl w.heap.size w).alloc (Nat.le_refl _) _, by simp, fun i h W hW => ?_⟩
      rw [hW.cell (p := ⟨w.heap.size, i, none⟩) (by simp), cell_of_row _ w.heap.size i _ _ (0, 0) (heap_alloc_new w _)]
      simp [h]⟩
  clear c4
  go_enter Tryz.func13, Tryz.ntmps13
  go_wp2_with (go_at_call 33; refine c5.mono ?_; rintro e w2 ⟨rfl, hw2⟩)
  clear c5
  have hB2 := hw2.out.1
  go_loopw [7, 19] (fun v7 v19 wr => ∃ (i : Nat) (out : List Int), i ≤ ps.length ∧ v19 = .int .i64 i ∧ out.length ≤ 3 * i ∧ Hid (asmW a ((ps.map (·.data.toList)).drop i) i out = asmW a (ps.map (·.data.toList)) 0 []) ∧ wr.ownsRow w2.heap.size 5 1 v7 out.length (out.map (Value.int .u8)) ∧ Below w2.heap.size w2 wr) (fun _ v19 _ => ps.length - (intOf v19).toNat)
  case atStart => exact ⟨0, [], Nat.zero_le _, rfl, Nat.le_refl _, rfl, World.ownsRow_nil _ _ _ _, Below.refl _ _⟩
  case round =>
    obtain ⟨i, out, hi, rfl, hol, HL, hown, hB⟩ := hrel
    by_cases hie : i < ps.length
    · have hst := asmW_step a ps i out hie
      have hc := hw2.out.2.2 i hie _ hB
      have hz := HZ.out _ (List.getElem_mem hie)
      have d2 : decide ((i : Int) < ps.length) = true := decide_eq_true (by omega)
      generalize ps[i]'hie = t at hst hc hz
      have hiz : wrap64 ((i : Int) + 1) = ((i + 1 : Nat) : Int) := by unfold wrap64; omega
      have hst2 : Hid _ := hst
      clear hst
      by_cases ht : t = ⟨#[]⟩
      · subst ht
        have hR := hst2.out
        rw [if_pos rfl] at hR
        have HL2 : Hid _ := hR.symm.trans HL.out
        clear hR HL hst2 HC HZ
        go_wp2
        exact ⟨⟨i + 1, out, by omega, by push_cast; rfl, by omega, HL2, hown, hB⟩, by simp only [intOf]; omega⟩
      · have htl : t.data.toList ≠ [] := fun h => ht (by
          obtain ⟨⟨l⟩⟩ := t
          simp at h
          subst h
          rfl)
        have e1 : t.toList.isEmpty = false := (decide_eq_emptyBytes t).symm.trans (decide_eq_false ht)
        obtain ⟨p7, cap7, rfl, hcap7, _, _⟩ := slAt_own hown
        have hR := hst2.out
        rw [if_neg htl] at hR
        have cP := fun W (hW : Below w.heap.size w W) => parse_calls t hz W (HC.out W hW).1 (HC.out W hW).2
        have hop := parseW_op t.data.toList
        generalize parseW t.data.toList = R at cP hop hR
        obtain ⟨o, n, er⟩ := R
        simp only at hop hR
        have HR : Hid _ := hR
        clear hR hst2 htl HZ
        by_cases her : er = 0
        · subst her
          have hR := HR.out
          rw [if_neg (fun h => h rfl)] at hR
          by_cases heb : bytEr o n (wrap64 (a + out.length)) = 0
          · have cB := fun W (hW : Below w.heap.size w W) => bytR_good o n (wrap64 (a + out.length)) hop.1 hop.2 heb W (HC.out W hW).1
            have hx3 := bytX_len o n (wrap64 (a + out.length)) hop.1 hop.2
            rw [if_neg (fun h => h heb)] at hR
            generalize bytX o n (wrap64 (a + out.length)) = X at cB hx3 hR
            have HL2 : Hid _ := hR.symm.trans HL.out
            clear hR HR HL hop HC heb
            have hBw := stepB' hB2 hB
            clear hB2
            go_wp2_with (first
              | (go_at_call 11; refine (cP _ hBw).mono ?_; rintro e w3 ⟨rfl, hw3⟩; replace hBw := stepB' hBw hw3; replace hB := stepB' hB hw3; replace hown := own_belowW hown hw3; replace hBw := hBw.alloc hBw.size (.cells #[.int .u8 o, .int .i64 n] 23); replace hB := hB.alloc hB.size (.cells #[.int .u8 o, .int .i64 n] 23); replace hown := hown.alloc (.cells #[.int .u8 o, .int .i64 n] 23))
              | (go_at_call 17; refine (cB _ hBw).mono ?_; rintro e w4 ⟨g, cap, rfl, hX, hw4⟩; replace hBw := stepB' hBw hw4; replace hB := stepB' hB hw4; replace hown := own_belowW hown hw4; have hnews := news_of hX; clear hX)
              | (at_builtin; refine wpList_append_own _ rfl _ _ 38 rfl w2.heap.size 5 i0 (.int .u8 0) 1 1 Tryz.underlying38 hi5 hz0 hz1 hz2 rfl (by decide) _ _ _ rfl hown ⟨g, 0, none⟩ X.length cap (X.map (Value.int .u8)) rfl (by simp) hnews (ints_oneCell .u8 X) (by unfold maxLen; omega) (by omega) hB.size ?_; intro v' w5 hown5 hgrow _))
            rw [← List.map_append, ← List.length_append] at hown5
            exact ⟨⟨i + 1, out ++ X, by omega, by push_cast; rfl, by rw [List.length_append]; omega, HL2, hown5, hB.grown hgrow hB.size (fun k hk => (hown.lt k hk).1)⟩, by simp only [intOf]; omega⟩
          · have cB := fun W (hW : Below w.heap.size w W) => bytR_bad o n (wrap64 (a + out.length)) hop.1 hop.2 heb W (HC.out W hW).1
            rw [if_pos heb] at hR
            have d4 : (bytEr o n (wrap64 (a + out.length)) != 0) = true := by simpa using heb
            generalize bytEr o n (wrap64 (a + out.length)) = eb at cB hR d4
            have HL2 : Hid _ := hR.symm.trans HL.out
            clear hR HR HL hop HC heb
            have hBw := stepB' hB2 hB
            clear hB2 hB hown
            go_wp2_with (first
              | (go_at_call 11; refine (cP _ hBw).mono ?_; rintro e w3 ⟨rfl, hw3⟩; replace hBw := stepB' hBw hw3; replace hBw := hBw.alloc hBw.size (.cells #[.int .u8 o, .int .i64 n] 23))
              | (go_at_call 17; refine (cB _ hBw).mono ?_; rintro e w4 ⟨rfl, hw4⟩; replace hBw := stepB' hBw hw4))
            refine bodyPost_ret (v := .tuple #[.slice none 0 0, .int .i64 ((i : Int) + 1), .int .i64 eb]) (by simp [results, Tryz.results13, go_sem]) rfl ?_
            rw [← HL2.out]
            exact ⟨none, 0, rfl, Nat.le_refl _, SlAt.nil, hBw⟩
        · have hR := HR.out
          rw [if_pos her] at hR
          have d4 : (er != 0) = true := by simpa using her
          have HL2 : Hid _ := hR.symm.trans HL.out
          clear hR HR HL hop HC
          have hBw := stepB' hB2 hB
          clear hB2 hB hown
          go_wp2_with (go_at_call 11; refine (cP _ hBw).mono ?_; rintro e w3 ⟨rfl, hw3⟩; replace hBw := stepB' hBw hw3; replace hBw := hBw.alloc hBw.size (.cells #[.int .u8 o, .int .i64 n] 23))
          refine bodyPost_ret (v := .tuple #[.slice none 0 0, .int .i64 ((i : Int) + 1), .int .i64 er]) (by simp [results, Tryz.results13, go_sem]) rfl ?_
          rw [← HL2.out]
          exact ⟨none, 0, rfl, Nat.le_refl _, SlAt.nil, hBw⟩
    · have hie2 : i = ps.length := by omega
      subst hie2
      have hR := HL.out
      rw [List.drop_of_length_le (by simp), asmW] at hR
      have HL2 : Hid _ := hR
      have d2 : decide ((ps.length : Int) < ps.length) = false := decide_eq_false (by omega)
      clear hR HL HC HZ
      have hBw := stepB' hB2 hB
      obtain ⟨p7, cap7, rfl, hcap7, hm7, hs7⟩ := slAt_own hown
      clear hB2 hB hown
      go_wp2
      refine bodyPost_ret (v := .tuple #[.slice p7 out.length cap7, .int .i64 0, .int .i64 0]) (by simp [results, Tryz.results13, go_sem]) rfl ?_
      rw [← HL2.out]
      exact ⟨p7, cap7, rfl, hcap7, hs7, hBw⟩
end Go.Proofs.YtadkilofkpmpgaaGreatDoor
namespace Go.Proofs.YtadkilofkpmpgaaGreatDoor
open Go Go.RowKit
set_option maxRecDepth 100000
theorem ownsRow_below {w w' : World} {base : Nat} {e : TypeId} {size : Nat} {v : Value} {n : Nat} {xs : List Value} (h : w.ownsRow base e size v n xs) (hb : Below w.heap.size w w') : w'.ownsRow base e size v n xs := by
  rcases h with ⟨h1, h2 | ⟨g, cap, cur, hv, hbg, hg, r⟩⟩
  · exact ⟨h1, .inl h2⟩
  · exact ⟨h1, .inr ⟨g, cap, cur, hv, hbg, (hb.block g (Array.getElem?_eq_some_iff.1 hg).1).trans hg, r⟩⟩
theorem BAt.below {B b : Nat} {bs : List Value} {w w' : World} (h : BAt B b bs w) (hb : Below w.heap.size w w') : BAt B b bs w' := by
  rcases h with ⟨h1, v, h2, h3, h4⟩ | ⟨h1, v, h2, h3, h4⟩
  · exact .inl ⟨h1, v, (hb.block b (Array.getElem?_eq_some_iff.1 h2).1).trans h2, ownsRow_below h3 hb, h4⟩
  · exact .inr ⟨h1, v, (hb.block b (Array.getElem?_eq_some_iff.1 h2).1).trans h2, ownsRow_below h3 hb, h4⟩
/-- The texts of bytes' lines, from a place on. -/
def lstA (xs : List Int) (a : Int) : Nat → Nat → List UInt8 → List UInt8 × Int × Int
  | 0, i, _ => ([], (i : Int), 99)
  | f + 1, i, acc => if i = xs.length then (acc, 0, 0) else
    if (readW (xs.drop i) (wrap64 (a + i))).2.2.2 = 0 then
      lstA xs a f (i + (readW (xs.drop i) (wrap64 (a + i))).2.2.1.toNat) (acc ++ (textL (readW (xs.drop i) (wrap64 (a + i))).1.toNat (readW (xs.drop i) (wrap64 (a + i))).2.1 ++ [10]))
    else ([], (i : Int), (readW (xs.drop i) (wrap64 (a + i))).2.2.2)
def lstR (xs : List Int) (a : Int) : List UInt8 × Int × Int := lstA xs a (xs.length + 1) 0 []
theorem cells_drop {W : World} {B o : Nat} {xs : List Int} (h : CellsAt W B o xs) (i : Nat) : CellsAt W B (o + i) (xs.drop i) := fun j x hj => by
  rw [List.getElem?_drop] at hj
  rw [Nat.add_assoc]
  exact h (i + j) x hj
end Go.Proofs.YtadkilofkpmpgaaGreatDoor
namespace Go.Proofs.YtadkilofkpmpgaaGreatDoor
open Go Go.RowKit
set_option maxRecDepth 100000
set_option maxHeartbeats 3200000 in
theorem list_gen (B o c : Nat) (p : Option Addr) (xs : List Int) (a : Int) (w : World) (hk : Rk.Knows kn5 w) (hx : CellsAt w B o xs) (hb : ∀ x ∈ xs, 0 ≤ x ∧ x < 256) (hL : xs.length ≤ 65536) (hc : xs.length ≤ c) (hpx : xs = [] ∨ p = some ⟨B, o, none⟩) :
    Calls Tryz.prog 16 #[.slice p xs.length c, .int .i64 a] w fun e w' => e = .returned (.tuple #[.string ⟨⟨(lstR xs a).1⟩⟩, .int .i64 (lstR xs a).2.1, .int .i64 (lstR xs a).2.2]) ∧ Below w.heap.size w w' := by
  have HR : Hid (∀ i, i ≤ xs.length → ∀ a' W, Below w.heap.size w W → Calls Tryz.prog 36 #[.slice (some ⟨B, o + i, none⟩) (xs.length - i) (c - i), .int .i64 a'] W fun e w' => e = .returned (rd4 (readW (xs.drop i) a')) ∧ Below W.heap.size W w') := fun i hi a' W hW => by
    have := read_some B (o + i) (c - i) (xs.drop i) a' W (cells_drop (hx.below hW) i) (fun x h => hb x (List.mem_of_mem_drop h))
    rw [List.length_drop] at this
    exact this
  have HB : Hid (∀ i, ∀ x ∈ xs.drop i, 0 ≤ x ∧ x < 256) := fun i x h => hb x (List.mem_of_mem_drop h)
  have HP : Hid (∀ p n, 0 ≤ p → p < 256 → (opName p).isEmpty = false → 0 ≤ n → n < limM (opMode p) → ∀ W, Below w.heap.size w W → Calls Tryz.prog 7 #[.agg #[.int .u8 p, .int .i64 n]] W fun e w' => e = .returned (.tuple #[.string ⟨⟨textL p.toNat n⟩⟩, .int .i64 0]) ∧ Below W.heap.size W w') := fun p n p0 p1 po n0 n1 W hW => print_inI p n p0 p1 po n0 n1 W (hk.below hW)
  have HT : Hid (∀ p, 0 ≤ p → p < 256 → (opName p).isEmpty = false → ∀ n, (textL p.toNat n).length ≤ 11) := fun p p0 p1 po n => textL_len p.toNat n (by omega) (by rw [show Int.ofNat p.toNat = p from Int.toNat_of_nonneg p0]; exact po)
  have hB := (Below.refl w.heap.size w).alloc (Nat.le_refl _) (.cells #[.pointer none, .slice none 0 0] 79)
  have hbd : BAt w.heap.size w.heap.size (Lib.byteCells []) (w.alloc (.cells #[.pointer none, .slice none 0 0] 79)) := Lib.fresh_isBuilder 79 5 w
  have HQ : Hid (xs = [] ∨ p = some ⟨B, o, none⟩) := hpx
  clear hpx hx hb hk
  have d1 : decide ((xs.length : Int) > 65536) = false := decide_eq_false (by omega)
  go_enter Tryz.func16, Tryz.ntmps16
  go_wp2
  go_step3
  go_wp2
  go_step3
  go_wp2
  go_loopw [8] (fun v8 wr => ∃ (i f : Nat) (acc : List UInt8), i ≤ xs.length ∧ xs.length + 1 ≤ f + i ∧ v8 = .int .i64 i ∧ acc.length ≤ 12 * i ∧ Hid (lstA xs a f i acc = lstR xs a) ∧ BAt w.heap.size w.heap.size (Lib.byteCells acc) wr ∧ Below w.heap.size w wr) (fun v8 _ => xs.length - (intOf v8).toNat)
  case atStart => exact ⟨0, xs.length + 1, [], by omega, by omega, rfl, by simp, rfl, hbd, hB⟩
  case round =>
    clear hbd hB
    obtain ⟨i, f, acc, hi, hf, rfl, hacc, HL, hbd, hB⟩ := hrel
    by_cases hie : i = xs.length
    · have d2 : ((i : Int) == (xs.length : Int)) = true := beq_iff_eq.2 (by omega)
      have hR : lstR xs a = (acc, 0, 0) := by
        obtain ⟨g, rfl⟩ : ∃ g, f = g + 1 := ⟨f - 1, by omega⟩
        rw [← HL.out, lstA, if_pos hie]
      have HR2 : Hid (lstR xs a = (acc, 0, 0)) := hR
      clear hR HL
      go_wp2_with (go_at_call 38; refine (bString _ _ _ _ hbd hB.size).mono ?_; rintro e w3 ⟨rfl, hw3⟩; replace hB := hB.trans hw3)
      rw [Exit.noGoto_ret]
      refine bodyPost_ret (v := .tuple #[.string ⟨⟨acc⟩⟩, .int .i64 0, .int .i64 0]) (by simp [results, Tryz.results16, go_sem]) rfl ⟨by rw [HR2.out], hB⟩
    · have d2 : ((i : Int) == (xs.length : Int)) = false := beq_eq_false_iff_ne.2 (by omega)
      have hlt : i < xs.length := by omega
      obtain rfl : p = some ⟨B, o, none⟩ := HQ.out.resolve_left (fun h => by rw [h] at hlt; exact absurd hlt (Nat.not_lt_zero _))
      clear HQ
      have c5 := HR.out i hi (wrap64 (a + i))
      have hok := readW_ok (xs.drop i) (wrap64 (a + i)) (HB.out i)
      have hop := readW_op (xs.drop i) (wrap64 (a + i)) (HB.out i)
      obtain ⟨g, rfl⟩ : ∃ g, f = g + 1 := ⟨f - 1, by omega⟩
      have HL2 := HL.out
      rw [lstA, if_neg hie] at HL2
      rw [List.length_drop] at hok
      generalize readW (xs.drop i) (wrap64 (a + i)) = R at c5 hok hop HL2
      obtain ⟨pp, n, z, er⟩ := R
      simp only at hok hop HL2
      have HL3 : Hid _ := HL2
      clear HL2 HL
      by_cases he : er = 0
      · subst he
        obtain ⟨k1, k2, k3, hz1, k5, hz3, k7⟩ := hok rfl
        have HL4 := HL3.out
        rw [if_pos rfl] at HL4
        have hp := HP.out pp n hop.1 hop.2 k1 k2 k3
        have ht := HT.out pp hop.1 hop.2 k1 n
        generalize textL pp.toNat n = tx at hp ht HL4
        have HL5 : Hid _ := HL4
        clear HL3 HL4
        have hsz : (⟨⟨tx⟩⟩ ++ ⟨#[10]⟩ : ByteArray).size = tx.length + 1 := by
          rw [ByteArray.size_append]; rfl
        have hws := fun W h1 h2 => bWriteString w.heap.size w.heap.size (Lib.byteCells acc) (⟨⟨tx⟩⟩ ++ ⟨#[10]⟩) W h1 (by rw [hsz, Lib.byteCells_length]; omega) h2
        have hcells : Lib.byteCells acc ++ Lib.strCells (⟨⟨tx⟩⟩ ++ ⟨#[10]⟩) = Lib.byteCells (acc ++ (tx ++ [10])) := by
          rw [Lib.byteCells_append, Lib.strCells_eq]
          congr 2
        rw [hcells] at hws
        have hiz : wrap64 (i + z) = i + z := by unfold wrap64; omega
        clear hok hop hcells HR HB HP HT k1 k2 k3 k5 k7
        go_wp2_with (first
          | (go_at_call 36; refine (c5 _ hB).mono ?_; rintro e w3 ⟨rfl, hw3⟩; replace hB := stepB' hB hw3; replace hbd := hbd.below hw3; replace hbd := hbd.below ((Below.refl w3.heap.size w3).alloc (Nat.le_refl _) (.cells #[.int .u8 pp, .int .i64 n] 23)); replace hB := hB.alloc hB.size (.cells #[.int .u8 pp, .int .i64 n] 23))
          | (go_at_call 7; refine (hp _ hB).mono ?_; rintro e w4 ⟨rfl, hw4⟩; replace hB := stepB' hB hw4; replace hbd := hbd.below hw4)
          | (go_at_call 37; refine (hws _ hbd hB.size).mono ?_; rintro e w5 ⟨rfl, hbd5, hw5⟩; replace hB := hB.trans hw5))
        have hiz2 : (i : Int) + z = ((i + z.toNat : Nat) : Int) := by omega
        rw [hiz2]
        exact ⟨⟨i + z.toNat, g, acc ++ (tx ++ [10]), by omega, by omega, rfl, by simp; omega, HL5, hbd5, hB⟩, by simp only [intOf]; omega⟩
      · have HL4 := HL3.out
        rw [if_neg he] at HL4
        have d3 : (er != 0) = true := by simpa using he
        have HR2 : Hid (lstR xs a = ([], (i : Int), er)) := HL4.symm
        clear hok hop HR HB HP HT HL3 HL4
        go_wp2_with (go_at_call 36; refine (c5 _ hB).mono ?_; rintro e w3 ⟨rfl, hw3⟩; replace hB := stepB' hB hw3; replace hB := hB.alloc hB.size (.cells #[.int .u8 pp, .int .i64 n] 23))
        rw [Exit.noGoto_ret]
        refine bodyPost_ret (v := .tuple #[.string ⟨⟨[]⟩⟩, .int .i64 (i : Int), .int .i64 er]) (by simp [results, Tryz.results16, go_sem]) rfl ⟨by rw [HR2.out], hB⟩
end Go.Proofs.YtadkilofkpmpgaaGreatDoor
namespace Go.Proofs.YtadkilofkpmpgaaGreatDoor
open Go Go.RowKit
set_option maxRecDepth 100000
theorem hexV_bad (l r : List UInt8) (c : UInt8) (hc : hexD c < 0) : ∀ a, hexV (l ++ c :: r) a = -1 := by
  induction l with
  | nil => intro a; simp [hexV, hc]
  | cons x l ih =>
    intro a
    rw [List.cons_append, hexV]
    split
    · rfl
    · exact ih _
theorem hexD_hu_all : ((List.range 16).all fun x => decide (hexD (hu (Int.ofNat x)) = Int.ofNat x)) = true := by decide +kernel
theorem hexD_hu (x : Int) (h0 : 0 ≤ x) (h1 : x < 16) : hexD (hu x) = x := by
  obtain ⟨k, rfl⟩ := Int.eq_ofNat_of_zero_le h0
  exact of_decide_eq_true (List.all_eq_true.1 hexD_hu_all k (List.mem_range.2 (by omega)))
theorem hexV_2 (n : Int) (h0 : 0 ≤ n) (h1 : n < 256) : hexV (digS 2 n) 0 = n := by
  have a := hexD_hu (n % 16) (by omega) (by omega)
  have b := hexD_hu (n / 16 % 16) (by omega) (by omega)
  simp only [digS, List.nil_append, List.cons_append, hexV, a, b]
  rw [if_neg (by omega), if_neg (by omega)]
  omega
theorem hexV_4 (n : Int) (h0 : 0 ≤ n) (h1 : n < 65536) : hexV (digS 4 n) 0 = n := by
  have a := hexD_hu (n % 16) (by omega) (by omega)
  have b := hexD_hu (n / 16 % 16) (by omega) (by omega)
  have c := hexD_hu (n / 16 / 16 % 16) (by omega) (by omega)
  have d := hexD_hu (n / 16 / 16 / 16 % 16) (by omega) (by omega)
  simp only [digS, List.nil_append, List.cons_append, hexV, a, b, c, d]
  rw [if_neg (by omega), if_neg (by omega), if_neg (by omega), if_neg (by omega)]
  omega
/-- What stands behind the name. -/
def restM (m : Nat) (ds : List UInt8) : List UInt8 := (shp (m : Int)).1 ++ (ds ++ (shp (m : Int)).2.2)
theorem ne_of_hex {x c : UInt8} (h : 0 ≤ hexD x) (hc : hexD c = -1) : x ≠ c := fun e => by rw [e, hc] at h; omega
def sameSh (m m' : Nat) : Bool := m' == m || (m' == 6 && m == 12) || (m' == 12 && m == 6)
theorem cross0 (m : Nat) (hm : m = 0 ∨ m = 1) (m' : Nat) (hm' : m' < 13) (hs : sameSh m m' = false) : wrM m' (restM m []) = -1 := by
  have hall : ((List.range 2).all fun m => (List.range 13).all fun m' => sameSh m m' || decide (wrM m' (restM m []) = -1)) = true := by decide +kernel
  have h := List.all_eq_true.1 (List.all_eq_true.1 hall m (List.mem_range.2 (by omega))) m' (List.mem_range.2 hm')
  rw [hs, Bool.false_or] at h
  exact of_decide_eq_true h
theorem cross2 (m : Nat) (hm : m = 2 ∨ m = 3 ∨ m = 4 ∨ m = 5 ∨ m = 9 ∨ m = 10) (m' : Nat) (hm' : m' < 13) (hs : sameSh m m' = false) (x y : UInt8) (_hx : 0 ≤ hexD x) (_hy : 0 ≤ hexD y) : wrM m' (restM m [x, y]) = -1 := by
  have b44 : hexD 44 < 0 := by decide
  have z1 := hexV_bad [x, y] [88] 44 b44 0
  have z2 := hexV_bad [x, y] [89] 44 b44 0
  simp only [List.cons_append, List.nil_append] at z1 z2
  have hm2 : m' = 0 ∨ m' = 1 ∨ m' = 2 ∨ m' = 3 ∨ m' = 4 ∨ m' = 5 ∨ m' = 6 ∨ m' = 7 ∨ m' = 8 ∨ m' = 9 ∨ m' = 10 ∨ m' = 11 ∨ m' = 12 := by omega
  rcases hm with rfl | rfl | rfl | rfl | rfl | rfl
  all_goals rcases hm2 with rfl | rfl | rfl | rfl | rfl | rfl | rfl | rfl | rfl | rfl | rfl | rfl | rfl
  all_goals first
    | (exact absurd hs (by decide))
    | (simp [wrM, wrL, restM, shp, shpRows, z1, z2])
theorem cross4 (m : Nat) (hm : m = 6 ∨ m = 7 ∨ m = 8 ∨ m = 11 ∨ m = 12) (m' : Nat) (hm' : m' < 13) (hs : sameSh m m' = false) (x y z u : UInt8) (_hx : 0 ≤ hexD x) (_hy : 0 ≤ hexD y) (hz : 0 ≤ hexD z) (_hu : 0 ≤ hexD u) : wrM m' (restM m [x, y, z, u]) = -1 := by
  have n1 : z ≠ 44 := ne_of_hex hz (by decide)
  have n2 : z ≠ 41 := ne_of_hex hz (by decide)
  have hm2 : m' = 0 ∨ m' = 1 ∨ m' = 2 ∨ m' = 3 ∨ m' = 4 ∨ m' = 5 ∨ m' = 6 ∨ m' = 7 ∨ m' = 8 ∨ m' = 9 ∨ m' = 10 ∨ m' = 11 ∨ m' = 12 := by omega
  rcases hm with rfl | rfl | rfl | rfl | rfl
  all_goals rcases hm2 with rfl | rfl | rfl | rfl | rfl | rfl | rfl | rfl | rfl | rfl | rfl | rfl | rfl
  all_goals first
    | (exact absurd hs (by decide))
    | (simp [wrM, wrL, restM, shp, shpRows, n1, n2])
/-- The same shape reads its own digits. -/
theorem same_read (m m' : Nat) (hm : m < 13) (hm' : m' < 13) (hs : sameSh m m' = true) (ds : List UInt8) (hd : ds.length = (shp (m : Int)).2.1.toNat) : wrM m' (restM m ds) = hexV ds 0 := by
  have hall : ((List.range 13).all fun m => (List.range 13).all fun m' => !sameSh m m' || (shp (Int.ofNat m) == shp (Int.ofNat m'))) = true := by decide +kernel
  have h := List.all_eq_true.1 (List.all_eq_true.1 hall m (List.mem_range.2 hm)) m' (List.mem_range.2 hm')
  rw [hs, Bool.not_true, Bool.false_or] at h
  have e : shp (m : Int) = shp (m' : Int) := beq_iff_eq.1 h
  unfold wrM restM
  rw [← e, wrL_yes _ _ _ _ ds rfl, if_pos hd]
theorem prsA_skip (nm rest : List UInt8) (e : Int) : ∀ (k i f : Nat), (∀ j, i ≤ j → j < i + k → wrM j rest < 0) → prsA nm rest (k + f) i e = prsA nm rest f (i + k) e
  | 0, i, f, _ => by rw [Nat.zero_add, Nat.add_zero]
  | k + 1, i, f, h => by
    rw [show k + 1 + f = (k + f) + 1 by omega, prsA, if_pos (h i (Nat.le_refl _) (by omega)), prsA_skip nm rest e k (i + 1) f (fun j h1 h2 => h j (by omega) (by omega))]
    congr 1
    omega
theorem names_ok : (good.all fun b => decide ((opName (Int.ofNat b)).length = 3) && (opName (Int.ofNat b)).all isAZ) = true := by decide +kernel
theorem byteW_good : (good.all fun b => byteW (opName (Int.ofNat b)) (opMode (Int.ofNat b)) opTab 0 14 == (Int.ofNat b, 0)) = true := by decide +kernel
theorem byteW_rel : (good.all fun b => decide (opMode (Int.ofNat b) ≠ 12) || decide ((byteW (opName (Int.ofNat b)) 6 opTab 0 14).2 ≠ 0)) = true := by decide +kernel
theorem digs_mode : (good.all fun b => decide (((opMode (Int.ofNat b) = 0 ∨ opMode (Int.ofNat b) = 1) ∧ digs b = 0 ∧ limM (opMode (Int.ofNat b)) = 1) ∨
    ((opMode (Int.ofNat b) = 2 ∨ opMode (Int.ofNat b) = 3 ∨ opMode (Int.ofNat b) = 4 ∨ opMode (Int.ofNat b) = 5 ∨ opMode (Int.ofNat b) = 9 ∨ opMode (Int.ofNat b) = 10) ∧ digs b = 2 ∧ limM (opMode (Int.ofNat b)) = 256) ∨
    ((opMode (Int.ofNat b) = 6 ∨ opMode (Int.ofNat b) = 7 ∨ opMode (Int.ofNat b) = 8 ∨ opMode (Int.ofNat b) = 11 ∨ opMode (Int.ofNat b) = 12) ∧ digs b = 4 ∧ limM (opMode (Int.ofNat b)) = 65536))) = true := by decide +kernel
/-- A line's text is read as the line. -/
theorem parse_text (b : Nat) (n : Int) (h : b < 256) (ho : (opName (Int.ofNat b)).isEmpty = false) (h0 : 0 ≤ n) (h1 : n < limM (opMode (Int.ofNat b))) : parseW (textL b n) = ((b : Int), n, 0) := by
  have hg := mem_good b h ho
  have hn := List.all_eq_true.1 names_ok b hg
  simp only [Bool.and_eq_true, decide_eq_true_eq] at hn
  have hb := beq_iff_eq.1 (List.all_eq_true.1 byteW_good b hg)
  have hr := List.all_eq_true.1 byteW_rel b hg
  have hd := of_decide_eq_true (List.all_eq_true.1 digs_mode b hg)
  have hm0 : 0 ≤ opMode (Int.ofNat b) := by omega
  obtain ⟨m, hm⟩ := Int.eq_ofNat_of_zero_le hm0
  have hdg : digs b = (shp (m : Int)).2.1 := by rw [← hm]; rfl
  have htx : textL b n = opName (Int.ofNat b) ++ restM m (digS (digs b).toNat n) := by
    unfold textL restM
    rw [hm]
  rw [hm] at hd hb hr h1
  have e1 : (textL b n).take 3 = opName (Int.ofNat b) := by rw [htx, List.take_append_of_le_length (by omega), List.take_of_length_le (by omega)]
  have e2 : (textL b n).drop 3 = restM m (digS (digs b).toNat n) := by rw [htx, List.drop_append, List.drop_of_length_le (by omega), hn.1]; rfl
  have hl : ¬ (textL b n).length < 3 := by rw [htx, List.length_append]; omega
  rw [parseW, e1, e2, if_neg (by rintro (q | q); exact hl q; rw [hn.2] at q; cases q)]
  have hm13 : m < 13 := by omega
  have hdl : ∀ (k : Nat) (x : Int), (digS k x).length = k := by
    intro k
    induction k with
    | zero => intro x; rfl
    | succ k ih => intro x; simp [digS, ih]
  have hval : hexV (digS (digs b).toNat n) 0 = n := by
    rcases hd with ⟨_, d, l⟩ | ⟨_, d, l⟩ | ⟨_, d, l⟩
    · rw [d]
      have : n = 0 := by omega
      rw [this]; rfl
    · rw [d]; exact hexV_2 n h0 (by omega)
    · rw [d]; exact hexV_4 n h0 (by omega)
  have hdx : ∀ q : Int, 0 ≤ hexD (hu (q % 16)) := fun q => by rw [hexD_hu (q % 16) (by omega) (by omega)]; omega
  have other : ∀ m', m' < 13 → sameSh m m' = false → wrM m' (restM m (digS (digs b).toNat n)) < 0 := fun m' hm' hs => by
    rcases hd with ⟨g, d, l⟩ | ⟨g, d, l⟩ | ⟨g, d, l⟩
    · rw [d]
      have := cross0 m (by omega) m' hm' hs
      rw [show digS (0 : Int).toNat n = [] from rfl, this]; decide
    · rw [d]
      have := cross2 m (by omega) m' hm' hs (hu (n / 16 % 16)) (hu (n % 16)) (hdx _) (hdx _)
      rw [show digS (2 : Int).toNat n = [hu (n / 16 % 16), hu (n % 16)] from rfl, this]; decide
    · rw [d]
      have := cross4 m (by omega) m' hm' hs (hu (n / 16 / 16 / 16 % 16)) (hu (n / 16 / 16 % 16)) (hu (n / 16 % 16)) (hu (n % 16)) (hdx _) (hdx _) (hdx _) (hdx _)
      rw [show digS (4 : Int).toNat n = [hu (n / 16 / 16 / 16 % 16), hu (n / 16 / 16 % 16), hu (n / 16 % 16), hu (n % 16)] from rfl, this]; decide
  have same : ∀ m', m' < 13 → sameSh m m' = true → wrM m' (restM m (digS (digs b).toNat n)) = n := fun m' hm' hs => by
    rw [same_read m m' hm13 hm' hs _ (by rw [hdl, hdg]), hval]
  have stepm : ∀ (f : Nat) (e : Int), prsA (opName (Int.ofNat b)) (restM m (digS (digs b).toNat n)) (f + 1) m e = ((b : Int), n, 0) := fun f e => by
    rw [prsA, same m hm13 (by simp [sameSh]), if_neg (by omega)]
    show (if (byteW (opName (Int.ofNat b)) (Int.ofNat m) opTab 0 14).2 = 0 then _ else _) = _
    have hb' : byteW (opName (Int.ofNat b)) (Int.ofNat m) opTab 0 14 = (Int.ofNat b, 0) := hb
    rw [hb', if_pos rfl]
    show ((byteW (opName (Int.ofNat b)) (Int.ofNat m) opTab 0 14).1, n, (0 : Int)) = _
    rw [hb']; rfl
  by_cases h12 : m = 12
  · subst h12
    have hr' : (byteW (opName (Int.ofNat b)) 6 opTab 0 14).2 ≠ 0 := by
      simp only [Bool.or_eq_true, decide_eq_true_eq] at hr
      exact hr.resolve_left (fun q => q rfl)
    have s1 := prsA_skip (opName (Int.ofNat b)) (restM 12 (digS (digs b).toNat n)) 11 6 0 7 (fun j _ h2 => other j (by omega) (by
      have : j = 0 ∨ j = 1 ∨ j = 2 ∨ j = 3 ∨ j = 4 ∨ j = 5 := by omega
      rcases this with rfl | rfl | rfl | rfl | rfl | rfl <;> rfl))
    show prsA _ _ (6 + 7) 0 11 = _
    rw [s1]
    show prsA _ _ (6 + 1) 6 11 = _
    rw [prsA, same 6 (by omega) rfl, if_neg (by omega)]
    show (if (byteW (opName (Int.ofNat b)) 6 opTab 0 14).2 = 0 then _ else prsA _ _ 6 7 (byteW (opName (Int.ofNat b)) 6 opTab 0 14).2) = _
    rw [if_neg hr']
    have s2 := prsA_skip (opName (Int.ofNat b)) (restM 12 (digS (digs b).toNat n)) (byteW (opName (Int.ofNat b)) 6 opTab 0 14).2 5 7 1 (fun j h2 h3 => other j (by omega) (by
      have : j = 7 ∨ j = 8 ∨ j = 9 ∨ j = 10 ∨ j = 11 := by omega
      rcases this with rfl | rfl | rfl | rfl | rfl <;> rfl))
    show prsA _ _ (5 + 1) 7 _ = _
    rw [s2]
    exact stepm 0 _
  · have s1 := prsA_skip (opName (Int.ofNat b)) (restM m (digS (digs b).toNat n)) 11 m 0 (13 - m) (fun j _ h2 => other j (by omega) (by
      have a1 : (j == m) = false := beq_eq_false_iff_ne.2 (by omega)
      have a2 : (m == 12) = false := beq_eq_false_iff_ne.2 h12
      have a3 : (j == 12) = false := beq_eq_false_iff_ne.2 (by omega)
      simp [sameSh, a1, a2, a3]))
    rw [show m + (13 - m) = 13 by omega, Nat.zero_add] at s1
    rw [s1, show 13 - m = (12 - m) + 1 by omega]
    exact stepm _ _
end Go.Proofs.YtadkilofkpmpgaaGreatDoor
namespace Go.Proofs.YtadkilofkpmpgaaGreatDoor
open Go Go.RowKit
set_option maxRecDepth 100000
theorem lim_len (b : Nat) (h : b < 256) (ho : (opName (Int.ofNat b)).isEmpty = false) : limM (opMode (Int.ofNat b)) = (if opMode (Int.ofNat b) = 12 then 65536 else if lenM (opMode (Int.ofNat b)) = 1 then 1 else if lenM (opMode (Int.ofNat b)) = 2 then 256 else 65536) := by
  have hall : (good.all fun b => decide (limM (opMode (Int.ofNat b)) = (if opMode (Int.ofNat b) = 12 then 65536 else if lenM (opMode (Int.ofNat b)) = 1 then 1 else if lenM (opMode (Int.ofNat b)) = 2 then 256 else 65536))) = true := by decide +kernel
  exact of_decide_eq_true (List.all_eq_true.1 hall b (mem_good b h ho))
theorem bytE_none (b : Nat) (n a : Int) : bytE b n a = none ↔ (opName (Int.ofNat b)).isEmpty = false ∧ (0 ≤ n ∧ n < limM (opMode (Int.ofNat b))) ∧ (0 ≤ a ∧ a ≤ 65535 ∧ a + lenM (opMode (Int.ofNat b)) ≤ 65536) ∧ (opMode (Int.ofNat b) = 12 → -128 ≤ n - (a + 2) ∧ n - (a + 2) < 128) := by
  unfold bytE
  constructor
  · intro h
    split at h
    · cases h
    · rename_i h1
      split at h
      · cases h
      · split at h
        · cases h
        · split at h
          · cases h
          · rename_i h2 h3 h4
            exact ⟨by simpa using h1, by omega, by omega, fun h12 => by omega⟩
  · rintro ⟨h1, h2, h3, h4⟩
    rw [if_neg (by rw [h1]; simp), if_neg (by omega), if_neg (by omega), if_neg]
    rintro ⟨q1, q2⟩
    have := h4 q1
    omega
theorem read_bytes (b : Nat) (n a : Int) (h : b < 256) (he : bytE b n a = none) : readW (bytI b n a) a = ((b : Int), n, lenM (opMode (Int.ofNat b)), 0) := by
  obtain ⟨ho, hn, ha, hr⟩ := (bytE_none b n a).1 he
  have hm := mode_of (Int.ofNat b) (Int.natCast_nonneg b) (by simp; omega) ho
  have hlim := lim_len b h ho
  have hlen := bytI_len b n a h he
  have hne : bytI b n a ≠ [] := fun e => by
    have hl0 : (bytI b n a).length = 0 := by rw [e]; rfl
    rw [hlen] at hl0
    omega
  have h0 : (bytI b n a).getD 0 0 = Int.ofNat b := by rw [List.getD, bytI_0]; rfl
  have hN : numR (bytI b n a) a = n := by
    unfold numR
    rw [h0]
    by_cases h12 : opMode (Int.ofNat b) = 12
    · have hr := hr h12
      rw [if_pos h12]
      have e : bytI b n a = [(b : Int), (n - (a + 2)) % 256] := by
        unfold bytI
        rw [if_pos h12]
        simp [outI, List.range_succ]
      rw [e]
      show a + 2 + sgn ((n - (a + 2)) % 256) = n
      unfold sgn
      split <;> omega
    · rw [if_neg h12]
      rw [if_neg h12] at hlim
      have hz3 : lenM (opMode (Int.ofNat b)) = 1 ∨ lenM (opMode (Int.ofNat b)) = 2 ∨ lenM (opMode (Int.ofNat b)) = 3 := by omega
      rcases hz3 with hz | hz | hz
      · rw [if_pos hz]
        rw [if_pos hz] at hlim
        omega
      · rw [if_neg (by omega), if_pos hz]
        rw [if_neg (by omega), if_pos hz] at hlim
        have e : bytI b n a = [(b : Int), n % 256] := by
          unfold bytI
          rw [if_neg h12, hz]
          simp [outI, List.range_succ]
        rw [e]
        show n % 256 = n
        omega
      · rw [if_neg (by omega), if_neg (by omega)]
        rw [if_neg (by omega), if_neg (by omega)] at hlim
        have e : bytI b n a = [(b : Int), n % 256, n / 256 % 256] := by
          unfold bytI
          rw [if_neg h12, hz]
          simp [outI, List.range_succ]
        rw [e]
        show n % 256 + 256 * (n / 256 % 256) = n
        omega
  unfold readW
  rw [if_neg (by omega), if_neg hne, h0, if_neg (by rw [ho]; simp), hN]
  have hn65 : n ≤ 65535 := by
    rw [hlim] at hn
    split at hn
    · omega
    · split at hn
      · omega
      · split at hn <;> omega
  rw [if_neg (by rw [hlen]; omega), if_neg (by omega)]
  rfl
theorem bytes_read (xs : List Int) (a : Int) (hb : ∀ x ∈ xs, 0 ≤ x ∧ x < 256) (h : (readW xs a).2.2.2 = 0) :
    bytE (readW xs a).1.toNat (readW xs a).2.1 a = none ∧ bytI (readW xs a).1.toNat (readW xs a).2.1 a = xs.take (readW xs a).2.2.1.toNat := by
  have hok := readW_ok xs a hb h
  have hbd : ∀ i, i < xs.length → 0 ≤ xs.getD i 0 ∧ xs.getD i 0 < 256 := fun i hi => by
    rw [List.getD, List.getElem?_eq_getElem hi]
    exact hb _ (List.getElem_mem hi)
  have hR : readW xs a = (xs.getD 0 0, numR xs a, lenM (opMode (xs.getD 0 0)), 0) ∧ xs ≠ [] ∧ 0 ≤ a ∧ a ≤ 65535 ∧ a + lenM (opMode (xs.getD 0 0)) ≤ 65536 := by
    unfold readW at h ⊢
    split at h
    · cases h
    · rename_i h1
      rw [if_neg h1]
      split at h
      · cases h
      · rename_i h2
        rw [if_neg h2]
        split at h
        · cases h
        · rename_i h3
          rw [if_neg h3]
          split at h
          · cases h
          · rename_i h4
            rw [if_neg h4]
            split at h
            · cases h
            · rename_i h5
              rw [if_neg h5]
              exact ⟨rfl, h2, by omega, by omega, by omega⟩
  obtain ⟨hR, hne, a0, a1, a2⟩ := hR
  rw [hR] at hok ⊢
  obtain ⟨k1, k2, k3, k4, k5, k6, _⟩ := hok
  simp only at k1 k2 k3 k4 k5 k6 ⊢
  have b0 := hbd 0 (by omega)
  obtain ⟨k, hk⟩ := Int.eq_ofNat_of_zero_le b0.1
  have e0 : (xs.getD 0 0).toNat = k := by omega
  have e0' : Int.ofNat (xs.getD 0 0).toNat = xs.getD 0 0 := by rw [e0, hk]; rfl
  have hnr : opMode (xs.getD 0 0) = 12 → numR xs a = a + 2 + sgn (xs.getD 1 0) := fun h12 => by unfold numR; rw [if_pos h12]
  refine ⟨(bytE_none _ _ _).2 ⟨by rw [e0']; exact k1, ⟨k2, by rw [e0']; exact k3⟩, by rw [e0']; exact ⟨a0, a1, a2⟩, fun h12 => ?_⟩, ?_⟩
  · rw [e0'] at h12
    have hl2 : lenM (opMode (xs.getD 0 0)) = 2 := by rw [h12]; exact len_12
    have b1 := hbd 1 (by omega)
    have := sgn_lo _ b1.1 b1.2
    rw [hnr h12]
    omega
  · unfold bytI
    rw [e0']
    have take2 : 2 ≤ xs.length → xs.take 2 = [xs.getD 0 0, xs.getD 1 0] := fun hl => by
      match xs, hl with
      | x :: y :: r, _ => rfl
    have take3 : 3 ≤ xs.length → xs.take 3 = [xs.getD 0 0, xs.getD 1 0, xs.getD 2 0] := fun hl => by
      match xs, hl with
      | x :: y :: z :: r, _ => rfl
    have take1 : 1 ≤ xs.length → xs.take 1 = [xs.getD 0 0] := fun hl => by
      match xs, hl with
      | x :: r, _ => rfl
    by_cases h12 : opMode (xs.getD 0 0) = 12
    · have hl2 : lenM (opMode (xs.getD 0 0)) = 2 := by rw [h12]; exact len_12
      have b1 := hbd 1 (by omega)
      rw [if_pos h12, hl2, show (2 : Int).toNat = 2 from rfl, take2 (by omega), e0, hnr h12]
      have : (a + 2 + sgn (xs.getD 1 0) - (a + 2)) % 256 = xs.getD 1 0 := by
        unfold sgn
        split <;> omega
      simp only [outI, List.range_succ, List.range_zero, List.nil_append, List.map_cons, List.map_nil]
      rw [Int.pow_zero, Int.ediv_one, this, hk]
    · rw [if_neg h12]
      have hz3 : lenM (opMode (xs.getD 0 0)) = 1 ∨ lenM (opMode (xs.getD 0 0)) = 2 ∨ lenM (opMode (xs.getD 0 0)) = 3 := by omega
      unfold numR
      rw [if_neg h12]
      rcases hz3 with hz | hz | hz
      · rw [hz, show (1 : Int).toNat = 1 from rfl, take1 (by omega), e0, hk]
        rfl
      · have b1 := hbd 1 (by omega)
        rw [hz, show (2 : Int).toNat = 2 from rfl, take2 (by omega), e0]
        have : xs.getD 1 0 % 256 = xs.getD 1 0 := by omega
        simp only [outI, List.range_succ, List.range_zero, List.nil_append, List.map_cons, List.map_nil, Int.pow_zero, Int.ediv_one, if_neg (show ¬ (2 : Int) = 1 by decide), if_true, this, hk]
      · have b1 := hbd 1 (by omega)
        have b2 := hbd 2 (by omega)
        rw [hz, show (3 : Int).toNat = 3 from rfl, take3 (by omega), e0]
        have q1 : (xs.getD 1 0 + 256 * xs.getD 2 0) % 256 = xs.getD 1 0 := by omega
        have q2 : (xs.getD 1 0 + 256 * xs.getD 2 0) / 256 % 256 = xs.getD 2 0 := by omega
        rw [if_neg (by decide), if_neg (by decide)]
        simp only [outI, List.range_succ, List.range_zero, List.nil_append, List.map_cons, List.map_nil, List.cons_append, Int.pow_zero, Int.ediv_one, show (3 - 1 : Nat) = 1 + 1 from rfl, show (256 : Int) ^ 1 = 256 from rfl, q1, q2, hk]
theorem readW_err (xs : List Int) (a : Int) (h : (readW xs a).2.2.2 ≠ 0) : (readW xs a).1 = 0 ∧ (readW xs a).2.1 = 0 ∧ (readW xs a).2.2.1 = 0 := by
  unfold readW at h ⊢
  by_cases c1 : a < 0 ∨ 65535 < a
  · rw [if_pos c1]; exact ⟨rfl, rfl, rfl⟩
  · rw [if_neg c1] at h ⊢
    by_cases c2 : xs = []
    · rw [if_pos c2]; exact ⟨rfl, rfl, rfl⟩
    · rw [if_neg c2] at h ⊢
      by_cases c3 : (opName (xs.getD 0 0)).isEmpty = true
      · rw [if_pos c3]; exact ⟨rfl, rfl, rfl⟩
      · rw [if_neg c3] at h ⊢
        by_cases c4 : (xs.length : Int) < lenM (opMode (xs.getD 0 0))
        · rw [if_pos c4]; exact ⟨rfl, rfl, rfl⟩
        · rw [if_neg c4] at h ⊢
          by_cases c5 : 65536 < a + lenM (opMode (xs.getD 0 0)) ∨ numR xs a < 0 ∨ 65535 < numR xs a
          · rw [if_pos c5]; exact ⟨rfl, rfl, rfl⟩
          · rw [if_neg c5] at h
            exact absurd rfl h
end Go.Proofs.YtadkilofkpmpgaaGreatDoor
namespace Go.Proofs.YtadkilofkpmpgaaGreatDoor
open Go Go.RowKit
set_option maxRecDepth 100000
theorem digS_no (c : UInt8) : ∀ (k : Nat) (n : Int), c ∈ digS k n → c ≠ 10
  | 0, _, h => by cases h
  | k + 1, n, h => by
    rw [digS] at h
    rcases List.mem_append.1 h with h | h
    · exact digS_no c k _ h
    · obtain rfl := List.mem_singleton.1 h
      have hall : ((List.range 16).all fun x => hu (Int.ofNat x) != 10) = true := by decide +kernel
      obtain ⟨m, hm⟩ := Int.eq_ofNat_of_zero_le (show 0 ≤ n % 16 by omega)
      have := List.all_eq_true.1 hall m (List.mem_range.2 (by omega))
      rw [hm]
      simpa using this
theorem textL_no (b : Nat) (n : Int) (h : b < 256) (ho : (opName (Int.ofNat b)).isEmpty = false) : ∀ c ∈ textL b n, c ≠ 10 := fun c hc => by
  have hall : (good.all fun b => (opName (Int.ofNat b)).all (· != 10) && (shp (opMode (Int.ofNat b))).1.all (· != 10) && (shp (opMode (Int.ofNat b))).2.2.all (· != 10)) = true := by decide +kernel
  have hb := List.all_eq_true.1 hall b (mem_good b h ho)
  simp only [Bool.and_eq_true, List.all_eq_true] at hb
  unfold textL at hc
  rcases List.mem_append.1 hc with hc | hc
  · simpa using hb.1.1 c hc
  · rcases List.mem_append.1 hc with hc | hc
    · simpa using hb.1.2 c hc
    · rcases List.mem_append.1 hc with hc | hc
      · exact digS_no c _ _ hc
      · simpa using hb.2 c hc
theorem linesL_app : ∀ (t r : List UInt8), (∀ c ∈ t, c ≠ 10) → linesL (t ++ 10 :: r) = t :: linesL r
  | [], r, _ => by rw [List.nil_append, linesL, if_pos rfl]
  | c :: t, r, h => by
    rw [List.cons_append, linesL, if_neg (h c (List.mem_cons_self ..)), linesL_app t r (fun x hx => h x (List.mem_cons_of_mem _ hx))]
theorem textL_ne (b : Nat) (n : Int) (ho : (opName (Int.ofNat b)).isEmpty = false) : textL b n ≠ [] := fun e => by
  unfold textL at e
  have := (List.append_eq_nil_iff.1 e).1
  rw [this] at ho
  cases ho
/-- Assemble of what List answers. -/
theorem asm_of_lst (xs : List Int) (a : Int) (hb : ∀ x ∈ xs, 0 ≤ x ∧ x < 256) : ∀ (f i : Nat) (acc txt : List UInt8), i ≤ xs.length → (lstA xs a f i acc).2.2 = 0 → (lstA xs a f i acc).1 = txt →
    ∃ r, txt = acc ++ r ∧ ∀ k, asmW a (linesL r) k (xs.take i) = (xs, 0, 0)
  | 0, i, acc, txt, _, h, _ => by rw [lstA] at h; cases h
  | f + 1, i, acc, txt, hi, h, ht => by
    rw [lstA] at h ht
    by_cases hie : i = xs.length
    · rw [if_pos hie] at ht
      refine ⟨[], by rw [← ht]; simp, fun k => ?_⟩
      rw [linesL, asmW, if_pos rfl, asmW, hie, List.take_length]
    · rw [if_neg hie] at h ht
      have hbd : ∀ x ∈ xs.drop i, 0 ≤ x ∧ x < 256 := fun x hx => hb x (List.mem_of_mem_drop hx)
      have hok := readW_ok (xs.drop i) (wrap64 (a + i)) hbd
      have hop := readW_op (xs.drop i) (wrap64 (a + i)) hbd
      have hrd := bytes_read (xs.drop i) (wrap64 (a + i)) hbd
      by_cases he : (readW (xs.drop i) (wrap64 (a + i))).2.2.2 = 0
      · rw [if_pos he] at h ht
        have hok := hok he
        obtain ⟨q1, q2⟩ := hrd he
        generalize readW (xs.drop i) (wrap64 (a + i)) = R at h ht hok hop q1 q2
        obtain ⟨p, n, z, er⟩ := R
        simp only at h ht hok hop q1 q2
        obtain ⟨k1, k2, k3, k4, k5, k6, k7⟩ := hok
        obtain ⟨b, rfl⟩ := Int.eq_ofNat_of_zero_le hop.1
        obtain ⟨m, rfl⟩ := Int.eq_ofNat_of_zero_le (show 0 ≤ z by omega)
        rw [Int.toNat_natCast] at h ht q1 q2
        rw [List.length_drop] at k6
        rw [Int.toNat_natCast] at h ht
        obtain ⟨r, hr, hk⟩ := asm_of_lst xs a hb f (i + m) _ txt (by omega) h ht
        have hb256 : b < 256 := by omega
        have hpt := parse_text b n hb256 k1 k2 k3
        have htn := textL_ne b n k1
        have htl := textL_no b n hb256 k1
        refine ⟨textL b n ++ 10 :: r, by rw [hr]; simp, fun k => ?_⟩
        rw [linesL_app _ _ htl, asmW, if_neg htn, hpt]
        have hlen : (xs.take i).length = i := by rw [List.length_take]; omega
        have e1 : bytEr (b : Int) n (wrap64 (a + i)) = 0 := by
          unfold bytEr
          rw [Int.toNat_natCast, q1]
        have e2 : bytX (b : Int) n (wrap64 (a + i)) = (xs.drop i).take m := by
          unfold bytX
          rw [Int.toNat_natCast, q1]
          exact q2
        simp only [hlen]
        rw [if_neg (fun h => h rfl), if_neg (fun h => h e1), e2, ← List.take_add]
        exact hk (k + 1)
      · rw [if_neg he] at h
        exact absurd h he
theorem outI_in (b n : Int) (i : Nat) (h0 : 0 ≤ b) (h1 : b < 256) : ∀ x ∈ outI b n i, 0 ≤ x ∧ x < 256 := by
  intro x hx
  unfold outI at hx
  rcases List.mem_cons.1 hx with rfl | hx
  · exact ⟨h0, h1⟩
  · obtain ⟨k, _, rfl⟩ := List.mem_map.1 hx
    omega
theorem bytI_in (b : Nat) (n a : Int) (h : b < 256) : ∀ x ∈ bytI b n a, 0 ≤ x ∧ x < 256 := by
  unfold bytI
  split
  · exact outI_in _ _ _ (by omega) (by omega)
  · exact outI_in _ _ _ (by omega) (by omega)
theorem getD_app (X Y : List Int) (j : Nat) (h : j < X.length) : (X ++ Y).getD j 0 = X.getD j 0 := by
  rw [List.getD, List.getD, List.getElem?_append_left h]
/-- What stands behind a line's bytes does not matter. -/
theorem readW_app (X Y : List Int) (a : Int) (h : (readW X a).2.2.2 = 0) (hl : lenM (opMode (X.getD 0 0)) ≤ 3 ∧ 1 ≤ lenM (opMode (X.getD 0 0))) (h12 : opMode (X.getD 0 0) = 12 → lenM (opMode (X.getD 0 0)) = 2) : readW (X ++ Y) a = readW X a := by
  unfold readW at h ⊢
  by_cases c1 : a < 0 ∨ 65535 < a
  · rw [if_pos c1] at h; cases h
  · rw [if_neg c1] at h ⊢
    rw [if_neg c1]
    by_cases c2 : X = []
    · rw [if_pos c2] at h; cases h
    · have hL : 0 < X.length := List.length_pos_iff.2 c2
      rw [if_neg c2] at h ⊢
      rw [if_neg (by simp [c2]), getD_app X Y 0 hL]
      by_cases c3 : (opName (X.getD 0 0)).isEmpty = true
      · rw [if_pos c3] at h; cases h
      · rw [if_neg c3] at h ⊢
        rw [if_neg c3]
        by_cases c4 : (X.length : Int) < lenM (opMode (X.getD 0 0))
        · rw [if_pos c4] at h; cases h
        · rw [if_neg c4] at h ⊢
          rw [if_neg (by rw [List.length_append]; omega)]
          have hn : numR (X ++ Y) a = numR X a := by
            unfold numR
            rw [getD_app X Y 0 hL]
            by_cases d1 : opMode (X.getD 0 0) = 12
            · have := h12 d1
              rw [if_pos d1, if_pos d1, getD_app X Y 1 (by omega)]
            · rw [if_neg d1, if_neg d1]
              by_cases d2 : lenM (opMode (X.getD 0 0)) = 1
              · rw [if_pos d2, if_pos d2]
              · rw [if_neg d2, if_neg d2]
                by_cases d3 : lenM (opMode (X.getD 0 0)) = 2
                · rw [if_pos d3, if_pos d3, getD_app X Y 1 (by omega)]
                · rw [if_neg d3, if_neg d3, getD_app X Y 1 (by omega), getD_app X Y 2 (by omega)]
          rw [hn]
/-- What is assembled is listed. -/
theorem lst_of_asm (a : Int) : ∀ (ls : List (List UInt8)) (k : Nat) (out c : List Int), (asmW a ls k out).2.2 = 0 → (asmW a ls k out).1 = c →
    ∃ tl, c = out ++ tl ∧ (∀ x ∈ tl, 0 ≤ x ∧ x < 256) ∧ ∀ (f : Nat) (acc : List UInt8), tl.length + 1 ≤ f → (lstA c a f out.length acc).2.2 = 0
  | [], k, out, c, _, hc => by
    rw [asmW] at hc
    subst hc
    refine ⟨[], by simp, fun x hx => (by cases hx), fun f acc hf => ?_⟩
    obtain ⟨g, rfl⟩ : ∃ g, f = g + 1 := ⟨f - 1, by simp at hf; omega⟩
    rw [lstA, if_pos rfl]
  | l :: ls, k, out, c, h, hc => by
    rw [asmW] at h hc
    by_cases hl : l = []
    · rw [if_pos hl] at h hc
      exact lst_of_asm a ls (k + 1) out c h hc
    · rw [if_neg hl] at h hc
      by_cases he : (parseW l).2.2 = 0
      · rw [if_neg (fun q => q he)] at h hc
        have hop := parseW_op l
        generalize parseW l = R at h hc hop
        obtain ⟨p, n, er⟩ := R
        simp only at h hc hop
        obtain ⟨b, rfl⟩ := Int.eq_ofNat_of_zero_le hop.1
        by_cases hr : bytEr (b : Int) n (wrap64 (a + out.length)) = 0
        · rw [if_neg (fun q => q hr)] at h hc
          have hb256 : b < 256 := by omega
          have hbe := byt_none b n _ hr
          have hX : bytX (b : Int) n (wrap64 (a + out.length)) = bytI b n (wrap64 (a + out.length)) := by
            unfold bytX
            rw [Int.toNat_natCast, hbe]
          rw [hX] at h hc
          have hg := good_len b n _ hb256 hbe
          have hlen := bytI_len b n _ hb256 hbe
          have hrb := read_bytes b n _ hb256 hbe
          have hin := bytI_in b n (wrap64 (a + out.length)) hb256
          have h0 : (bytI b n (wrap64 (a + out.length))).getD 0 0 = Int.ofNat b := by rw [List.getD, bytI_0]; rfl
          obtain ⟨tl, htl, htb, hf⟩ := lst_of_asm a ls (k + 1) _ c h hc
          have happ := fun Y => readW_app (bytI b n (wrap64 (a + out.length))) Y (wrap64 (a + out.length)) (by rw [hrb]) (by rw [h0]; omega) (by rw [h0]; intro h12; rw [h12]; exact len_12)
          generalize bytI b n (wrap64 (a + out.length)) = X at htl hlen hrb hin hf happ
          refine ⟨X ++ tl, by rw [htl]; simp, fun x hx => ?_, fun f acc hfl => ?_⟩
          · rcases List.mem_append.1 hx with hx | hx
            · exact hin x hx
            · exact htb x hx
          · rw [List.length_append] at hfl
            obtain ⟨g, rfl⟩ : ∃ g, f = g + 1 := ⟨f - 1, by omega⟩
            have hcl : out.length ≠ c.length := by rw [htl, List.length_append, List.length_append]; omega
            have hdr : c.drop out.length = X ++ tl := by rw [htl, List.append_assoc, List.drop_left]
            rw [lstA, if_neg hcl, hdr, happ tl, hrb, if_pos rfl]
            have := hf g (acc ++ (textL (Int.toNat (b : Int)) n ++ [10])) (by omega)
            rw [List.length_append, hlen] at this
            exact this
        · rw [if_pos hr] at h
          exact absurd h hr
      · rw [if_pos he] at h
        exact absurd h he
end Go.Proofs.YtadkilofkpmpgaaGreatDoor
namespace Go.Proofs.YtadkilofkpmpgaaGreatDoor
open Go Go.RowKit
set_option maxRecDepth 100000
theorem at_ofW {W : World} {p : Option Addr} : ∀ {xs : List Int}, SlAt W p xs → ∃ B o, CellsAt W B o xs ∧ (xs = [] ∨ p = some ⟨B, o, none⟩)
  | [], _ => ⟨0, 0, fun j x hj => by simp at hj, .inl rfl⟩
  | x :: r, hx => by
    obtain ⟨B, o, rfl, _⟩ := hx 0 x rfl
    refine ⟨B, o, fun j y hj => ?_, .inr rfl⟩
    obtain ⟨B', o', e, h⟩ := hx j y hj
    cases e
    exact h
theorem lines_lenW : ∀ l : List UInt8, (linesL l).length ≤ l.length + 1
  | [] => by rw [linesL]; simp
  | c :: s => by
    have h := lines_lenW s
    rw [linesL]
    split
    · simp; omega
    · split
      · simp
      · rename_i p ps hp
        rw [hp] at h
        simp at h ⊢
        omega
theorem asmW_lenW (a : Int) : ∀ (ls : List (List UInt8)) (i : Nat) (out : List Int), (asmW a ls i out).1.length ≤ out.length + 3 * ls.length
  | [], i, out => by rw [asmW]; simp
  | l :: ls, i, out => by
    have hop := parseW_op l
    have hx := bytX_len (parseW l).1 (parseW l).2.1 (wrap64 (a + out.length)) hop.1 hop.2
    have h1 := asmW_lenW a ls (i + 1) out
    have h2 := asmW_lenW a ls (i + 1) (out ++ bytX (parseW l).1 (parseW l).2.1 (wrap64 (a + out.length)))
    rw [asmW]
    rw [List.length_append] at h2
    rw [List.length_cons]
    split
    · omega
    · split
      · simp
      · split
        · simp
        · omega
/-- Where something is wrong, there are no bytes. -/
theorem asmW_bad (a : Int) : ∀ (ls : List (List UInt8)) (i : Nat) (out : List Int), (asmW a ls i out).2.2 ≠ 0 → (asmW a ls i out).1 = []
  | [], i, out, h => by rw [asmW] at h; exact absurd rfl h
  | l :: ls, i, out, h => by
    rw [asmW] at h ⊢
    split at h
    · rename_i h1
      rw [if_pos h1]
      exact asmW_bad a ls _ _ h
    · rename_i h1
      rw [if_neg h1]
      split at h
      · rename_i h2
        rw [if_pos h2]
      · rename_i h2
        rw [if_neg h2]
        split at h
        · rename_i h3
          rw [if_pos h3]
        · rename_i h3
          rw [if_neg h3]
          exact asmW_bad a ls _ _ h
theorem lstA_len (xs : List Int) (a : Int) (hb : ∀ x ∈ xs, 0 ≤ x ∧ x < 256) : ∀ (f i : Nat) (acc : List UInt8), i ≤ xs.length → acc.length ≤ 12 * i → (lstA xs a f i acc).1.length ≤ 12 * xs.length
  | 0, i, acc, _, _ => by rw [lstA]; simp
  | f + 1, i, acc, hi, hacc => by
    rw [lstA]
    by_cases hie : i = xs.length
    · rw [if_pos hie]; simp only; omega
    · rw [if_neg hie]
      have hbd : ∀ x ∈ xs.drop i, 0 ≤ x ∧ x < 256 := fun x hx => hb x (List.mem_of_mem_drop hx)
      have hok := readW_ok (xs.drop i) (wrap64 (a + i)) hbd
      have hop := readW_op (xs.drop i) (wrap64 (a + i)) hbd
      by_cases he : (readW (xs.drop i) (wrap64 (a + i))).2.2.2 = 0
      · rw [if_pos he]
        have hok := hok he
        generalize readW (xs.drop i) (wrap64 (a + i)) = R at hok hop
        obtain ⟨p, n, z, er⟩ := R
        simp only at hok hop ⊢
        obtain ⟨k1, k2, k3, k4, k5, k6, k7⟩ := hok
        rw [List.length_drop] at k6
        have ht := textL_len p.toNat n (by omega) (by rw [show Int.ofNat p.toNat = p from Int.toNat_of_nonneg hop.1]; exact k1)
        exact lstA_len xs a hb f _ _ (by omega) (by simp; omega)
      · rw [if_neg he]; simp
theorem asm_lst (xs : List Int) (a : Int) (hb : ∀ x ∈ xs, 0 ≤ x ∧ x < 256) (h : (lstR xs a).2.2 = 0) : asmW a (linesL (lstR xs a).1) 0 [] = (xs, 0, 0) := by
  obtain ⟨r, hr, hk⟩ := asm_of_lst xs a hb (xs.length + 1) 0 [] _ (Nat.zero_le _) h rfl
  have hk := hk 0
  rw [List.nil_append] at hr
  rw [show (lstR xs a).1 = r from hr]
  exact hk
theorem lst_asm (a : Int) (ls : List (List UInt8)) (h : (asmW a ls 0 []).2.2 = 0) : (∀ x ∈ (asmW a ls 0 []).1, 0 ≤ x ∧ x < 256) ∧ (lstR (asmW a ls 0 []).1 a).2.2 = 0 := by
  obtain ⟨tl, htl, hb, hf⟩ := lst_of_asm a ls 0 [] _ h rfl
  rw [List.nil_append] at htl
  refine ⟨by rw [htl]; exact hb, ?_⟩
  exact hf _ [] (by rw [← htl]; exact Nat.le_refl _)
theorem listW_calls (p : Option Addr) (xs : List Int) (c : Nat) (a : Int) (w : World) (hk : Rk.Knows kn5 w) (hx : SlAt w p xs) (hb : ∀ x ∈ xs, 0 ≤ x ∧ x < 256) (hL : xs.length ≤ 65536) (hc : xs.length ≤ c) :
    Calls Tryz.prog 16 #[.slice p xs.length c, .int .i64 a] w fun e w' => e = .returned (.tuple #[.string ⟨⟨(lstR xs a).1⟩⟩, .int .i64 (lstR xs a).2.1, .int .i64 (lstR xs a).2.2]) ∧ Below w.heap.size w w' := by
  obtain ⟨B, o, h, hq⟩ := at_ofW hx
  exact list_gen B o c p xs a w hk h hb hL hc hq
theorem cmp_sameW (p1 p2 : Option Addr) (n c1 c2 : Nat) (ys : List Int) (w : World) (hl : n = ys.length) (hb : n ≤ 65536) (h1 : SlAt w p1 ys) (h2 : SlAt w p2 ys) :
    Calls Tryz.prog 15 #[.slice p1 n c1, .slice p2 n c2] w fun e w' => e = .returned (.bool true) ∧ Below w.heap.size w w' := by
  have h := cmp_calls p1 p2 n n c1 c2 ys ys w hl hl hb h1 h2
  rw [show decide (ys = ys) = true by simp] at h
  exact h
set_option maxHeartbeats 1600000 in
theorem whole_long (p : Option Addr) (L c : Nat) (s : ByteArray) (a : Int) (hL : 200 < L ∨ 300 < s.size) (w : World) (hk : Rk.Knows kn5 w) :
    Calls Tryz.prog 5 #[.slice p L c, .string s, .int .i64 a] w fun e w' => e = .returned (.bool true) ∧ Below w.heap.size w w' := by
  have c3 := fun W hW => awake5_calls W (hk.below hW)
  have hB := Below.refl w.heap.size w
  have d1 : decide ((L : Int) > 200) = true ∨ (decide ((L : Int) > 200) = false ∧ decide ((s.size : Int) > 300) = true) := by
    by_cases h3 : 200 < L
    · exact .inl (decide_eq_true (by omega))
    · exact .inr ⟨decide_eq_false (by omega), decide_eq_true (by omega)⟩
  clear hL hk
  rcases d1 with d1 | ⟨d1, d2⟩
  all_goals
    go_enter Tryz.func5, Tryz.ntmps5
    go_wp2_with (go_at_call 6; refine (c3 _ hB).mono ?_; rintro e w4 ⟨rfl, hw4⟩; replace hB := stepB' hB hw4)
    go_ret
    exact ⟨rfl, hB⟩
/-- What List answers first: something wrong, or a text of which Assemble makes the bytes. -/
abbrev FirstK (p : Option Addr) (xs : List Int) (c : Nat) (a : Int) (w : World) : Prop :=
  ∃ (t : List UInt8) (i er : Int), (∀ W, Below w.heap.size w W → Calls Tryz.prog 16 #[.slice p xs.length c, .int .i64 a] W fun e w' => e = .returned (.tuple #[.string ⟨⟨t⟩⟩, .int .i64 i, .int .i64 er]) ∧ Below W.heap.size W w') ∧
    (er ≠ 0 ∨ (er = 0 ∧ ∀ W, Below w.heap.size w W → Calls Tryz.prog 13 #[.string ⟨⟨t⟩⟩, .int .i64 a] W fun e w' => ∃ p cap, e = .returned (.tuple #[.slice p xs.length cap, .int .i64 0, .int .i64 0]) ∧ xs.length ≤ cap ∧ SlAt w' p xs ∧ Below W.heap.size W w'))
theorem first_holds (p : Option Addr) (xs : List Int) (c : Nat) (a m : Int) (w : World) (hk : Rk.Knows kn5 w) (hev : ErrV w) (hm : w.cell? ⟨3, 0, none⟩ = some (.int .i64 m)) (hx : SlAt w p xs) (hb : ∀ x ∈ xs, 0 ≤ x ∧ x < 256) (hL : xs.length ≤ 5000) (hc : xs.length ≤ c) : FirstK p xs c a w := by
  have hlen : (lstR xs a).1.length ≤ 12 * xs.length := lstA_len xs a hb _ 0 [] (Nat.zero_le _) (Nat.zero_le _)
  refine ⟨(lstR xs a).1, (lstR xs a).2.1, (lstR xs a).2.2, fun W hW => listW_calls p xs c a W (hk.below hW) (hx.below hW) hb (by omega) hc, ?_⟩
  by_cases he : (lstR xs a).2.2 = 0
  · refine .inr ⟨he, fun W hW => ?_⟩
    have h := asm_gen ⟨⟨(lstR xs a).1⟩⟩ (show (lstR xs a).1.length ≤ 65536 by omega) a m W (hk.below hW) (hev.below hW) ((hW.cell (World.block_lt_of_cell? w _ hm)).trans hm)
    rw [show asmW a (linesL (ByteArray.mk ⟨(lstR xs a).1⟩).data.toList) 0 [] = (xs, 0, 0) from asm_lst xs a hb he] at h
    exact h
  · exact .inl he
end Go.Proofs.YtadkilofkpmpgaaGreatDoor
namespace Go.Proofs.YtadkilofkpmpgaaGreatDoor
open Go Go.RowKit
set_option maxRecDepth 100000
/-- What Assemble answers of the text: something wrong, or bytes, whose List has a text of which Assemble makes the bytes. -/
abbrev SecondK (s : ByteArray) (a : Int) (w : World) : Prop :=
  ∃ (X : List Int) (i er : Int), X.length ≤ 5000 ∧ (∀ W, Below w.heap.size w W → Calls Tryz.prog 13 #[.string s, .int .i64 a] W fun e w' => ∃ p cap, e = .returned (.tuple #[.slice p X.length cap, .int .i64 i, .int .i64 er]) ∧ X.length ≤ cap ∧ SlAt w' p X ∧ Below W.heap.size W w') ∧
    ((er ≠ 0 ∧ X.length = 0) ∨ (er = 0 ∧ ∃ (t : List UInt8) (j : Int), (∀ W p c, Below w.heap.size w W → SlAt W p X → X.length ≤ c → Calls Tryz.prog 16 #[.slice p X.length c, .int .i64 a] W fun e w' => e = .returned (.tuple #[.string ⟨⟨t⟩⟩, .int .i64 j, .int .i64 0]) ∧ Below W.heap.size W w') ∧
      (∀ W, Below w.heap.size w W → Calls Tryz.prog 13 #[.string ⟨⟨t⟩⟩, .int .i64 a] W fun e w' => ∃ p cap, e = .returned (.tuple #[.slice p X.length cap, .int .i64 0, .int .i64 0]) ∧ X.length ≤ cap ∧ SlAt w' p X ∧ Below W.heap.size W w')))
theorem second_holds (s : ByteArray) (hs : s.size ≤ 300) (a m : Int) (w : World) (hk : Rk.Knows kn5 w) (hev : ErrV w) (hm : w.cell? ⟨3, 0, none⟩ = some (.int .i64 m)) : SecondK s a w := by
  have hl := asmW_lenW a (linesL s.data.toList) 0 []
  have hll := lines_lenW s.data.toList
  have e2 : s.data.toList.length = s.size := by rw [Array.length_toList]; rfl
  have hX : (asmW a (linesL s.data.toList) 0 []).1.length ≤ 5000 := by simp at hl; omega
  have hbad := asmW_bad a (linesL s.data.toList) 0 []
  have hgood := lst_asm a (linesL s.data.toList)
  have c1 := fun W (hW : Below w.heap.size w W) => asm_gen s (by omega) a m W (hk.below hW) (hev.below hW) ((hW.cell (World.block_lt_of_cell? w _ hm)).trans hm)
  generalize asmW a (linesL s.data.toList) 0 [] = R at c1 hX hbad hgood
  refine ⟨R.1, R.2.1, R.2.2, hX, c1, ?_⟩
  by_cases he : R.2.2 = 0
  · obtain ⟨hb, h0⟩ := hgood he
    have hlen : (lstR R.1 a).1.length ≤ 12 * R.1.length := lstA_len R.1 a hb _ 0 [] (Nat.zero_le _) (Nat.zero_le _)
    refine .inr ⟨he, (lstR R.1 a).1, (lstR R.1 a).2.1, fun W p c hW hx hc => ?_, fun W hW => ?_⟩
    · have h := listW_calls p R.1 c a W (hk.below hW) hx hb (by omega) hc
      rw [h0] at h
      exact h
    · have h := asm_gen ⟨⟨(lstR R.1 a).1⟩⟩ (show (lstR R.1 a).1.length ≤ 65536 by omega) a m W (hk.below hW) (hev.below hW) ((hW.cell (World.block_lt_of_cell? w _ hm)).trans hm)
      rw [show asmW a (linesL (ByteArray.mk ⟨(lstR R.1 a).1⟩).data.toList) 0 [] = (R.1, 0, 0) from asm_lst R.1 a hb h0] at h
      exact h
  · exact .inl ⟨he, by rw [hbad he]; rfl⟩
set_option maxHeartbeats 3200000 in
theorem whole_calls (p : Option Addr) (xs : List Int) (c : Nat) (s : ByteArray) (a m : Int) (w : World) (hk : Rk.Knows kn5 w) (hev : ErrV w) (hm : w.cell? ⟨3, 0, none⟩ = some (.int .i64 m)) (hx : SlAt w p xs) (hb : ∀ x ∈ xs, 0 ≤ x ∧ x < 256) (hc : xs.length ≤ c) :
    Calls Tryz.prog 5 #[.slice p xs.length c, .string s, .int .i64 a] w fun e w' => e = .returned (.bool true) ∧ Below w.heap.size w w' := by
  by_cases h1 : 200 < xs.length ∨ 300 < s.size
  · exact whole_long p xs.length c s a h1 w hk
  have cA := fun W hW => awake5_calls W (hk.below hW)
  obtain ⟨t1, i1, er1, c1, k1⟩ := first_holds p xs c a m w hk hev hm hx hb (by omega) hc
  obtain ⟨X, i2, er2, hX, c4, k2⟩ := second_holds s (by omega) a m w hk hev hm
  have d1 : decide ((xs.length : Int) > 200) = false := decide_eq_false (by omega)
  have d2 : decide ((s.size : Int) > 300) = false := decide_eq_false (by omega)
  have hB := Below.refl w.heap.size w
  obtain ⟨L, hL⟩ : ∃ L, Hid (L = xs.length) := ⟨_, rfl⟩
  obtain ⟨M, hM⟩ : ∃ M, Hid (M = X.length) := ⟨_, rfl⟩
  have hL5 : Hid (L ≤ 65536) := by rw [hL.out]; exact (show xs.length ≤ 65536 by omega)
  have hM5 : Hid (M ≤ 65536) := by rw [hM.out]; exact (show X.length ≤ 65536 by omega)
  have f1 := True.intro
  have f4 := True.intro
  rw [← hL.out] at c1 k1 d1 ⊢
  rw [← hM.out] at c4 k2
  have hx2 : Hid (SlAt w p xs) := hx
  clear h1 hb hc hX hev hm hk hx
  rcases k1 with k1 | ⟨rfl, c2⟩ <;> rcases k2 with ⟨k2, k3⟩ | ⟨rfl, t3, j3, c5, c6⟩
  · have d3 : (er1 == 0) = false := beq_eq_false_iff_ne.2 k1
    have d4 : (er2 != 0) = true := by simpa using k2
    have d5 : ((M : Int) == 0) = true := beq_iff_eq.2 (by omega)
    clear k1 k2 k3
    go_enter Tryz.func5, Tryz.ntmps5
    go_wp2_with (first
      | (clear f1; go_at_call 16; refine (c1 _ hB).mono ?_; rintro e w1 ⟨rfl, hw1⟩; replace hB := stepB' hB hw1)
      | (clear f4; go_at_call 13; refine (c4 _ hB).mono ?_; rintro e w4 ⟨p4, k4, rfl, hk4, hs4, hw4⟩; replace hB := stepB' hB hw4)
      | (go_at_call 6; refine (cA _ hB).mono ?_; rintro e w9 ⟨rfl, hw9⟩; replace hB := stepB' hB hw9))
    go_ret
    exact ⟨rfl, hB⟩
  · have d3 : (er1 == 0) = false := beq_eq_false_iff_ne.2 k1
    clear k1
    have f5 := True.intro
    have f6 := True.intro
    by_cases hM0 : M = 0
    · have d5 : ((M : Int) == 0) = true := beq_iff_eq.2 (by omega)
      clear hM0
      go_enter Tryz.func5, Tryz.ntmps5
      go_wp2_with (first
        | (clear f1; go_at_call 16; refine (c1 _ hB).mono ?_; rintro e w1 ⟨rfl, hw1⟩; replace hB := stepB' hB hw1)
        | (clear f4; go_at_call 13; refine (c4 _ hB).mono ?_; rintro e w4 ⟨p4, k4, rfl, hk4, hs4, hw4⟩; replace hB := stepB' hB hw4)
        | (clear f5; go_at_call 16; refine (c5 _ _ _ hB hs4 hk4).mono ?_; rintro e w5 ⟨rfl, hw5⟩; replace hB := stepB' hB hw5; replace hs4 := hs4.below hw5)
        | (clear f6; go_at_call 13; refine (c6 _ hB).mono ?_; rintro e w6 ⟨p6, k6, rfl, hk6, hs6, hw6⟩; replace hB := stepB' hB hw6)
        | (go_at_call 6; refine (cA _ hB).mono ?_; rintro e w9 ⟨rfl, hw9⟩; replace hB := stepB' hB hw9))
      go_ret
      exact ⟨rfl, hB⟩
    · have d5 : ((M : Int) == 0) = false := beq_eq_false_iff_ne.2 (by omega)
      clear hM0
      go_enter Tryz.func5, Tryz.ntmps5
      go_wp2_with (first
        | (clear f1; go_at_call 16; refine (c1 _ hB).mono ?_; rintro e w1 ⟨rfl, hw1⟩; replace hB := stepB' hB hw1)
        | (clear f4; go_at_call 13; refine (c4 _ hB).mono ?_; rintro e w4 ⟨p4, k4, rfl, hk4, hs4, hw4⟩; replace hB := stepB' hB hw4)
        | (clear f5; go_at_call 16; refine (c5 _ _ _ hB hs4 hk4).mono ?_; rintro e w5 ⟨rfl, hw5⟩; replace hB := stepB' hB hw5; replace hs4 := hs4.below hw5)
        | (clear f6; go_at_call 13; refine (c6 _ hB).mono ?_; rintro e w6 ⟨p6, k6, rfl, hk6, hs6, hw6⟩; replace hB := stepB' hB hw6; have cc6 := cmp_sameW p4 p6 M k4 k6 X w6 hM.out hM5.out (hs4.below hw6) hs6)
        | (go_at_call 15; refine cc6.mono ?_; rintro e w7 ⟨rfl, hw7⟩; replace hB := stepB' hB hw7)
        | (go_at_call 6; refine (cA _ hB).mono ?_; rintro e w9 ⟨rfl, hw9⟩; replace hB := stepB' hB hw9))
      go_ret
      exact ⟨rfl, hB⟩
  · have d4 : (er2 != 0) = true := by simpa using k2
    have d5 : ((M : Int) == 0) = true := beq_iff_eq.2 (by omega)
    clear k2 k3
    have f2 := True.intro
    go_enter Tryz.func5, Tryz.ntmps5
    go_wp2_with (first
      | (clear f1; go_at_call 16; refine (c1 _ hB).mono ?_; rintro e w1 ⟨rfl, hw1⟩; replace hB := stepB' hB hw1)
      | (clear f2; go_at_call 13; refine (c2 _ hB).mono ?_; rintro e w2 ⟨p2, k2, rfl, hk2, hs2, hw2⟩; replace hB := stepB' hB hw2; have cc2 := cmp_sameW p2 p L k2 c xs w2 hL.out hL5.out hs2 (hx2.out.below hB))
      | (go_at_call 15; refine cc2.mono ?_; rintro e w3 ⟨rfl, hw3⟩; replace hB := stepB' hB hw3)
      | (clear f4; go_at_call 13; refine (c4 _ hB).mono ?_; rintro e w4 ⟨p4, k4, rfl, hk4, hs4, hw4⟩; replace hB := stepB' hB hw4)
      | (go_at_call 6; refine (cA _ hB).mono ?_; rintro e w9 ⟨rfl, hw9⟩; replace hB := stepB' hB hw9))
    go_ret
    exact ⟨rfl, hB⟩
  · have f2 := True.intro
    have f3 := True.intro
    have f5 := True.intro
    have f6 := True.intro
    by_cases hM0 : M = 0
    · have d5 : ((M : Int) == 0) = true := beq_iff_eq.2 (by omega)
      clear hM0
      go_enter Tryz.func5, Tryz.ntmps5
      go_wp2_with (first
        | (clear f1; go_at_call 16; refine (c1 _ hB).mono ?_; rintro e w1 ⟨rfl, hw1⟩; replace hB := stepB' hB hw1)
        | (clear f2; go_at_call 13; refine (c2 _ hB).mono ?_; rintro e w2 ⟨p2, k2, rfl, hk2, hs2, hw2⟩; replace hB := stepB' hB hw2; have cc2 := cmp_sameW p2 p L k2 c xs w2 hL.out hL5.out hs2 (hx2.out.below hB))
        | (clear f3; go_at_call 15; refine cc2.mono ?_; rintro e w3 ⟨rfl, hw3⟩; replace hB := stepB' hB hw3)
        | (clear f4; go_at_call 13; refine (c4 _ hB).mono ?_; rintro e w4 ⟨p4, k4, rfl, hk4, hs4, hw4⟩; replace hB := stepB' hB hw4)
        | (clear f5; go_at_call 16; refine (c5 _ _ _ hB hs4 hk4).mono ?_; rintro e w5 ⟨rfl, hw5⟩; replace hB := stepB' hB hw5; replace hs4 := hs4.below hw5)
        | (clear f6; go_at_call 13; refine (c6 _ hB).mono ?_; rintro e w6 ⟨p6, k6, rfl, hk6, hs6, hw6⟩; replace hB := stepB' hB hw6)
        | (go_at_call 6; refine (cA _ hB).mono ?_; rintro e w9 ⟨rfl, hw9⟩; replace hB := stepB' hB hw9))
      go_ret
      exact ⟨rfl, hB⟩
    · have d5 : ((M : Int) == 0) = false := beq_eq_false_iff_ne.2 (by omega)
      clear hM0
      go_enter Tryz.func5, Tryz.ntmps5
      go_wp2_with (first
        | (clear f1; go_at_call 16; refine (c1 _ hB).mono ?_; rintro e w1 ⟨rfl, hw1⟩; replace hB := stepB' hB hw1)
        | (clear f2; go_at_call 13; refine (c2 _ hB).mono ?_; rintro e w2 ⟨p2, k2, rfl, hk2, hs2, hw2⟩; replace hB := stepB' hB hw2; have cc2 := cmp_sameW p2 p L k2 c xs w2 hL.out hL5.out hs2 (hx2.out.below hB))
        | (clear f3; go_at_call 15; refine cc2.mono ?_; rintro e w3 ⟨rfl, hw3⟩; replace hB := stepB' hB hw3)
        | (clear f4; go_at_call 13; refine (c4 _ hB).mono ?_; rintro e w4 ⟨p4, k4, rfl, hk4, hs4, hw4⟩; replace hB := stepB' hB hw4)
        | (clear f5; go_at_call 16; refine (c5 _ _ _ hB hs4 hk4).mono ?_; rintro e w5 ⟨rfl, hw5⟩; replace hB := stepB' hB hw5; replace hs4 := hs4.below hw5)
        | (clear f6; go_at_call 13; refine (c6 _ hB).mono ?_; rintro e w6 ⟨p6, k6, rfl, hk6, hs6, hw6⟩; replace hB := stepB' hB hw6; have cc6 := cmp_sameW p4 p6 M k4 k6 X w6 hM.out hM5.out (hs4.below hw6) hs6)
        | (go_at_call 15; refine cc6.mono ?_; rintro e w7 ⟨rfl, hw7⟩; replace hB := stepB' hB hw7)
        | (go_at_call 6; refine (cA _ hB).mono ?_; rintro e w9 ⟨rfl, hw9⟩; replace hB := stepB' hB hw9))
      go_ret
      exact ⟨rfl, hB⟩
end Go.Proofs.YtadkilofkpmpgaaGreatDoor
namespace Go.Proofs.YtadkilofkpmpgaaGreatDoor
open Go
/-- internal/bytealg.MaxLen holds some number. -/
theorem maxLen_of {w : World} (h : w.ShapedOpen Tryz.prog) : ∃ m, w.cell? ⟨3, 0, none⟩ = some (.int .i64 m) :=
  Go.Proofs.cell_of_shapedOpen_int (zero := #[.int .i64 0]) (t := 3) h (of_decide_eq_true (by kernel_rfl)) (by kernel_rfl) rfl (by kernel_rfl) (by kernel_rfl) Tryz.underlying3
variable {H : Type} {enc : TypeId × Value → H}
/-- The wrap: the listed variables (X) and the world's shape are both handed on. -/
theorem handed_and_shaped {a : Assume} {C : Checked} {os : Os} {f : FuncId} {fn : Func} {s : ChangeSpec} {conds : List PathCond} {apart fresh handsOn again : Bool} {X : World → Array Value → Prop}
    (hX : ∀ (w w' : World) (args : Array Value), w.heap = w'.heap → X w args → X w' args)
    (own : ownKnob C.prog.godebug = none) (started : os.Started) (noInit : C.prog.inits.idxOf? f = none) (hfn : C.prog.funcs[f]? = some fn)
    (witness : ∃ (w : World) (tape : Tape) (i : Input), w.os = os ∧ (w.forCall tape i).Shaped C.prog ∧ i.vars = [] ∧ Input.okWide C.prog (w.forCall tape i) .any w.heap.size f i ∧
      ((s.pre enc C.prog fn conds apart (w.forCall tape i).memory i.args ∧ X (w.forCall tape i).memory i.args) ∧ sizedMet enc C.prog fn (OpenSpec.ofChange s) apart (w.forCall tape i).memory i.args) ∧ a.holds C.prog (lone (Frame.enter C.prog f i.args .normal) [] (w.forCall tape i)))
    (contract : ∀ (W : World) (base : Nat) (args : Array Value) (ds gs : List (DataW H)) (before : List MemPlace),
      (∀ (j : Nat) t v, fn.params[j]? = some t → args[j]? = some v → Value.okWide C.prog W .any base t v) →
      DataW.Whole enc C.prog fn.params.toList s.vars apart W args.toList ds gs before →
      W.ShapedOpen C.prog → X W args →
      Calls C.prog f args W fun e W' => ∃ v, e = .returned v ∧ s.post enc C.prog fn apart fresh handsOn again W args v W') :
    ReturnsInHanded a C os f .any (fun w args => (s.pre enc C.prog fn conds apart w args ∧ X w args) ∧ sizedMet enc C.prog fn (OpenSpec.ofChange s) apart w args) (s.post enc C.prog fn apart fresh handsOn again) := by
  refine returnsInHanded_of_calls own started noInit witness ?_
  intro w tape i _ hsh _ hok hpre _
  obtain ⟨_, _, _, fn', hfn', _, _, _, _, hval⟩ := hok
  obtain rfl : fn' = fn := Option.some.inj (hfn'.symm.trans hfn)
  obtain ⟨⟨⟨ds, gs, before, hw, _⟩, hx⟩, _⟩ := hpre
  refine (contract (w.forCall tape i) w.heap.size i.args ds gs before hval (DataW.Whole.of_heap (w' := w.forCall tape i) (by rfl) hw) hsh (hX _ _ _ (by rfl) hx)).mono fun e W' ⟨v, he, hp⟩ => ?_
  subst he
  exact ChangeSpec.post_blind hp
end Go.Proofs.YtadkilofkpmpgaaGreatDoor
namespace Go.Proofs.YtadkilofkpmpgaaGreatDoor
open Go Go.ChangeShapes Go.WideShapes Go.ChangeAt Go.RowKit
theorem trod_itf {H : Type} {enc : TypeId × Value → H} {P : Program} {w : World} {base : Nat} {sp : Nat → Bool} {held : Bool} {fuel : Nat} {t : TypeId} {ms : Array (String × TypeId)} {cs : List Value} {x : DataW H × List MemPlace}
    (ht : P.underlying t = some (.interface ms)) (h : DataW.trod enc P w base sp held fuel t cs = some x) : ∃ ev, cs = [ev] ∧ (ev = .nilIface ∨ ∃ te pe, ev = .iface te pe) := by
  cases fuel with
  | zero => simp [DataW.trod] at h
  | succ n =>
    unfold DataW.trod at h
    rw [ht] at h
    rcases cs with _ | ⟨v, _ | ⟨v2, r⟩⟩
    · simp at h
    · cases v <;> first | exact ⟨_, rfl, .inl rfl⟩ | exact ⟨_, rfl, .inr ⟨_, _, rfl⟩⟩ | (simp at h)
    · cases v <;> simp at h
theorem gErr : Tryz.prog.globalNamed "strconv.ErrSyntax" = some 6 := by kernel_rfl
theorem tErr : ∃ t ms, (Tryz.prog.globals[6]?).map (·.type) = some t ∧ Tryz.prog.underlying t = some (.interface ms) := ⟨83, _, by kernel_rfl, Tryz.underlying83⟩
/-- What the condition gives of the error's variable. -/
theorem errV_of {W : World} {laid : List (String × DataW Unit)} (h : laidMetH Tryz.prog laid W) (hh : (laid.all fun x => x.2.handleName?.isNone) = true) (i : Nat) (hi : laid[i]? = some ("strconv.ErrSyntax", Rows.laid_strconv_ErrSyntax)) : ErrV W := by
  rw [MakeChecks.laidMetH_plain _ _ _ hh] at h
  obtain ⟨ps, hp, _⟩ := h
  obtain ⟨g, t, cs, fuel, p, hg, ht, hv, hd⟩ := laidVars_mem hp _ (List.mem_of_getElem? hi)
  obtain rfl := Option.some.inj (gErr.symm.trans hg)
  obtain ⟨t', ms, ht', hu⟩ := tErr
  obtain rfl := Option.some.inj (ht'.symm.trans ht)
  obtain ⟨ev, hcs, hev⟩ := trod_itf hu hd
  refine ⟨ev, ?_, hev⟩
  rw [World.var?_cell hg hv 0, ← Array.getElem?_toList, hcs]
  rfl
end Go.Proofs.YtadkilofkpmpgaaGreatDoor
namespace Go.Proofs.YtadkilofkpmpgaaGreatDoor.whole
open Go Go.ChangeShapes Go.WideShapes Go.ChangeAt Go.RowKit
abbrev laid : List (String × DataW Unit) := Rows.asmWholeRow.laid
theorem laidOut : laidOutB Tryz.prog = true := by kernel_rfl
set_option maxRecDepth 100000 in
theorem lifted (os : Os) (started : os.Started) (H : Type) (enc : TypeId × Value → H) :
    ReturnsInHanded {} Tryz.checked os 5 .any (fun w args => (Rows.asmWholeSpec.pre enc Tryz.prog Tryz.f5 [] false w args ∧ laidMetH Tryz.prog laid w) ∧ sizedMet enc Tryz.prog Tryz.f5 (OpenSpec.ofChange Rows.asmWholeSpec) false w args)
      (Rows.asmWholeSpec.post enc Tryz.prog Tryz.f5 false true false false) := by
  refine handed_and_shaped (C := Tryz.checked) (X := fun w _ => laidMetH Tryz.prog laid w) (fun _ _ _ hh h => h.of_heap hh) own started (by kernel_rfl) Tryz.func5
    (ChangeSpec.witness_shaped (enc := enc) (C := Tryz.checked) (os := os) (X := fun w _ => laidMetH Tryz.prog laid w) false (World.laidAll Tryz.prog os laid) #[.slice none 0 0, .string ⟨#[]⟩, .int .i64 0] 8 (World.laidAll_os _ _ _)
      (World.shaped_of_ZipB (by kernel_rfl) (by kernel_rfl)) (by kernel_rfl) (by kernel_rfl) (by kernel_rfl)
      (by rw [MakeChecks.laidMetH_plain _ _ _ (by kernel_rfl)]; exact laidMet_laidAll _ (by kernel_rfl) (by kernel_rfl))) ?_
  intro W base args ds gs before hval0 hW hsh hL
  have hval : ∀ (j : Nat) t v, Tryz.f5.params[j]? = some t → args[j]? = some v → Value.okWide Tryz.prog W .any base t v := hval0
  have hW' := hW
  obtain ⟨p, q, hA0, hV, rfl, hfz, hnd⟩ := hW
  have hA : DataW.TrodAll enc Tryz.prog W 0 (fun _ => true) true Tryz.f5.params.toList args.toList ds p := hA0
  rw [Tryz.params5] at hA hval
  obtain ⟨v0, v1, v2, d0, d1, d2, p0, p1, p2, rfl, rfl, rfl, h0, h1, h2⟩ := trodAll_three hA
  obtain ⟨rfl, rfl⟩ := trodVars_none hV
  obtain ⟨sp, cap, xs, rfl, hx, hxb, hxc, _, _⟩ := open_bytes (hval 0 38 v0 rfl rfl) h0
  obtain ⟨s, rfl⟩ := okWide_string Tryz.underlying9 (hval 1 9 v1 rfl rfl)
  obtain ⟨t, rfl, rfl, rfl, wt⟩ := open_int Tryz.underlying3 (hval 2 3 v2 rfl rfl) h2
  obtain ⟨m, hm⟩ := maxLen_of hsh
  clear hA0 hval0
  simp only [List.append_nil] at hW'
  have hlt : ∀ x ∈ p0, x.block < W.heap.size := fun x hx => by simpa using hW'.lt x (by simp [hx])
  have hlt1 : ∀ x ∈ p1, x.block < W.heap.size := fun x hx => by simpa using hW'.lt x (by simp [hx])
  refine (whole_calls sp xs cap s t m W (knows5_of hL (by kernel_rfl) 6 1 rfl rfl) (errV_of hL (by kernel_rfl) 5 rfl) hm hx hxb hxc).mono fun e W' ⟨he, hB⟩ => ?_
  subst he
  exact ⟨_, rfl, post_below (pa := p0 ++ p1) (pv := []) hW' (fun _ _ _ => trodAll_mk1 (shut_bool Tryz.underlying4 _))
    (by
      have hh := trodAll_mk3 (enc := enc) (P := Tryz.prog) (w := W') (base := 0) (spare := fun b => decide (b < W.heap.size)) (held := true) (Below.trod laidOut (by kernel_rfl) (of_decide_eq_true (by kernel_rfl)) h0 hB hlt) (Below.trod laidOut (by kernel_rfl) (of_decide_eq_true (by kernel_rfl)) h1 hB hlt1) (shut_int Tryz.underlying3 wt)
      simp only [List.append_nil] at hh
      exact hh) rfl hB⟩

theorem row_holds : Rows.AsmWholeSaid :=
  OpenClaim.holds_of_wide 5 Tryz.f5 rfl rfl rfl rfl rfl rfl rfl ⟨rfl, rfl, rfl, rfl, rfl⟩ rfl rfl rfl rfl rfl (by kernel_rfl) Tryz.func5 (by kernel_rfl)
    (of_decide_eq_true (by kernel_rfl)) (by unfold Func.isWrapper; first | (rw [if_pos (by decide +kernel)]; kernel_rfl) | (rw [if_neg (by decide +kernel)]; exact ⟨rfl, rfl⟩))
    (fun os started H enc _ => lifted os started H enc)

/-- The tied card: the row's listed variables are tied to the program's text. -/
theorem card_holds : Rows.AsmWholeCardSaid :=
  Claim7.holds_tied_plain_at .later [] [.data, .data, .data, .data, .sentinel, .sentinel, .data, .pinned, .pinned] true Rows.asmWholeCard.stood.harness Rows.asmWholeCard.stood.looks
    row_holds (fun _ h => by cases h) (by kernel_rfl) (fun _ h => by cases h) asmWhole_row_tie rfl ⟨rfl, rfl⟩ (by kernel_rfl) rfl
    (fun f fn hf hfn => by
      obtain rfl : f = 5 := Option.some.inj ((show Tryz.prog.funcNamed "cochineal/cochineallaw05.AsmWhole" = some 5 by kernel_rfl).symm.trans hf) |>.symm
      obtain rfl : fn = Tryz.f5 := (Option.some.inj (Tryz.func5.symm.trans hfn)).symm
      exact ⟨by kernel_rfl, fun j t ht => by
        rw [Tryz.params5] at ht
        have hm : t ∈ [38, 9, 3] := by simpa using Array.mem_of_getElem? ht
        have hall : ([38, 9, 3].all fun u => !Tryz.prog.wantsStandIn u) = true := by kernel_rfl
        exact (show Tryz.prog.wantsStandIn t = false by simpa using List.all_eq_true.1 hall t hm)⟩)
    (by kernel_rfl)
#print axioms card_holds
end Go.Proofs.YtadkilofkpmpgaaGreatDoor.whole
