/- The statement of 'AsmTexts': at any text and any address it answers true, the listed variables reading as the program's text lays them. 'cochinealref05.Bytes': where nothing is wrong, and where a branch is too far. 'cochinealref05.Bytes': its contract: it answers as 'asm.Bytes' does. The two 'Bytes's, the two 'Read's: one answer each, whatever is wrong. A text's lines: strings.Split at '\n' and the reference's. 'asm.Assemble': what it answers, and its walk. 'asm.Assemble' at every text of at most 65536 bytes. 'ref05.Lines': a text's lines. 'ref05.Assemble' at every text of at most 65536 bytes. 'AsmTexts' answers true. A row's wrap with both the listed variables and the world's shape; internal/bytealg.MaxLen by the shape. The error's variable, where the listed variables read as the program's text lays them. -/
import Derived.Test.YtadkilofkpmpgaaGreatDoorWr
import Derived.WalkKit
import Derived.OwnWalk
import Derived.Maps.AppendAt
import Derived.Deep.Cut
import Derived.Test.YtadkilofkpmpgaaGreatDoorMovP
import Derived.Test.YtadkilofkpmpgaaGreatDoorLsP
import Derived.Test.YtadkilofkpmpgaaGreatDoorShf
import Derived.Lib.Split
import Derived.Lib.SplitLaws
import Derived.Test.YtadkilofkpmpgaaGreatDoorLawPm
import Derived.WalkMore
import Derived.Laws.DeepStrings4
import Derived.Test.YtadkilofkpmpgaaGreatDoorProg
import Derived.HandedShaped
import Derived.Shelf.Vars
import Derived.Test.YtadkilofkpmpgaaGreatDoorKn5
import Derived.Test.YtadkilofkpmpgaaGreatDoorPuP
import Derived.Test.YtadkilofkpmpgaaGreatDoorArg
import Derived.Test.YtadkilofkpmpgaaGreatDoorCards
import Derived.Test.YtadkilofkpmpgaaGreatDoorTie
import Derived.SevenTiedAt
import Derived.Stop.Joined
namespace Go.Proofs.YtadkilofkpmpgaaGreatDoor
open Go Go.RowKit
set_option maxRecDepth 100000
set_option maxHeartbeats 1600000 in
theorem rb_1 (x n a r m : Int) (h0 : 0 ≤ x) (h1 : x < 256) (hf : fnd x = (r, m)) (hw : wrongI x n = 0) (hz : lenM m = 1) (h12 : ¬ m = 12) (a0 : 0 ≤ a) (a1 : a + 1 ≤ 65536) (w : World) :
    Calls Tryz.prog 35 #[.agg #[.int .i64 x, .int .i64 n], .int .i64 a] w fun e w' => ∃ v, e = .returned (.tuple #[v, .int .i64 0]) ∧ w'.ownsRow w.heap.size 5 1 v 1 [.int .u8 x] ∧ Below w.heap.size w w' := by
  have c1 := fun W => wrong_calls x n h0 h1 W
  have c2 := fun W => find_calls x W
  have c3 := fun W => rlen_calls m W
  rw [hw] at c1
  rw [hf] at c2
  rw [hz] at c3
  have hB := (Below.refl w.heap.size w).alloc (Nat.le_refl _) (.cells #[.int .i64 x, .int .i64 n] 30)
  have hbx : boxAt (w.alloc (.cells #[.int .i64 x, .int .i64 n] 30)) w.heap.size [.int .i64 x, .int .i64 n] 30 := by
    unfold boxAt; rw [heap_alloc_new]
  have d1 : decide (a < 0) = false := decide_eq_false (by omega)
  have d2 : decide (a > 65535) = false := decide_eq_false (by omega)
  have d3 : (m == 12) = false := beq_eq_false_iff_ne.2 h12
  have w1 : wrap64 (a + 1) = a + 1 := by unfold wrap64; omega
  have d4 : decide (a + 1 > 65536) = false := decide_eq_false (by omega)
  have x8 : x % 256 = x := by omega
  clear h0 h1 hf hw hz h12 a0 a1
  go_enter Tryz.func35, Tryz.ntmps35
  go_wp2_with (first
    | (go_at_call 8; refine (c1 _).mono ?_; rintro e w2 ⟨rfl, hw2⟩; replace hB := stepB' hB hw2; replace hbx := hbx.below hw2; have q0 := hbx.cell 0; have q1 := hbx.cell 1)
    | (go_at_call 22; refine (c2 _).mono ?_; rintro e w3 ⟨rfl, hw3⟩; replace hB := stepB' hB hw3; replace hbx := hbx.below hw3; have q0 := hbx.cell 0; have q1 := hbx.cell 1)
    | (go_at_call 63; refine (c3 _).mono ?_; rintro e w4 ⟨rfl, hw4⟩; replace hB := stepB' hB hw4; replace hbx := hbx.below hw4; have q0 := hbx.cell 0; have q1 := hbx.cell 1))
  go_ret2
  exact ⟨_, rfl, ⟨by simp, .inr ⟨w4.heap.size, 1, #[.int .u8 x], rfl, hB.size, by rw [heap_alloc_new], Nat.le_refl _, by decide, by simp, by simp⟩⟩, hB.alloc hB.size _⟩
set_option maxHeartbeats 1600000 in
theorem rb_2 (x n a r m : Int) (h0 : 0 ≤ x) (h1 : x < 256) (hf : fnd x = (r, m)) (hw : wrongI x n = 0) (hz : lenM m = 2) (h12 : ¬ m = 12) (n0 : 0 ≤ n) (n1 : n < 256) (a0 : 0 ≤ a) (a1 : a + 2 ≤ 65536) (w : World) :
    Calls Tryz.prog 35 #[.agg #[.int .i64 x, .int .i64 n], .int .i64 a] w fun e w' => ∃ v, e = .returned (.tuple #[v, .int .i64 0]) ∧ w'.ownsRow w.heap.size 5 1 v 2 [.int .u8 x, .int .u8 n] ∧ Below w.heap.size w w' := by
  have c1 := fun W => wrong_calls x n h0 h1 W
  have c2 := fun W => find_calls x W
  have c3 := fun W => rlen_calls m W
  rw [hw] at c1
  rw [hf] at c2
  rw [hz] at c3
  have hB := (Below.refl w.heap.size w).alloc (Nat.le_refl _) (.cells #[.int .i64 x, .int .i64 n] 30)
  have hbx : boxAt (w.alloc (.cells #[.int .i64 x, .int .i64 n] 30)) w.heap.size [.int .i64 x, .int .i64 n] 30 := by
    unfold boxAt; rw [heap_alloc_new]
  have d1 : decide (a < 0) = false := decide_eq_false (by omega)
  have d2 : decide (a > 65535) = false := decide_eq_false (by omega)
  have d3 : (m == 12) = false := beq_eq_false_iff_ne.2 h12
  have w1 : wrap64 (a + 2) = a + 2 := by unfold wrap64; omega
  have d4 : decide (a + 2 > 65536) = false := decide_eq_false (by omega)
  have x8 : x % 256 = x := by omega
  have n8 : n % 256 = n := by omega
  have n9 : n.tmod 256 = n := by rw [Int.tmod_eq_emod_of_nonneg n0]; exact n8
  clear n0 n1 h0 h1 hf hw hz h12 a0 a1
  go_enter Tryz.func35, Tryz.ntmps35
  obtain ⟨i0, hi, hz0, hz1, hz2⟩ := info_parts (show (Tryz.prog.info? 5).map (fun i => (i.zero, i.size, i.bytes)) = some (some (.int .u8 0), 1, 1) by kernel_rfl)
  go_upto_region 14 with (first
    | (go_at_call 8; refine (c1 _).mono ?_; rintro e w2 ⟨rfl, hw2⟩; replace hB := stepB' hB hw2; replace hbx := hbx.below hw2; have q0 := hbx.cell 0; have q1 := hbx.cell 1)
    | (go_at_call 22; refine (c2 _).mono ?_; rintro e w3 ⟨rfl, hw3⟩; replace hB := stepB' hB hw3; replace hbx := hbx.below hw3; have q0 := hbx.cell 0; have q1 := hbx.cell 1)
    | (go_at_call 63; refine (c3 _).mono ?_; rintro e w4 ⟨rfl, hw4⟩; replace hB := stepB' hB hw4; replace hbx := hbx.below hw4; have q0 := hbx.cell 0; have q1 := hbx.cell 1))
  have hB5 := hB.alloc hB.size (.cells #[.int .u8 x] 5)
  have hown : (w4.alloc (.cells #[.int .u8 x] 5)).ownsRow w.heap.size 5 1 (.slice (some ⟨w4.heap.size, 0, none⟩) 1 1) 1 [.int .u8 x] :=
    ⟨by simp, .inr ⟨w4.heap.size, 1, #[.int .u8 x], rfl, hB.size, by rw [heap_alloc_new], Nat.le_refl _, by decide, by simp, by simp⟩⟩
  have hB6 := (hB.alloc hB.size (.cells #[.int .u8 x] 5)).size
  have q5 := (hbx.alloc (.cells #[.int .u8 x] 5)).cell 1
  generalize w4.alloc (.cells #[.int .u8 x] 5) = W5 at hB5 hB6 hown q5 ⊢
  clear q0 q1 hbx hB hw2 hw3 hw4 c1 c2 c3
  go_wp2_with (at_builtin; refine wpList_append_own _ rfl _ _ 38 rfl w.heap.size 5 i0 (.int .u8 0) 1 1 Tryz.underlying38 hi hz0 hz1 hz2 rfl (by decide) _ _ _ rfl (hown.alloc _) ⟨W5.heap.size, 0, none⟩ 1 1 [.int .u8 n] rfl rfl (cell_one_new _ _ _) (by simp [Value.oneCell']) (by decide) (by decide) (by simp; omega) ?_; intro v' w7 hown' hgrow _)
  have hB7 := (hB5.alloc hB6 _).grown hgrow (by simp; omega) (fun k hk => (hown.lt k hk).1)
  go_ret2
  exact ⟨_, rfl, by simpa using hown', hB7⟩
set_option maxHeartbeats 1600000 in
theorem rb_3 (x n a r m : Int) (h0 : 0 ≤ x) (h1 : x < 256) (hf : fnd x = (r, m)) (hw : wrongI x n = 0) (hz : lenM m = 3) (h12 : ¬ m = 12) (n0 : 0 ≤ n) (n1 : n < 65536) (a0 : 0 ≤ a) (a1 : a + 3 ≤ 65536) (w : World) :
    Calls Tryz.prog 35 #[.agg #[.int .i64 x, .int .i64 n], .int .i64 a] w fun e w' => ∃ v, e = .returned (.tuple #[v, .int .i64 0]) ∧ w'.ownsRow w.heap.size 5 1 v 3 [.int .u8 x, .int .u8 (n % 256), .int .u8 (n / 256)] ∧ Below w.heap.size w w' := by
  have c1 := fun W => wrong_calls x n h0 h1 W
  have c2 := fun W => find_calls x W
  have c3 := fun W => rlen_calls m W
  rw [hw] at c1
  rw [hf] at c2
  rw [hz] at c3
  have hB := (Below.refl w.heap.size w).alloc (Nat.le_refl _) (.cells #[.int .i64 x, .int .i64 n] 30)
  have hbx : boxAt (w.alloc (.cells #[.int .i64 x, .int .i64 n] 30)) w.heap.size [.int .i64 x, .int .i64 n] 30 := by
    unfold boxAt; rw [heap_alloc_new]
  have d1 : decide (a < 0) = false := decide_eq_false (by omega)
  have d2 : decide (a > 65535) = false := decide_eq_false (by omega)
  have d3 : (m == 12) = false := beq_eq_false_iff_ne.2 h12
  have w1 : wrap64 (a + 3) = a + 3 := by unfold wrap64; omega
  have d4 : decide (a + 3 > 65536) = false := decide_eq_false (by omega)
  have x8 : x % 256 = x := by omega
  have n8 : n % 256 % 256 = n % 256 := by omega
  have n9 : n.tmod 256 = n % 256 := Int.tmod_eq_emod_of_nonneg n0
  have n10 : n.tdiv 256 = n / 256 := Int.tdiv_eq_ediv_of_nonneg n0
  have n11 : n / 256 % 256 = n / 256 := by omega
  generalize n % 256 = lo at n8 n9 ⊢
  generalize n / 256 = hi8 at n10 n11 ⊢
  clear n0 n1 h0 h1 hf hw hz h12 a0 a1
  go_enter Tryz.func35, Tryz.ntmps35
  obtain ⟨i0, hi, hz0, hz1, hz2⟩ := info_parts (show (Tryz.prog.info? 5).map (fun i => (i.zero, i.size, i.bytes)) = some (some (.int .u8 0), 1, 1) by kernel_rfl)
  go_upto_region 14 with (first
    | (go_at_call 8; refine (c1 _).mono ?_; rintro e w2 ⟨rfl, hw2⟩; replace hB := stepB' hB hw2; replace hbx := hbx.below hw2; have q0 := hbx.cell 0; have q1 := hbx.cell 1)
    | (go_at_call 22; refine (c2 _).mono ?_; rintro e w3 ⟨rfl, hw3⟩; replace hB := stepB' hB hw3; replace hbx := hbx.below hw3; have q0 := hbx.cell 0; have q1 := hbx.cell 1)
    | (go_at_call 63; refine (c3 _).mono ?_; rintro e w4 ⟨rfl, hw4⟩; replace hB := stepB' hB hw4; replace hbx := hbx.below hw4; have q0 := hbx.cell 0; have q1 := hbx.cell 1))
  have hB5 := hB.alloc hB.size (.cells #[.int .u8 x] 5)
  have hown : (w4.alloc (.cells #[.int .u8 x] 5)).ownsRow w.heap.size 5 1 (.slice (some ⟨w4.heap.size, 0, none⟩) 1 1) 1 [.int .u8 x] :=
    ⟨by simp, .inr ⟨w4.heap.size, 1, #[.int .u8 x], rfl, hB.size, by rw [heap_alloc_new], Nat.le_refl _, by decide, by simp, by simp⟩⟩
  have hB6 := (hB.alloc hB.size (.cells #[.int .u8 x] 5)).size
  have q5 := (hbx.alloc (.cells #[.int .u8 x] 5)).cell 1
  generalize w4.alloc (.cells #[.int .u8 x] 5) = W5 at hB5 hB6 hown q5 ⊢
  have hN : w.heap.size < w4.heap.size := by
    have z2 := hw2.size
    have z3 := hw3.size
    have z4 := hw4.size
    simp at z2
    omega
  have q6 : (W5.alloc (.cells #[.int .u8 lo] 5)).cell? ⟨w.heap.size, 1, none⟩ = some (.int .i64 n) :=
    (((Below.refl W5.heap.size W5).alloc (Nat.le_refl _) (.cells #[.int .u8 lo] 5)).cell (p := ⟨w.heap.size, 1, none⟩) (World.block_lt_of_cell? W5 _ q5)).trans q5
  clear q0 q1 hbx hB hw2 hw3 hw4 c1 c2 c3
  go_upto_region 16 with (at_builtin; refine wpList_append_own _ rfl _ _ 38 rfl w.heap.size 5 i0 (.int .u8 0) 1 1 Tryz.underlying38 hi hz0 hz1 hz2 rfl (by decide) _ _ _ rfl (hown.alloc _) ⟨W5.heap.size, 0, none⟩ 1 1 [.int .u8 lo] rfl rfl (cell_one_new _ _ _) (by simp [Value.oneCell']) (by decide) (by decide) (by simp; omega) ?_; intro v' w7 hown' hgrow _)
  have hB7 := (hB5.alloc hB6 _).grown hgrow (by simp; omega) (fun k hk => (hown.lt k hk).1)
  have q7 : w7.cell? ⟨w.heap.size, 1, none⟩ = some (.int .i64 n) := by
    rw [World.cell?_of_block (w := W5.alloc (.cells #[.int .u8 lo] 5)) (a := ⟨w.heap.size, 1, none⟩) (hgrow.block w.heap.size (by simp; omega) (fun e => by
      have e' : some w.heap.size = some w4.heap.size := e
      simp at e'
      omega))]
    exact q6
  have hB8 := hB7.size
  clear hgrow hown q5 q6 hB5 hB6
  go_wp2_with (at_builtin; refine wpList_append_own _ rfl _ _ 38 rfl w.heap.size 5 i0 (.int .u8 0) 1 1 Tryz.underlying38 hi hz0 hz1 hz2 rfl (by decide) _ _ _ rfl (hown'.alloc _) ⟨w7.heap.size, 0, none⟩ 1 1 [.int .u8 hi8] rfl rfl (cell_one_new _ _ _) (by simp [Value.oneCell']) (by decide) (by decide) (by simp; omega) ?_; intro v2 w9 hown2 hgrow2 _)
  have hB9 := (hB7.alloc hB8 _).grown hgrow2 (by simp; omega) (fun k hk => (hown'.lt k hk).1)
  go_ret2
  exact ⟨_, rfl, by simpa using hown2, hB9⟩
set_option maxHeartbeats 1600000 in
theorem rb_r (x n a r m : Int) (h0 : 0 ≤ x) (h1 : x < 256) (hf : fnd x = (r, m)) (hw : wrongI x n = 0) (hz : lenM m = 2) (h12 : m = 12) (_n0 : 0 ≤ n) (_n1 : n < 65536) (nr : -128 ≤ n - (a + 2) ∧ n - (a + 2) < 128) (a0 : 0 ≤ a) (a1 : a + 2 ≤ 65536) (w : World) :
    Calls Tryz.prog 35 #[.agg #[.int .i64 x, .int .i64 n], .int .i64 a] w fun e w' => ∃ v, e = .returned (.tuple #[v, .int .i64 0]) ∧ w'.ownsRow w.heap.size 5 1 v 2 [.int .u8 x, .int .u8 ((n - (a + 2)) % 256)] ∧ Below w.heap.size w w' := by
  have c1 := fun W => wrong_calls x n h0 h1 W
  have c2 := fun W => find_calls x W
  have c3 := fun W => rlen_calls m W
  rw [hw] at c1
  rw [hf] at c2
  rw [hz] at c3
  have hB := (Below.refl w.heap.size w).alloc (Nat.le_refl _) (.cells #[.int .i64 x, .int .i64 n] 30)
  have hbx : boxAt (w.alloc (.cells #[.int .i64 x, .int .i64 n] 30)) w.heap.size [.int .i64 x, .int .i64 n] 30 := by
    unfold boxAt; rw [heap_alloc_new]
  have d1 : decide (a < 0) = false := decide_eq_false (by omega)
  have d2 : decide (a > 65535) = false := decide_eq_false (by omega)
  have d3 : (m == 12) = true := beq_iff_eq.2 h12
  have w1 : wrap64 (a + 2) = a + 2 := by unfold wrap64; omega
  have d4 : decide (a + 2 > 65536) = false := decide_eq_false (by omega)
  have x8 : x % 256 = x := by omega
  have w2 : wrap64 (n - a) = n - a := by unfold wrap64; omega
  have w3 : wrap64 (n - a - 2) = n - a - 2 := by unfold wrap64; omega
  have w4 : wrap64 (n - a - 2 + 256) = n - a - 2 + 256 := by unfold wrap64; omega
  have d5 : decide (n - a - 2 < -128) = false := decide_eq_false (by omega)
  have d6 : decide (n - a - 2 > 127) = false := decide_eq_false (by omega)
  have n8 : (n - (a + 2)) % 256 % 256 = (n - (a + 2)) % 256 := by omega
  have n9 : (n - a - 2 + 256).tmod 256 = (n - (a + 2)) % 256 := by rw [Int.tmod_eq_emod_of_nonneg (by omega)]; omega
  generalize (n - (a + 2)) % 256 = y at n8 n9 ⊢
  clear nr _n0 _n1 h0 h1 hf hw hz h12 a0 a1
  go_enter Tryz.func35, Tryz.ntmps35
  obtain ⟨i0, hi, hz0, hz1, hz2⟩ := info_parts (show (Tryz.prog.info? 5).map (fun i => (i.zero, i.size, i.bytes)) = some (some (.int .u8 0), 1, 1) by kernel_rfl)
  go_upto_region 10 with (first
    | (go_at_call 8; refine (c1 _).mono ?_; rintro e w2 ⟨rfl, hw2⟩; replace hB := stepB' hB hw2; replace hbx := hbx.below hw2; have q0 := hbx.cell 0; have q1 := hbx.cell 1)
    | (go_at_call 22; refine (c2 _).mono ?_; rintro e w3 ⟨rfl, hw3⟩; replace hB := stepB' hB hw3; replace hbx := hbx.below hw3; have q0 := hbx.cell 0; have q1 := hbx.cell 1)
    | (go_at_call 63; refine (c3 _).mono ?_; rintro e w4 ⟨rfl, hw4⟩; replace hB := stepB' hB hw4; replace hbx := hbx.below hw4; have q0 := hbx.cell 0; have q1 := hbx.cell 1))
  have hB5 := hB.alloc hB.size (.cells #[.int .u8 x] 5)
  have hown : (w4.alloc (.cells #[.int .u8 x] 5)).ownsRow w.heap.size 5 1 (.slice (some ⟨w4.heap.size, 0, none⟩) 1 1) 1 [.int .u8 x] :=
    ⟨by simp, .inr ⟨w4.heap.size, 1, #[.int .u8 x], rfl, hB.size, by rw [heap_alloc_new], Nat.le_refl _, by decide, by simp, by simp⟩⟩
  have hB6 := (hB.alloc hB.size (.cells #[.int .u8 x] 5)).size
  have q5 := (hbx.alloc (.cells #[.int .u8 x] 5)).cell 1
  generalize w4.alloc (.cells #[.int .u8 x] 5) = W5 at hB5 hB6 hown q5 ⊢
  clear q0 q1 hbx hB hw2 hw3 hw4 c1 c2 c3
  go_wp2_with (at_builtin; refine wpList_append_own _ rfl _ _ 38 rfl w.heap.size 5 i0 (.int .u8 0) 1 1 Tryz.underlying38 hi hz0 hz1 hz2 rfl (by decide) _ _ _ rfl (hown.alloc _) ⟨W5.heap.size, 0, none⟩ 1 1 [.int .u8 y] rfl rfl (cell_one_new _ _ _) (by simp [Value.oneCell']) (by decide) (by decide) (by simp; omega) ?_; intro v' w7 hown' hgrow _)
  have hB7 := (hB5.alloc hB6 _).grown hgrow (by simp; omega) (fun k hk => (hown.lt k hk).1)
  go_ret2
  exact ⟨_, rfl, by simpa using hown', hB7⟩
set_option maxHeartbeats 1600000 in
theorem rb_x (x n a r m : Int) (h0 : 0 ≤ x) (h1 : x < 256) (hf : fnd x = (r, m)) (hw : wrongI x n = 0) (hz : lenM m = 2) (h12 : m = 12) (n0 : 0 ≤ n) (n1 : n < 65536) (nr : n - (a + 2) < -128 ∨ 128 ≤ n - (a + 2)) (a0 : 0 ≤ a) (a1 : a + 2 ≤ 65536) (w : World) :
    Calls Tryz.prog 35 #[.agg #[.int .i64 x, .int .i64 n], .int .i64 a] w fun e w' => e = .returned (.tuple #[.slice none 0 0, .int .i64 10]) ∧ Below w.heap.size w w' := by
  have c1 := fun W => wrong_calls x n h0 h1 W
  have c2 := fun W => find_calls x W
  have c3 := fun W => rlen_calls m W
  rw [hw] at c1
  rw [hf] at c2
  rw [hz] at c3
  have hB := (Below.refl w.heap.size w).alloc (Nat.le_refl _) (.cells #[.int .i64 x, .int .i64 n] 30)
  have hbx : boxAt (w.alloc (.cells #[.int .i64 x, .int .i64 n] 30)) w.heap.size [.int .i64 x, .int .i64 n] 30 := by
    unfold boxAt; rw [heap_alloc_new]
  have d1 : decide (a < 0) = false := decide_eq_false (by omega)
  have d2 : decide (a > 65535) = false := decide_eq_false (by omega)
  have d3 : (m == 12) = true := beq_iff_eq.2 h12
  have w1 : wrap64 (a + 2) = a + 2 := by unfold wrap64; omega
  have d4 : decide (a + 2 > 65536) = false := decide_eq_false (by omega)
  have x8 : x % 256 = x := by omega
  have w2 : wrap64 (n - a) = n - a := by unfold wrap64; omega
  have w3 : wrap64 (n - a - 2) = n - a - 2 := by unfold wrap64; omega
  by_cases nl : n - a - 2 < -128
  · have d5 : decide (n - a - 2 < -128) = true := decide_eq_true nl
    clear nl nr n0 n1 h0 h1 hf hw hz h12 a0 a1
    go_enter Tryz.func35, Tryz.ntmps35
    go_wp2_with (first
      | (go_at_call 8; refine (c1 _).mono ?_; rintro e w2 ⟨rfl, hw2⟩; replace hB := stepB' hB hw2; replace hbx := hbx.below hw2; have q0 := hbx.cell 0; have q1 := hbx.cell 1)
      | (go_at_call 22; refine (c2 _).mono ?_; rintro e w3 ⟨rfl, hw3⟩; replace hB := stepB' hB hw3; replace hbx := hbx.below hw3; have q0 := hbx.cell 0; have q1 := hbx.cell 1)
      | (go_at_call 63; refine (c3 _).mono ?_; rintro e w4 ⟨rfl, hw4⟩; replace hB := stepB' hB hw4; replace hbx := hbx.below hw4; have q0 := hbx.cell 0; have q5 := (hbx.alloc (.cells #[.int .u8 x] 5)).cell 1))
    go_ret2
    exact ⟨rfl, hB.alloc hB.size _⟩
  · have d5 : decide (n - a - 2 < -128) = false := decide_eq_false nl
    have d6 : decide (n - a - 2 > 127) = true := decide_eq_true (by omega)
    clear nl nr n0 n1 h0 h1 hf hw hz h12 a0 a1
    go_enter Tryz.func35, Tryz.ntmps35
    go_wp2_with (first
      | (go_at_call 8; refine (c1 _).mono ?_; rintro e w2 ⟨rfl, hw2⟩; replace hB := stepB' hB hw2; replace hbx := hbx.below hw2; have q0 := hbx.cell 0; have q1 := hbx.cell 1)
      | (go_at_call 22; refine (c2 _).mono ?_; rintro e w3 ⟨rfl, hw3⟩; replace hB := stepB' hB hw3; replace hbx := hbx.below hw3; have q0 := hbx.cell 0; have q1 := hbx.cell 1)
      | (go_at_call 63; refine (c3 _).mono ?_; rintro e w4 ⟨rfl, hw4⟩; replace hB := stepB' hB hw4; replace hbx := hbx.below hw4; have q0 := hbx.cell 0; have q5 := (hbx.alloc (.cells #[.int .u8 x] 5)).cell 1))
    go_ret2
    exact ⟨rfl, hB.alloc hB.size _⟩
end Go.Proofs.YtadkilofkpmpgaaGreatDoor
namespace Go.Proofs.YtadkilofkpmpgaaGreatDoor
open Go Go.RowKit
set_option maxRecDepth 100000
theorem rbyt_err (b : Nat) (n a e : Int) (h : b < 256) (he : bytE b n a = some e) (w : World) :
    Calls Tryz.prog 35 #[.agg #[.int .i64 (b : Int), .int .i64 n], .int .i64 a] w fun r w' => r = .returned (.tuple #[.slice none 0 0, .int .i64 e]) ∧ Below w.heap.size w w' := by
  have go : ∀ (er : Int) {q : Rk.Orc} {v : Value} {q' : Rk.Orc} {ob : Prop}, runRb (Int.ofNat b) n a er q = some (v, q', ob) → ob →
      Calls Tryz.prog 35 #[.agg #[.int .i64 (Int.ofNat b), .int .i64 n], .int .i64 a] w fun e w' => e = .returned v ∧ Below w.heap.size w w' :=
    fun er {q v q' ob} h ho => (Rk.fn_good mixed okf_ok (callB_good _ er) 1 _ _ _ _ _ _ _ h w (Rk.noKn_knows w) ho).2
  have hb0 : 0 ≤ Int.ofNat b := Int.natCast_nonneg b
  have hb1 : Int.ofNat b < 256 := by simp; omega
  rw [bytE_wrong] at he
  split at he
  · rename_i hw
    have pw : pW (Int.ofNat b) n 0 := ⟨⟨hb0, hb1, hw⟩, trivial⟩
    have ho : (opName (Int.ofNat b)).isEmpty = false := by
      unfold wrongI at hw
      split at hw
      · cases hw
      · rename_i h; simpa using h
    have hn : 0 ≤ n ∧ n < limM (opMode (Int.ofNat b)) := by
      unfold wrongI at hw
      rw [ho] at hw
      simp only [Bool.false_eq_true, if_false] at hw
      split at hw
      · cases hw
      · omega
    have hf := fnd_good (Int.ofNat b) hb0 hb1 ho
    have hm := mode_of (Int.ofNat b) hb0 hb1 ho
    split at he
    · rename_i ha
      cases he
      by_cases a0 : a < 0
      · exact go 0 (rb_a0 ..) ⟨decide_eq_true a0, pw⟩
      · by_cases a1 : 65535 < a
        · exact go 0 (rb_a1 ..) ⟨decide_eq_true a1, decide_eq_false a0, pw⟩
        · refine go 0 (rb_a2 ..) ⟨decide_eq_true ?_, decide_eq_false a1, decide_eq_false a0, pw⟩
          rw [hf.2.2.1, IntKind.wrap_i64]; omega
    · rename_i ha
      split at he
      · rename_i hr
        cases he
        have hlim : limM (opMode (Int.ofNat b)) = 65536 := by rw [hr.1]; decide
        have hz : lenM 12 = 2 := len_12
        exact rb_x (Int.ofNat b) n a _ 12 hb0 hb1 (Prod.ext rfl (by rw [hf.2.2.1]; exact hr.1)) hw hz rfl hn.1 (by omega) hr.2 (by omega) (by rw [hr.1, hz] at ha; omega) w
      · cases he
  · rename_i hw
    cases he
    unfold wrongI at hw
    by_cases ho : (opName (Int.ofNat b)).isEmpty = true
    · have e13 : wrongI (Int.ofNat b) n = 13 := by unfold wrongI; rw [if_pos ho]
      rw [e13]
      exact go 13 (rb_13 ..) ⟨⟨hb0, hb1, e13⟩, trivial⟩
    · have e10 : wrongI (Int.ofNat b) n = 10 := by
        unfold wrongI
        rw [if_neg ho] at hw ⊢
        split at hw
        · rename_i hn; rw [if_pos hn]
        · exact absurd rfl hw
      rw [e10]
      exact go 10 (rb_10 ..) ⟨⟨hb0, hb1, e10⟩, trivial⟩
theorem rbyt_ok (b : Nat) (n a : Int) (h : b < 256) (he : bytE b n a = none) (w : World) :
    Calls Tryz.prog 35 #[.agg #[.int .i64 (b : Int), .int .i64 n], .int .i64 a] w fun r w' => ∃ g cap, r = .returned (.tuple #[.slice (some ⟨g, 0, none⟩) (lenM (opMode (Int.ofNat b))).toNat cap, .int .i64 0]) ∧ CellsAt w' g 0 (bytI b n a) ∧ Below w.heap.size w w' := by
  have hg := good_len b n a h he
  have hb0 : 0 ≤ Int.ofNat b := Int.natCast_nonneg b
  have hb1 : Int.ofNat b < 256 := by simp; omega
  have hL := bytI_len b n a h he
  have fin : ∀ (xs : List Int), bytI b n a = xs → Calls Tryz.prog 35 #[.agg #[.int .i64 (Int.ofNat b), .int .i64 n], .int .i64 a] w (fun e w' => ∃ v, e = .returned (.tuple #[v, .int .i64 0]) ∧ w'.ownsRow w.heap.size 5 1 v xs.length (xs.map (Value.int .u8)) ∧ Below w.heap.size w w') →
      Calls Tryz.prog 35 #[.agg #[.int .i64 (b : Int), .int .i64 n], .int .i64 a] w fun r w' => ∃ g cap, r = .returned (.tuple #[.slice (some ⟨g, 0, none⟩) (lenM (opMode (Int.ofNat b))).toNat cap, .int .i64 0]) ∧ CellsAt w' g 0 (bytI b n a) ∧ Below w.heap.size w w' := by
    intro xs hxs hc
    refine hc.mono fun r w' ⟨v, hr, hown, hB⟩ => ?_
    have hl : xs.length = (lenM (opMode (Int.ofNat b))).toNat := by rw [← hxs]; exact hL
    obtain ⟨g, cap, rfl, hcl⟩ := row_cells hown (by omega)
    refine ⟨g, cap, by rw [← hl]; exact hr, fun j x hj => hcl j _ ?_, hB⟩
    rw [List.getElem?_map, ← hxs, hj]
    rfl
  have hf := fnd_good (Int.ofNat b) hb0 hb1 hg.1
  rw [bytE_wrong] at he
  split at he
  · rename_i hw
    split at he
    · cases he
    · rename_i ha
      split at he
      · cases he
      · rename_i hr
        have hn : 0 ≤ n ∧ n < limM (opMode (Int.ofNat b)) := by
          unfold wrongI at hw
          rw [hg.1] at hw
          simp only [Bool.false_eq_true, if_false] at hw
          split at hw
          · cases hw
          · omega
        have hlim : (lenM (opMode (Int.ofNat b)) = 2 ∧ limM (opMode (Int.ofNat b)) = 256) ∨ lenM (opMode (Int.ofNat b)) ≠ 2 ∨ opMode (Int.ofNat b) = 12 := by
          have hall : (good.all fun b => decide ((lenM (opMode (Int.ofNat b)) = 2 ∧ limM (opMode (Int.ofNat b)) = 256) ∨ lenM (opMode (Int.ofNat b)) ≠ 2 ∨ opMode (Int.ofNat b) = 12)) = true := by decide +kernel
          exact of_decide_eq_true (List.all_eq_true.1 hall b (mem_good b h hg.1))
        have hlim2 : limM (opMode (Int.ofNat b)) ≤ 65536 := by
          have hall : (good.all fun b => decide (limM (opMode (Int.ofNat b)) ≤ 65536)) = true := by decide +kernel
          exact of_decide_eq_true (List.all_eq_true.1 hall b (mem_good b h hg.1))
        by_cases h12 : opMode (Int.ofNat b) = 12
        · have hz : lenM 12 = 2 := len_12
          rw [h12, hz] at ha
          refine fin [(b : Int), (n - (a + 2)) % 256] ?_ (rb_r (Int.ofNat b) n a _ 12 hb0 hb1 (Prod.ext rfl (by rw [hf.2.2.1]; exact h12)) hw hz rfl hn.1 (by omega) (by omega) (by omega) (by omega) w)
          unfold bytI
          rw [if_pos h12]
          simp [outI, List.range_succ]
        · have hfe : fnd (Int.ofNat b) = ((fnd (Int.ofNat b)).1, opMode (Int.ofNat b)) := Prod.ext rfl hf.2.2.1
          have hz3 : lenM (opMode (Int.ofNat b)) = 1 ∨ lenM (opMode (Int.ofNat b)) = 2 ∨ lenM (opMode (Int.ofNat b)) = 3 := by omega
          rcases hz3 with hz | hz | hz
          · refine fin [(b : Int)] ?_ (rb_1 (Int.ofNat b) n a _ _ hb0 hb1 hfe hw hz h12 (by omega) (by omega) w)
            unfold bytI
            rw [if_neg h12, hz]
            rfl
          · refine fin [(b : Int), n] ?_ (rb_2 (Int.ofNat b) n a _ _ hb0 hb1 hfe hw hz h12 hn.1 (by omega) (by omega) (by omega) w)
            unfold bytI
            rw [if_neg h12, hz]
            have e1 : n % 256 = n := by omega
            simp [outI, List.range_succ, e1]
          · refine fin [(b : Int), n % 256, n / 256] ?_ (rb_3 (Int.ofNat b) n a _ _ hb0 hb1 hfe hw hz h12 hn.1 (by omega) (by omega) (by omega) w)
            unfold bytI
            rw [if_neg h12, hz]
            have e1 : n / 256 % 256 = n / 256 := by omega
            simp [outI, List.range_succ, e1]
  · cases he
end Go.Proofs.YtadkilofkpmpgaaGreatDoor
namespace Go.Proofs.YtadkilofkpmpgaaGreatDoor
open Go Go.RowKit
set_option maxRecDepth 100000
/-- The bytes, none where something is wrong; and what is wrong. -/
def bytX (b n a : Int) : List Int := match bytE b.toNat n a with
  | some _ => []
  | none => bytI b.toNat n a
def bytEr (b n a : Int) : Int := match bytE b.toNat n a with
  | some e => e
  | none => 0
theorem byt_any (b n a : Int) (h0 : 0 ≤ b) (h1 : b < 256) (w : World) (hk : Rk.Knows kn5 w) :
    Calls Tryz.prog 17 #[.agg #[.int .u8 b, .int .i64 n], .int .i64 a] w fun r w' => ∃ p cap, r = .returned (.tuple #[.slice p (bytX b n a).length cap, .int .i64 (bytEr b n a)]) ∧ SlAt w' p (bytX b n a) ∧ Below w.heap.size w w' := by
  obtain ⟨k, rfl⟩ := Int.eq_ofNat_of_zero_le h0
  have hk256 : k < 256 := by omega
  unfold bytX bytEr
  rw [Int.toNat_natCast]
  cases he : bytE k n a with
  | some e => exact (byt_errL k n a e hk256 he w hk).mono fun r w' ⟨hr, hB⟩ => ⟨none, 0, hr, SlAt.nil, hB⟩
  | none => exact (byt_okC k n a hk256 he w hk).mono fun r w' ⟨g, cap, hr, hc, hB⟩ => ⟨some ⟨g, 0, none⟩, cap, by rw [bytI_len k n a hk256 he]; exact hr, SlAt.of_cells hc, hB⟩
theorem rbyt_any (b n a : Int) (h0 : 0 ≤ b) (h1 : b < 256) (w : World) :
    Calls Tryz.prog 35 #[.agg #[.int .i64 b, .int .i64 n], .int .i64 a] w fun r w' => ∃ p cap, r = .returned (.tuple #[.slice p (bytX b n a).length cap, .int .i64 (bytEr b n a)]) ∧ SlAt w' p (bytX b n a) ∧ Below w.heap.size w w' := by
  obtain ⟨k, rfl⟩ := Int.eq_ofNat_of_zero_le h0
  have hk256 : k < 256 := by omega
  unfold bytX bytEr
  rw [Int.toNat_natCast]
  cases he : bytE k n a with
  | some e => exact (rbyt_err k n a e hk256 he w).mono fun r w' ⟨hr, hB⟩ => ⟨none, 0, hr, SlAt.nil, hB⟩
  | none => exact (rbyt_ok k n a hk256 he w).mono fun r w' ⟨g, cap, hr, hc, hB⟩ => ⟨some ⟨g, 0, none⟩, cap, by rw [bytI_len k n a hk256 he]; exact hr, SlAt.of_cells hc, hB⟩
theorem bytX_len (b n a : Int) (h0 : 0 ≤ b) (h1 : b < 256) : (bytX b n a).length ≤ 3 := by
  obtain ⟨k, rfl⟩ := Int.eq_ofNat_of_zero_le h0
  have hk256 : k < 256 := by omega
  unfold bytX
  rw [Int.toNat_natCast]
  cases he : bytE k n a with
  | some e => simp
  | none =>
    have := good_len k n a hk256 he
    show (bytI k n a).length ≤ 3
    rw [bytI_len k n a hk256 he]; omega
end Go.Proofs.YtadkilofkpmpgaaGreatDoor
namespace Go.Proofs.YtadkilofkpmpgaaGreatDoor
open Go Go.RowKit
set_option maxRecDepth 100000
/-- A text's lines. -/
def linesL : List UInt8 → List (List UInt8)
  | [] => [[]]
  | c :: l => if c = 10 then [] :: linesL l else match linesL l with
    | [] => [[c]]
    | p :: ps => (c :: p) :: ps
theorem linesL_none : ∀ l : List UInt8, (∀ x ∈ l, x ≠ 10) → linesL l = [l]
  | [], _ => rfl
  | c :: l, h => by
    rw [linesL, if_neg (h c (List.mem_cons_self ..)), linesL_none l (fun x hx => h x (List.mem_cons_of_mem _ hx))]
theorem splitK_lines : ∀ (l : List UInt8) (k : Nat), l.count 10 ≤ k → Lib.splitK [10] 0 k l = linesL l
  | [], 0, _ => rfl
  | [], k + 1, _ => rfl
  | c :: l, 0, h => by
    have hn : ∀ x ∈ c :: l, x ≠ 10 := fun x hx e => by
      subst e
      have := List.count_pos_iff.2 hx
      omega
    rw [linesL_none _ hn]
    rfl
  | c :: l, k + 1, h => by
    by_cases hc : c = 10
    · subst hc
      rw [linesL, if_pos rfl]
      have hi : Lib.index (10 :: l) [10] = 0 := by
        rw [Lib.index, if_pos (by simp [List.isPrefixOf])]
      have ih := splitK_lines l k (by rw [List.count_cons_self] at h; omega)
      rw [Lib.splitK, hi, if_neg (by decide)]
      show [] :: Lib.splitK [10] 0 k ((10 :: l).drop 1) = _
      rw [List.drop_one, List.tail_cons, ih]
    · have ih := splitK_lines l (k + 1) (by rw [List.count_cons_of_ne hc] at h; omega)
      have hi : Lib.index (c :: l) [10] = if Lib.index l [10] == -1 then -1 else Lib.index l [10] + 1 := by
        rw [Lib.index, if_neg]
        simp [List.isPrefixOf]
        exact fun e => hc e.symm
      rw [linesL, if_neg hc, ← ih]
      rw [Lib.splitK, Lib.splitK, hi]
      have hge := Lib.index_ge l [10]
      by_cases hm : Lib.index l [10] = -1
      · rw [hm]
        rfl
      · have b1 : (Lib.index l [10] == -1) = false := beq_eq_false_iff_ne.2 hm
        have b2 : (Lib.index l [10] + 1 == -1) = false := beq_eq_false_iff_ne.2 (by omega)
        rw [b1]
        simp only [Bool.false_eq_true, if_false]
        rw [b2]
        simp only [Bool.false_eq_true, if_false]
        obtain ⟨i, hi2⟩ := Int.eq_ofNat_of_zero_le (show 0 ≤ Lib.index l [10] by omega)
        rw [hi2, show ((i : Int) + 1).toNat = i + 1 by omega, Int.toNat_natCast]
        simp only [Nat.add_zero, List.take_succ_cons, List.length_cons, List.length_nil, Nat.zero_add, List.drop_succ_cons]
/-- The pieces that strings.Split hands back. -/
theorem split_lines (s : ByteArray) : (Lib.splitB ⟨#[10]⟩ 0 (Lib.countB s ⟨#[10]⟩) s).map (·.data.toList) = linesL s.data.toList := by
  rw [Lib.splitB_data]
  refine splitK_lines _ _ ?_
  show _ ≤ Lib.count s.data.toList [10]
  rw [Lib.count_one]
  exact Nat.le_refl _
end Go.Proofs.YtadkilofkpmpgaaGreatDoor
namespace Go.Proofs.YtadkilofkpmpgaaGreatDoor
open Go Go.RowKit
set_option maxRecDepth 100000
/-- What 'Assemble' answers: the bytes, the line that is wrong, what is wrong. -/
def asmW (a : Int) : List (List UInt8) → Nat → List Int → List Int × Int × Int
  | [], _, out => (out, 0, 0)
  | l :: ls, i, out =>
    if l = [] then asmW a ls (i + 1) out
    else if (parseW l).2.2 ≠ 0 then ([], (i : Int) + 1, (parseW l).2.2)
    else if bytEr (parseW l).1 (parseW l).2.1 (wrap64 (a + out.length)) ≠ 0 then ([], (i : Int) + 1, bytEr (parseW l).1 (parseW l).2.1 (wrap64 (a + out.length)))
    else asmW a ls (i + 1) (out ++ bytX (parseW l).1 (parseW l).2.1 (wrap64 (a + out.length)))
theorem own_belowW {w w' : World} {base : Nat} {e : TypeId} {size : Nat} {v : Value} {n : Nat} {xs : List Value} (h : w.ownsRow base e size v n xs) (hb : Below w.heap.size w w') : w'.ownsRow base e size v n xs :=
  h.kept (row := none) ⟨hb.os, hb.tape, hb.output, hb.size, fun k hk _ => hb.block k hk⟩ (by cases v.ownBlock <;> simp)
theorem bytR_bad (b n a : Int) (h0 : 0 ≤ b) (h1 : b < 256) (hr : bytEr b n a ≠ 0) (w : World) (hk : Rk.Knows kn5 w) :
    Calls Tryz.prog 17 #[.agg #[.int .u8 b, .int .i64 n], .int .i64 a] w fun r w' => r = .returned (.tuple #[.slice none 0 0, .int .i64 (bytEr b n a)]) ∧ Below w.heap.size w w' := by
  obtain ⟨k, rfl⟩ := Int.eq_ofNat_of_zero_le h0
  have hk256 : k < 256 := by omega
  unfold bytEr at hr ⊢
  rw [Int.toNat_natCast] at hr ⊢
  cases he : bytE k n a with
  | some e => exact byt_errL k n a e hk256 he w hk
  | none => rw [he] at hr; exact absurd rfl hr
theorem rbytR_bad (b n a : Int) (h0 : 0 ≤ b) (h1 : b < 256) (hr : bytEr b n a ≠ 0) (w : World) :
    Calls Tryz.prog 35 #[.agg #[.int .i64 b, .int .i64 n], .int .i64 a] w fun r w' => r = .returned (.tuple #[.slice none 0 0, .int .i64 (bytEr b n a)]) ∧ Below w.heap.size w w' := by
  obtain ⟨k, rfl⟩ := Int.eq_ofNat_of_zero_le h0
  have hk256 : k < 256 := by omega
  unfold bytEr at hr ⊢
  rw [Int.toNat_natCast] at hr ⊢
  cases he : bytE k n a with
  | some e => exact rbyt_err k n a e hk256 he w
  | none => rw [he] at hr; exact absurd rfl hr
theorem bytE_ne0 (b : Nat) (n a e : Int) (he : bytE b n a = some e) : e ≠ 0 := by
  unfold bytE at he
  intro h
  subst h
  split at he
  · simp at he
  · split at he
    · simp at he
    · split at he
      · simp at he
      · split at he <;> simp at he
theorem byt_none (k : Nat) (n a : Int) (hr : bytEr (k : Int) n a = 0) : bytE k n a = none := by
  unfold bytEr at hr
  rw [Int.toNat_natCast] at hr
  cases he : bytE k n a with
  | none => rfl
  | some e =>
    rw [he] at hr
    exact absurd hr (bytE_ne0 k n a e he)
theorem news_of {w : World} {g : Nat} {X : List Int} (h : CellsAt w g 0 X) : ∀ j u, (X.map (Value.int .u8))[j]? = some u → w.cell? ((⟨g, 0, none⟩ : Addr).add j) = some u := fun j u hu => by
  obtain ⟨x, hx, rfl⟩ := List.mem_map.1 (List.mem_of_getElem? hu)
  rw [List.getElem?_map] at hu
  cases hj : X[j]? with
  | none => rw [hj] at hu; cases hu
  | some y =>
    rw [hj] at hu
    rw [Addr.add_lit, h j y hj]
    exact hu
theorem bytR_good (b n a : Int) (h0 : 0 ≤ b) (h1 : b < 256) (hr : bytEr b n a = 0) (w : World) (hk : Rk.Knows kn5 w) :
    Calls Tryz.prog 17 #[.agg #[.int .u8 b, .int .i64 n], .int .i64 a] w fun r w' => ∃ g cap, r = .returned (.tuple #[.slice (some ⟨g, 0, none⟩) (bytX b n a).length cap, .int .i64 0]) ∧ CellsAt w' g 0 (bytX b n a) ∧ Below w.heap.size w w' := by
  obtain ⟨k, rfl⟩ := Int.eq_ofNat_of_zero_le h0
  have hk256 : k < 256 := by omega
  have he := byt_none k n a hr
  unfold bytX
  rw [Int.toNat_natCast, he]
  exact (byt_okC k n a hk256 he w hk).mono fun r w' ⟨g, cap, hr, hc, hB⟩ => ⟨g, cap, by rw [bytI_len k n a hk256 he]; exact hr, hc, hB⟩
theorem rbytR_good (b n a : Int) (h0 : 0 ≤ b) (h1 : b < 256) (hr : bytEr b n a = 0) (w : World) :
    Calls Tryz.prog 35 #[.agg #[.int .i64 b, .int .i64 n], .int .i64 a] w fun r w' => ∃ g cap, r = .returned (.tuple #[.slice (some ⟨g, 0, none⟩) (bytX b n a).length cap, .int .i64 0]) ∧ CellsAt w' g 0 (bytX b n a) ∧ Below w.heap.size w w' := by
  obtain ⟨k, rfl⟩ := Int.eq_ofNat_of_zero_le h0
  have hk256 : k < 256 := by omega
  have he := byt_none k n a hr
  unfold bytX
  rw [Int.toNat_natCast, he]
  exact (rbyt_ok k n a hk256 he w).mono fun r w' ⟨g, cap, hr, hc, hB⟩ => ⟨g, cap, by rw [bytI_len k n a hk256 he]; exact hr, hc, hB⟩
/-- What is gathered, as a slice. -/
theorem slAt_own {w : World} {base n : Nat} {v : Value} {xs : List Int} (h : w.ownsRow base 5 1 v n (xs.map (Value.int .u8))) : ∃ p cap, v = .slice p xs.length cap ∧ xs.length ≤ cap ∧ cap ≤ maxLen ∧ SlAt w p xs := by
  have hl : xs.length = n := by have := h.1; simpa using this
  subst hl
  rcases h.2 with ⟨rfl, h0⟩ | ⟨g, cap, cur, rfl, _, hg, hc, hm, _, _⟩
  · have : xs = [] := List.eq_nil_of_length_eq_zero h0
    subst this
    exact ⟨none, 0, rfl, Nat.le_refl _, by decide, SlAt.nil⟩
  · refine ⟨_, cap, rfl, hc, hm, fun j x hj => ⟨g, 0, rfl, ?_⟩⟩
    have := h.cells (g := g) rfl j (.int .u8 x) (by rw [List.getElem?_map, hj]; rfl)
    rwa [Addr.add_lit] at this
end Go.Proofs.YtadkilofkpmpgaaGreatDoor
namespace Go.Proofs.YtadkilofkpmpgaaGreatDoor
open Go Go.RowKit
set_option maxRecDepth 100000
theorem linesL_le : ∀ (s l : List UInt8), l ∈ linesL s → l.length ≤ s.length
  | [], l, h => by
    rw [linesL] at h
    obtain rfl := List.mem_singleton.1 h
    exact Nat.le_refl _
  | c :: s, l, h => by
    rw [linesL] at h
    split at h
    · rcases List.mem_cons.1 h with rfl | h
      · exact Nat.zero_le _
      · exact Nat.le_succ_of_le (linesL_le s l h)
    · split at h
      · obtain rfl := List.mem_singleton.1 h
        simp
      · rename_i p ps hp
        rcases List.mem_cons.1 h with rfl | h
        · have := linesL_le s p (by rw [hp]; exact List.mem_cons_self ..)
          simp; omega
        · have := linesL_le s l (by rw [hp]; exact List.mem_cons_of_mem _ h)
          simp; omega
theorem asmW_step (a : Int) (ps : List ByteArray) (i : Nat) (out : List Int) (h : i < ps.length) :
    asmW a ((ps.map (·.data.toList)).drop i) i out =
      if (ps[i]'h).data.toList = [] then asmW a ((ps.map (·.data.toList)).drop (i + 1)) (i + 1) out
      else if (parseW (ps[i]'h).data.toList).2.2 ≠ 0 then ([], (i : Int) + 1, (parseW (ps[i]'h).data.toList).2.2)
      else if bytEr (parseW (ps[i]'h).data.toList).1 (parseW (ps[i]'h).data.toList).2.1 (wrap64 (a + out.length)) ≠ 0 then ([], (i : Int) + 1, bytEr (parseW (ps[i]'h).data.toList).1 (parseW (ps[i]'h).data.toList).2.1 (wrap64 (a + out.length)))
      else asmW a ((ps.map (·.data.toList)).drop (i + 1)) (i + 1) (out ++ bytX (parseW (ps[i]'h).data.toList).1 (parseW (ps[i]'h).data.toList).2.1 (wrap64 (a + out.length))) := by
  rw [List.drop_eq_getElem_cons (by simpa using h), asmW, List.getElem_map]
theorem info5 : (Tryz.prog.info? 5).map (fun i => (i.zero, i.size, i.bytes)) = some (some (.int .u8 0), 1, 1) := by kernel_rfl
/-- The answer of 'Assemble'. -/
abbrev AsmOut (R : List Int × Int × Int) (w : World) (e : Ending) (w' : World) : Prop := ∃ p cap, e = .returned (.tuple #[.slice p R.1.length cap, .int .i64 R.2.1, .int .i64 R.2.2]) ∧ R.1.length ≤ cap ∧ SlAt w' p R.1 ∧ Below w.heap.size w w'
set_option maxHeartbeats 3200000 in
theorem asm_gen (s : ByteArray) (hs : s.size ≤ 65536) (a m : Int) (w : World) (hk : Rk.Knows kn5 w) (hev : ErrV w) (hm : w.cell? ⟨3, 0, none⟩ = some (.int .i64 m)) :
    Calls Tryz.prog 13 #[.string s, .int .i64 a] w fun e w' => AsmOut (asmW a (linesL s.data.toList) 0 []) w e w' := by
  have c4 := split_calls s ⟨#[10]⟩ m w (by omega) hm (by decide)
  have hlen := Lib.splitB_all ⟨#[10]⟩ (by decide) 0 (Lib.countB s ⟨#[10]⟩) s rfl
  have hcle := Lib.countB_le ⟨#[10]⟩ (by decide) s.size s (Nat.le_refl _)
  have hsp := split_lines s
  have hpz : ∀ p ∈ Lib.splitB ⟨#[10]⟩ 0 (Lib.countB s ⟨#[10]⟩) s, p.size ≤ 65536 := fun p hp => by
    have := linesL_le s.data.toList p.data.toList (by rw [← hsp]; exact List.mem_map.2 ⟨p, hp, rfl⟩)
    have e1 : p.data.toList.length = p.size := by rw [Array.length_toList]; rfl
    have e2 : s.data.toList.length = s.size := by rw [Array.length_toList]; rfl
    omega
  rw [← hsp]
  generalize Lib.splitB ⟨#[10]⟩ 0 (Lib.countB s ⟨#[10]⟩) s = ps at hlen hpz c4 ⊢
  rw [← hlen] at c4
  obtain ⟨i0, hi5, hz0, hz1, hz2⟩ := info_parts info5
  have hN : ps.length ≤ 65537 := by omega
  have HC : Hid (∀ W, Below w.heap.size w W → Rk.Knows kn5 W ∧ ErrV W) := fun W hW => ⟨hk.below hW, hev.below hW⟩
  have HZ : Hid (∀ p ∈ ps, p.size ≤ 65536) := hpz
  have d1 : decide ((s.size : Int) > 65536) = false := decide_eq_false (by omega)
  clear hlen hcle hsp hpz hk hev hm hs
  have c5 : Calls Tryz.prog 33 #[.string s, .string ⟨#[10]⟩] w fun e w2 => e = .returned (.slice (some ⟨w.heap.size, 0, none⟩) ps.length ps.length) ∧ Hid (Below w.heap.size w w2 ∧ w.heap.size ≤ w2.heap.size ∧ ∀ i (h : i < ps.length), ∀ W, Below w2.heap.size w2 W → W.cell? ⟨w.heap.size, i, none⟩ = some (.string (ps[i]'h))) :=
    c4.mono fun e w2 ⟨he, hw⟩ => ⟨he, by
      subst hw
      refine ⟨(Below.refl w.heap.size w).alloc (Nat.le_refl _) _, by simp, fun i h W hW => ?_⟩
      rw [hW.cell (p := ⟨w.heap.size, i, none⟩) (by simp), cell_of_row _ w.heap.size i _ _ (0, 0) (heap_alloc_new w _)]
      simp [h]⟩
  clear c4
  go_enter Tryz.func13, Tryz.ntmps13
  go_wp2_with (go_at_call 33; refine c5.mono ?_; rintro e w2 ⟨rfl, hw2⟩)
  clear c5
  have hB2 := hw2.out.1
  go_loopw [7, 19] (fun v7 v19 wr => ∃ (i : Nat) (out : List Int), i ≤ ps.length ∧ v19 = .int .i64 i ∧ out.length ≤ 3 * i ∧ Hid (asmW a ((ps.map (·.data.toList)).drop i) i out = asmW a (ps.map (·.data.toList)) 0 []) ∧ wr.ownsRow w2.heap.size 5 1 v7 out.length (out.map (Value.int .u8)) ∧ Below w2.heap.size w2 wr) (fun _ v19 _ => ps.length - (intOf v19).toNat)
  case atStart => exact ⟨0, [], Nat.zero_le _, rfl, Nat.le_refl _, rfl, World.ownsRow_nil _ _ _ _, Below.refl _ _⟩
  case round =>
    obtain ⟨i, out, hi, rfl, hol, HL, hown, hB⟩ := hrel
    by_cases hie : i < ps.length
    · have hst := asmW_step a ps i out hie
      have hc := hw2.out.2.2 i hie _ hB
      have hz := HZ.out _ (List.getElem_mem hie)
      have d2 : decide ((i : Int) < ps.length) = true := decide_eq_true (by omega)
      generalize ps[i]'hie = t at hst hc hz
      have hiz : wrap64 ((i : Int) + 1) = ((i + 1 : Nat) : Int) := by unfold wrap64; omega
      have hst2 : Hid _ := hst
      clear hst
      by_cases ht : t = ⟨#[]⟩
      · subst ht
        have hR := hst2.out
        rw [if_pos rfl] at hR
        have HL2 : Hid _ := hR.symm.trans HL.out
        clear hR HL hst2 HC HZ
        go_wp2
        exact ⟨⟨i + 1, out, by omega, by push_cast; rfl, by omega, HL2, hown, hB⟩, by simp only [intOf]; omega⟩
      · have htl : t.data.toList ≠ [] := fun h => ht (by
          obtain ⟨⟨l⟩⟩ := t
          simp at h
          subst h
          rfl)
        have e1 : t.toList.isEmpty = false := (decide_eq_emptyBytes t).symm.trans (decide_eq_false ht)
        obtain ⟨p7, cap7, rfl, hcap7, _, _⟩ := slAt_own hown
        have hR := hst2.out
        rw [if_neg htl] at hR
        have cP := fun W (hW : Below w.heap.size w W) => parse_calls t hz W (HC.out W hW).1 (HC.out W hW).2
        have hop := parseW_op t.data.toList
        generalize parseW t.data.toList = R at cP hop hR
        obtain ⟨o, n, er⟩ := R
        simp only at hop hR
        have HR : Hid _ := hR
        clear hR hst2 htl HZ
        by_cases her : er = 0
        · subst her
          have hR := HR.out
          rw [if_neg (fun h => h rfl)] at hR
          by_cases heb : bytEr o n (wrap64 (a + out.length)) = 0
          · have cB := fun W (hW : Below w.heap.size w W) => bytR_good o n (wrap64 (a + out.length)) hop.1 hop.2 heb W (HC.out W hW).1
            have hx3 := bytX_len o n (wrap64 (a + out.length)) hop.1 hop.2
            rw [if_neg (fun h => h heb)] at hR
            generalize bytX o n (wrap64 (a + out.length)) = X at cB hx3 hR
            have HL2 : Hid _ := hR.symm.trans HL.out
            clear hR HR HL hop HC heb
            have hBw := stepB' hB2 hB
            clear hB2
            go_wp2_with (first
              | (go_at_call 11; refine (cP _ hBw).mono ?_; rintro e w3 ⟨rfl, hw3⟩; replace hBw := stepB' hBw hw3; replace hB := stepB' hB hw3; replace hown := own_belowW hown hw3; replace hBw := hBw.alloc hBw.size (.cells #[.int .u8 o, .int .i64 n] 23); replace hB := hB.alloc hB.size (.cells #[.int .u8 o, .int .i64 n] 23); replace hown := hown.alloc (.cells #[.int .u8 o, .int .i64 n] 23))
              | (go_at_call 17; refine (cB _ hBw).mono ?_; rintro e w4 ⟨g, cap, rfl, hX, hw4⟩; replace hBw := stepB' hBw hw4; replace hB := stepB' hB hw4; replace hown := own_belowW hown hw4; have hnews := news_of hX; clear hX)
              | (at_builtin; refine wpList_append_own _ rfl _ _ 38 rfl w2.heap.size 5 i0 (.int .u8 0) 1 1 Tryz.underlying38 hi5 hz0 hz1 hz2 rfl (by decide) _ _ _ rfl hown ⟨g, 0, none⟩ X.length cap (X.map (Value.int .u8)) rfl (by simp) hnews (ints_oneCell .u8 X) (by unfold maxLen; omega) (by omega) hB.size ?_; intro v' w5 hown5 hgrow _))
            rw [← List.map_append, ← List.length_append] at hown5
            exact ⟨⟨i + 1, out ++ X, by omega, by push_cast; rfl, by rw [List.length_append]; omega, HL2, hown5, hB.grown hgrow hB.size (fun k hk => (hown.lt k hk).1)⟩, by simp only [intOf]; omega⟩
          · have cB := fun W (hW : Below w.heap.size w W) => bytR_bad o n (wrap64 (a + out.length)) hop.1 hop.2 heb W (HC.out W hW).1
            rw [if_pos heb] at hR
            have d4 : (bytEr o n (wrap64 (a + out.length)) != 0) = true := by simpa using heb
            generalize bytEr o n (wrap64 (a + out.length)) = eb at cB hR d4
            have HL2 : Hid _ := hR.symm.trans HL.out
            clear hR HR HL hop HC heb
            have hBw := stepB' hB2 hB
            clear hB2 hB hown
            go_wp2_with (first
              | (go_at_call 11; refine (cP _ hBw).mono ?_; rintro e w3 ⟨rfl, hw3⟩; replace hBw := stepB' hBw hw3; replace hBw := hBw.alloc hBw.size (.cells #[.int .u8 o, .int .i64 n] 23))
              | (go_at_call 17; refine (cB _ hBw).mono ?_; rintro e w4 ⟨rfl, hw4⟩; replace hBw := stepB' hBw hw4))
            refine bodyPost_ret (v := .tuple #[.slice none 0 0, .int .i64 ((i : Int) + 1), .int .i64 eb]) (by simp [results, Tryz.results13, go_sem]) rfl ?_
            rw [← HL2.out]
            exact ⟨none, 0, rfl, Nat.le_refl _, SlAt.nil, hBw⟩
        · have hR := HR.out
          rw [if_pos her] at hR
          have d4 : (er != 0) = true := by simpa using her
          have HL2 : Hid _ := hR.symm.trans HL.out
          clear hR HR HL hop HC
          have hBw := stepB' hB2 hB
          clear hB2 hB hown
          go_wp2_with (go_at_call 11; refine (cP _ hBw).mono ?_; rintro e w3 ⟨rfl, hw3⟩; replace hBw := stepB' hBw hw3; replace hBw := hBw.alloc hBw.size (.cells #[.int .u8 o, .int .i64 n] 23))
          refine bodyPost_ret (v := .tuple #[.slice none 0 0, .int .i64 ((i : Int) + 1), .int .i64 er]) (by simp [results, Tryz.results13, go_sem]) rfl ?_
          rw [← HL2.out]
          exact ⟨none, 0, rfl, Nat.le_refl _, SlAt.nil, hBw⟩
    · have hie2 : i = ps.length := by omega
      subst hie2
      have hR := HL.out
      rw [List.drop_of_length_le (by simp), asmW] at hR
      have HL2 : Hid _ := hR
      have d2 : decide ((ps.length : Int) < ps.length) = false := decide_eq_false (by omega)
      clear hR HL HC HZ
      have hBw := stepB' hB2 hB
      obtain ⟨p7, cap7, rfl, hcap7, hm7, hs7⟩ := slAt_own hown
      clear hB2 hB hown
      go_wp2
      refine bodyPost_ret (v := .tuple #[.slice p7 out.length cap7, .int .i64 0, .int .i64 0]) (by simp [results, Tryz.results13, go_sem]) rfl ?_
      rw [← HL2.out]
      exact ⟨p7, cap7, rfl, hcap7, hs7, hBw⟩
end Go.Proofs.YtadkilofkpmpgaaGreatDoor
namespace Go.Proofs.YtadkilofkpmpgaaGreatDoor
open Go Go.RowKit
set_option maxRecDepth 100000
/-- A text's lines, with what the line has so far. -/
def linesA : List UInt8 → List UInt8 → List (List UInt8)
  | cur, [] => [cur]
  | cur, c :: l => if c = 10 then cur :: linesA [] l else linesA (cur ++ [c]) l
theorem linesL_ne : ∀ l : List UInt8, linesL l ≠ []
  | [] => by simp [linesL]
  | c :: l => by
    rw [linesL]
    split
    · simp
    · split <;> simp
theorem linesA_eq : ∀ (l cur : List UInt8), linesA cur l = match linesL l with
    | [] => [cur]
    | p :: ps => (cur ++ p) :: ps
  | [], cur => by simp [linesA, linesL]
  | c :: l, cur => by
    rw [linesA, linesL]
    have h0 := linesA_eq l []
    have h1 := linesA_eq l (cur ++ [c])
    have hn := linesL_ne l
    by_cases hc : c = 10
    · rw [if_pos hc, if_pos hc, h0]
      cases hl : linesL l with
      | nil => exact absurd hl hn
      | cons p ps => simp
    · rw [if_neg hc, if_neg hc, h1]
      cases hl : linesL l with
      | nil => exact absurd hl hn
      | cons p ps => simp
theorem linesA_nil (l : List UInt8) : linesA [] l = linesL l := by
  rw [linesA_eq]
  cases hl : linesL l with
  | nil => exact absurd hl (linesL_ne l)
  | cons p ps => simp
theorem info9 : (Tryz.prog.info? 9).map (fun i => (i.zero, i.size, i.bytes)) = some (some (.string ⟨#[]⟩), 1, 16) := by kernel_rfl
theorem linesA_step (s : ByteArray) (i : Nat) (h : i < s.size) (cur : List UInt8) : linesA cur (s.data.toList.drop i) = if s.data[i]'h = 10 then cur :: linesA [] (s.data.toList.drop (i + 1)) else linesA (cur ++ [s.data[i]'h]) (s.data.toList.drop (i + 1)) := by
  rw [List.drop_eq_getElem_cons (by simpa using h), linesA, Array.getElem_toList]
/-- What 'Lines' hands back. -/
abbrev LnOut (L : List (List UInt8)) (w : World) (e : Ending) (w' : World) : Prop := ∃ (g cap : Nat) (ps : List ByteArray), e = .returned (.slice (some ⟨g, 0, none⟩) ps.length cap) ∧ ps.map (·.data.toList) = L ∧ Hid (∀ i (h : i < ps.length), w'.cell? ⟨g, i, none⟩ = some (.string (ps[i]'h)) ∧ g < w'.heap.size) ∧ Below w.heap.size w w'
theorem own_strs {w : World} {base : Nat} {v : Value} {ps : List ByteArray} (h : w.ownsRow base 9 1 v ps.length (ps.map Value.string)) (hn : ps ≠ []) :
    ∃ g cap, v = .slice (some ⟨g, 0, none⟩) ps.length cap ∧ Hid (∀ i (h : i < ps.length), w.cell? ⟨g, i, none⟩ = some (.string (ps[i]'h)) ∧ g < w.heap.size) := by
  rcases h.2 with ⟨rfl, h0⟩ | ⟨g, cap, cur, rfl, _, hg, _, _, _, _⟩
  · exact absurd (List.eq_nil_of_length_eq_zero h0) hn
  · refine ⟨g, cap, rfl, fun i hi => ⟨?_, (Array.getElem?_eq_some_iff.1 hg).1⟩⟩
    have := h.cells (g := g) rfl i (.string (ps[i]'hi)) (by rw [List.getElem?_map, List.getElem?_eq_getElem hi]; rfl)
    rw [Addr.add_lit, Nat.zero_add] at this
    exact this
set_option maxHeartbeats 3200000 in
theorem lines_calls (s : ByteArray) (hs : s.size ≤ 65536) (w : World) :
    Calls Tryz.prog 34 #[.string s] w fun e w' => LnOut (linesL s.data.toList) w e w' := by
  obtain ⟨i0, hi5, hz0, hz1, hz2⟩ := info_parts info9
  go_enter Tryz.func34, Tryz.ntmps34
  go_wp2
  go_loopw [3, 4, 5] (fun v3 v4 v5 wr => ∃ (i : Nat) (out : List ByteArray) (cur : ByteArray), i ≤ s.size ∧ v5 = .int .i64 i ∧ v4 = .string cur ∧ out.length ≤ i ∧ cur.size ≤ i ∧ Hid (out.map (·.data.toList) ++ linesA cur.data.toList (s.data.toList.drop i) = linesL s.data.toList) ∧ wr.ownsRow w.heap.size 9 1 v3 out.length (out.map Value.string) ∧ Below w.heap.size w wr) (fun _ _ v5 _ => s.size - (intOf v5).toNat)
  case atStart => exact ⟨0, [], ⟨#[]⟩, Nat.zero_le _, rfl, rfl, Nat.le_refl _, Nat.le_refl _, by rw [List.drop_zero]; exact linesA_nil _, World.ownsRow_nil _ _ _ _, Below.refl _ _⟩
  case round =>
    obtain ⟨i, out, cur, hi, rfl, rfl, hol, hcs, HL, hown, hB⟩ := hrel
    by_cases hie : i < s.size
    · have hst := linesA_step s i hie cur.data.toList
      have d2 : decide ((i : Int) < s.size) = true := decide_eq_true (by omega)
      have hst2 : Hid _ := hst
      clear hst
      by_cases hc : s.data[i]'hie = 10
      · have hR := hst2.out
        rw [if_pos hc] at hR
        have HL2 : Hid ((out ++ [cur]).map (·.data.toList) ++ linesA [] (s.data.toList.drop (i + 1)) = linesL s.data.toList) := by
          have := HL.out
          rw [hR] at this
          show _ = _
          rw [List.map_append, List.append_assoc]
          exact this
        have d3 : (((s[i]'hie).toNat : Int) == 10) = true := by
          show (((s.data[i]'hie).toNat : Int) == 10) = true
          rw [hc]
          rfl
        clear hR hst2 HL hc
        go_wp2_with (at_builtin; refine wpList_append_own _ rfl _ _ 73 rfl w.heap.size 9 i0 (.string ⟨#[]⟩) 1 16 Tryz.underlying73 hi5 hz0 hz1 hz2 rfl (by decide) _ _ _ rfl (hown.alloc _) ⟨wr.heap.size, 0, none⟩ 1 1 [.string cur] rfl rfl (cell_one_new _ _ _) (fun x hx => by simp at hx; subst hx; rfl) (by unfold maxLen; omega) (by omega) (by have := hB.size; simp; omega) ?_; intro v' w5 hown5 hgrow _)
        rw [show out.map Value.string ++ [.string cur] = (out ++ [cur]).map Value.string by simp, show out.length + 1 = (out ++ [cur]).length by simp] at hown5
        exact ⟨⟨i + 1, out ++ [cur], ⟨#[]⟩, by omega, by push_cast; rfl, rfl, by simp; omega, Nat.zero_le _, HL2, hown5, (hB.alloc hB.size _).grown hgrow (by have := hB.size; simp; omega) (fun k hk => (hown.lt k hk).1)⟩, by simp only [intOf]; omega⟩
      · have hR := hst2.out
        rw [if_neg hc] at hR
        have hd : (cur ++ s.extract i (i + 1)).data.toList = cur.data.toList ++ [s.data[i]'hie] := by
          rw [ByteArray.data_append, Array.toList_append, ByteArray.data_extract, Array.toList_extract, List.extract_eq_take_drop, List.drop_eq_getElem_cons (by simpa using hie), show i + 1 - i = 1 by omega, List.take_succ_cons, List.take_zero, Array.getElem_toList]
        have d3 : (((s[i]'hie).toNat : Int) == 10) = false := beq_eq_false_iff_ne.2 (fun h => hc (UInt8.toNat_inj.1 (Int.ofNat.inj h)))
        have hsz : (cur ++ s.extract i (i + 1)).size = cur.size + 1 := by
          rw [ByteArray.size_append, ByteArray.size_extract, Nat.min_eq_left (by omega)]
          omega
        have HL2 : Hid (out.map (·.data.toList) ++ linesA (cur ++ s.extract i (i + 1)).data.toList (s.data.toList.drop (i + 1)) = linesL s.data.toList) := by
          have := HL.out
          rw [hR] at this
          show _ = _
          rw [hd]
          exact this
        clear hR hst2 HL hd hc
        go_wp2
        exact ⟨⟨i + 1, out, cur ++ s.extract i (i + 1), by omega, by push_cast; rfl, rfl, by omega, by omega, HL2, hown, hB⟩, by simp only [intOf]; omega⟩
    · have hie2 : i = s.size := by omega
      subst hie2
      have hR := HL.out
      rw [List.drop_of_length_le (by simp), linesA] at hR
      have HL2 : Hid ((out ++ [cur]).map (·.data.toList) = linesL s.data.toList) := by
        show _ = _
        rw [List.map_append]
        exact hR
      have d2 : decide ((s.size : Int) < s.size) = false := decide_eq_false (by omega)
      clear hR HL
      go_wp2_with (at_builtin; refine wpList_append_own _ rfl _ _ 73 rfl w.heap.size 9 i0 (.string ⟨#[]⟩) 1 16 Tryz.underlying73 hi5 hz0 hz1 hz2 rfl (by decide) _ _ _ rfl (hown.alloc _) ⟨wr.heap.size, 0, none⟩ 1 1 [.string cur] rfl rfl (cell_one_new _ _ _) (fun x hx => by simp at hx; subst hx; rfl) (by unfold maxLen; omega) (by omega) (by have := hB.size; simp; omega) ?_; intro v' w5 hown5 hgrow _)
      rw [show out.map Value.string ++ [.string cur] = (out ++ [cur]).map Value.string by simp, show out.length + 1 = (out ++ [cur]).length by simp] at hown5
      obtain ⟨g, cap, rfl, hcl⟩ := own_strs hown5 (by simp)
      exact bodyPost_ret (v := .slice (some ⟨g, 0, none⟩) (out ++ [cur]).length cap) (by simp [results, Tryz.results34, go_sem]) rfl ⟨g, cap, out ++ [cur], rfl, HL2.out, hcl, (hB.alloc hB.size _).grown hgrow (by have := hB.size; simp; omega) (fun k hk => (hown.lt k hk).1)⟩
end Go.Proofs.YtadkilofkpmpgaaGreatDoor
namespace Go.Proofs.YtadkilofkpmpgaaGreatDoor
open Go Go.RowKit
set_option maxRecDepth 100000
theorem linesL_len : ∀ l : List UInt8, (linesL l).length ≤ l.length + 1
  | [] => Nat.le_refl _
  | c :: l => by
    have ih := linesL_len l
    rw [linesL]
    split
    · simpa using ih
    · split
      · simp
      · rename_i p ps hp
        rw [hp] at ih
        simp at ih ⊢
        omega
set_option maxHeartbeats 3200000 in
theorem rasm_gen (s : ByteArray) (hs : s.size ≤ 65536) (a : Int) (w : World) :
    Calls Tryz.prog 14 #[.string s, .int .i64 a] w fun e w' => AsmOut (asmW a (linesL s.data.toList) 0 []) w e w' := by
  have c4 := lines_calls s hs w
  have hL : (linesL s.data.toList).length ≤ 65537 := by
    have := linesL_len s.data.toList
    have e2 : s.data.toList.length = s.size := by rw [Array.length_toList]; rfl
    omega
  generalize linesL s.data.toList = L at c4 hL ⊢
  obtain ⟨i0, hi5, hz0, hz1, hz2⟩ := info_parts info5
  have HN : Hid (L.length ≤ 65537) := hL
  clear hL hs
  go_enter Tryz.func14, Tryz.ntmps14
  go_wp2_with (go_at_call 34; refine c4.mono ?_; rintro e w2 ⟨gl, cl, ps, rfl, hpL, hcl, hB2⟩)
  subst hpL
  clear c4
  have hN : ps.length ≤ 65537 := by have := HN.out; simpa using this
  have HCL : Hid (∀ i (h : i < ps.length), ∀ W, Below w2.heap.size w2 W → W.cell? ⟨gl, i, none⟩ = some (.string (ps[i]'h))) := fun i h W hW => (hW.cell (p := ⟨gl, i, none⟩) (hcl.out i h).2).trans (hcl.out i h).1
  clear hcl HN
  go_loopw [8, 9] (fun v7 v19 wr => ∃ (i : Nat) (out : List Int), i ≤ ps.length ∧ v19 = .int .i64 i ∧ out.length ≤ 3 * i ∧ Hid (asmW a ((ps.map (·.data.toList)).drop i) i out = asmW a (ps.map (·.data.toList)) 0 []) ∧ wr.ownsRow w2.heap.size 5 1 v7 out.length (out.map (Value.int .u8)) ∧ Below w2.heap.size w2 wr) (fun _ v19 _ => ps.length - (intOf v19).toNat)
  case atStart => exact ⟨0, [], Nat.zero_le _, rfl, Nat.le_refl _, rfl, World.ownsRow_nil _ _ _ _, Below.refl _ _⟩
  case round =>
    obtain ⟨i, out, hi, rfl, hol, HL, hown, hB⟩ := hrel
    by_cases hie : i < ps.length
    · have hst := asmW_step a ps i out hie
      have HC := HCL.out i hie
      have hc := HC _ hB
      have d2 : decide ((i : Int) < ps.length) = true := decide_eq_true (by omega)
      generalize ps[i]'hie = t at hst hc HC
      have HC2 : Hid _ := HC
      have hst2 : Hid _ := hst
      clear hst HC HCL
      by_cases ht : t = ⟨#[]⟩
      · subst ht
        have hR := hst2.out
        rw [if_pos rfl] at hR
        have HL2 : Hid _ := hR.symm.trans HL.out
        clear hR HL hst2
        go_wp2
        exact ⟨⟨i + 1, out, by omega, by push_cast; rfl, by omega, HL2, hown, hB⟩, by simp only [intOf]; omega⟩
      · have htl : t.data.toList ≠ [] := fun h => ht (by
          obtain ⟨⟨l⟩⟩ := t
          simp at h
          subst h
          rfl)
        have e1 : t.toList.isEmpty = false := (decide_eq_emptyBytes t).symm.trans (decide_eq_false ht)
        obtain ⟨p7, cap7, rfl, hcap7, _, _⟩ := slAt_own hown
        have hR := hst2.out
        rw [if_neg htl] at hR
        have cP := fun W => rparse_calls t W
        have hop := parseW_op t.data.toList
        generalize parseW t.data.toList = R at cP hop hR
        obtain ⟨o, n, er⟩ := R
        simp only at hop hR
        have HR : Hid _ := hR
        clear hR hst2 htl
        by_cases her : er = 0
        · subst her
          have hR := HR.out
          rw [if_neg (fun h => h rfl)] at hR
          by_cases heb : bytEr o n (wrap64 (a + out.length)) = 0
          · have cB := fun W => rbytR_good o n (wrap64 (a + out.length)) hop.1 hop.2 heb W
            have hx3 := bytX_len o n (wrap64 (a + out.length)) hop.1 hop.2
            rw [if_neg (fun h => h heb)] at hR
            generalize bytX o n (wrap64 (a + out.length)) = X at cB hx3 hR
            have HL2 : Hid _ := hR.symm.trans HL.out
            clear hR HR HL hop heb
            have hBw := stepB' hB2 hB
            clear hB2
            go_wp2_with (first
              | (go_at_call 12; refine (cP _).mono ?_; rintro e w3 ⟨rfl, hw3⟩; replace hBw := stepB' hBw hw3; replace hB := stepB' hB hw3; replace hown := own_belowW hown hw3; replace hBw := hBw.alloc hBw.size (.cells #[.int .i64 o, .int .i64 n] 30); replace hB := hB.alloc hB.size (.cells #[.int .i64 o, .int .i64 n] 30); replace hown := hown.alloc (.cells #[.int .i64 o, .int .i64 n] 30))
              | (go_at_call 35; refine (cB _).mono ?_; rintro e w4 ⟨g, cap, rfl, hX, hw4⟩; replace hBw := stepB' hBw hw4; replace hB := stepB' hB hw4; replace hown := own_belowW hown hw4; have hnews := news_of hX; clear hX)
              | (at_builtin; refine wpList_append_own _ rfl _ _ 38 rfl w2.heap.size 5 i0 (.int .u8 0) 1 1 Tryz.underlying38 hi5 hz0 hz1 hz2 rfl (by decide) _ _ _ rfl hown ⟨g, 0, none⟩ X.length cap (X.map (Value.int .u8)) rfl (by simp) hnews (ints_oneCell .u8 X) (by unfold maxLen; omega) (by omega) hB.size ?_; intro v' w5 hown5 hgrow _))
            rw [← List.map_append, ← List.length_append] at hown5
            exact ⟨⟨i + 1, out ++ X, by omega, by push_cast; rfl, by rw [List.length_append]; omega, HL2, hown5, hB.grown hgrow hB.size (fun k hk => (hown.lt k hk).1)⟩, by simp only [intOf]; omega⟩
          · have cB := fun W => rbytR_bad o n (wrap64 (a + out.length)) hop.1 hop.2 heb W
            rw [if_pos heb] at hR
            have d4 : (bytEr o n (wrap64 (a + out.length)) != 0) = true := by simpa using heb
            generalize bytEr o n (wrap64 (a + out.length)) = eb at cB hR d4
            have HL2 : Hid _ := hR.symm.trans HL.out
            clear hR HR HL hop heb
            have hBw := stepB' hB2 hB
            clear hB2 hB hown
            go_wp2_with (first
              | (go_at_call 12; refine (cP _).mono ?_; rintro e w3 ⟨rfl, hw3⟩; replace hBw := stepB' hBw hw3; replace hBw := hBw.alloc hBw.size (.cells #[.int .i64 o, .int .i64 n] 30))
              | (go_at_call 35; refine (cB _).mono ?_; rintro e w4 ⟨rfl, hw4⟩; replace hBw := stepB' hBw hw4))
            refine bodyPost_ret (v := .tuple #[.slice none 0 0, .int .i64 ((i : Int) + 1), .int .i64 eb]) (by simp [results, Tryz.results14, go_sem]) rfl ?_
            rw [← HL2.out]
            exact ⟨none, 0, rfl, Nat.le_refl _, SlAt.nil, hBw⟩
        · have hR := HR.out
          rw [if_pos her] at hR
          have d4 : (er != 0) = true := by simpa using her
          have HL2 : Hid _ := hR.symm.trans HL.out
          clear hR HR HL hop
          have hBw := stepB' hB2 hB
          clear hB2 hB hown
          go_wp2_with (go_at_call 12; refine (cP _).mono ?_; rintro e w3 ⟨rfl, hw3⟩; replace hBw := stepB' hBw hw3; replace hBw := hBw.alloc hBw.size (.cells #[.int .i64 o, .int .i64 n] 30))
          refine bodyPost_ret (v := .tuple #[.slice none 0 0, .int .i64 ((i : Int) + 1), .int .i64 er]) (by simp [results, Tryz.results14, go_sem]) rfl ?_
          rw [← HL2.out]
          exact ⟨none, 0, rfl, Nat.le_refl _, SlAt.nil, hBw⟩
    · have hie2 : i = ps.length := by omega
      subst hie2
      have hR := HL.out
      rw [List.drop_of_length_le (by simp), asmW] at hR
      have HL2 : Hid _ := hR
      have d2 : decide ((ps.length : Int) < ps.length) = false := decide_eq_false (by omega)
      clear hR HL HCL
      have hBw := stepB' hB2 hB
      obtain ⟨p7, cap7, rfl, hcap7, hm7, hs7⟩ := slAt_own hown
      clear hB2 hB hown
      go_wp2
      refine bodyPost_ret (v := .tuple #[.slice p7 out.length cap7, .int .i64 0, .int .i64 0]) (by simp [results, Tryz.results14, go_sem]) rfl ?_
      rw [← HL2.out]
      exact ⟨p7, cap7, rfl, hcap7, hs7, hBw⟩
end Go.Proofs.YtadkilofkpmpgaaGreatDoor
namespace Go.Proofs.YtadkilofkpmpgaaGreatDoor
open Go Go.RowKit
set_option maxRecDepth 100000
theorem asmW_len (a : Int) : ∀ (ls : List (List UInt8)) (i : Nat) (out : List Int), (asmW a ls i out).1.length ≤ out.length + 3 * ls.length
  | [], i, out => by rw [asmW]; simp
  | l :: ls, i, out => by
    have hop := parseW_op l
    have hx := bytX_len (parseW l).1 (parseW l).2.1 (wrap64 (a + out.length)) hop.1 hop.2
    have h1 := asmW_len a ls (i + 1) out
    have h2 := asmW_len a ls (i + 1) (out ++ bytX (parseW l).1 (parseW l).2.1 (wrap64 (a + out.length)))
    rw [asmW]
    rw [List.length_append] at h2
    rw [List.length_cons]
    split
    · omega
    · split
      · simp
      · split
        · simp
        · omega
set_option maxHeartbeats 1600000 in
theorem asm_long (s : ByteArray) (a : Int) (hL : 65536 < s.size) (w : World) :
    Calls Tryz.prog 13 #[.string s, .int .i64 a] w fun e w' => e = .returned (.tuple #[.slice none 0 0, .int .i64 0, .int .i64 12]) ∧ Below w.heap.size w w' := by
  have hB := Below.refl w.heap.size w
  have d1 : decide ((s.size : Int) > 65536) = true := decide_eq_true (by omega)
  clear hL
  go_enter Tryz.func13, Tryz.ntmps13
  go_wp2
  exact bodyPost_ret (v := .tuple #[.slice none 0 0, .int .i64 0, .int .i64 12]) (by simp [results, Tryz.results13, go_sem]) rfl ⟨rfl, hB⟩
set_option maxHeartbeats 1600000 in
theorem texts_calls (s : ByteArray) (a m : Int) (w : World) (hk : Rk.Knows kn5 w) (hev : ErrV w) (hm : w.cell? ⟨3, 0, none⟩ = some (.int .i64 m)) :
    Calls Tryz.prog 4 #[.string s, .int .i64 a] w fun e w' => e = .returned (.bool true) ∧ Below w.heap.size w w' := by
  have c3 := fun W hW => awake5_calls W (hk.below hW)
  have hB := Below.refl w.heap.size w
  by_cases h1 : s.size ≤ 300
  · have c1 := fun W (hW : Below w.heap.size w W) => asm_gen s (by omega) a m W (hk.below hW) (hev.below hW) ((hW.cell (World.block_lt_of_cell? w _ hm)).trans hm)
    have c2 := fun W => rasm_gen s (by omega) a W
    have hl := asmW_len a (linesL s.data.toList) 0 []
    have hll := linesL_len s.data.toList
    have e2 : s.data.toList.length = s.size := by rw [Array.length_toList]; rfl
    have d1 : decide ((s.size : Int) > 300) = false := decide_eq_false (by omega)
    have d2 : decide ((s.size : Int) > 70000) = false := decide_eq_false (by omega)
    have d3 : decide ((s.size : Int) > 65536) = false := decide_eq_false (by omega)
    have hR : (asmW a (linesL s.data.toList) 0 []).1.length ≤ 65536 := by simp at hl; omega
    generalize asmW a (linesL s.data.toList) 0 [] = R at c1 c2 hR
    obtain ⟨xs, i, er⟩ := R
    have HR : Hid (xs.length ≤ 65536) := hR
    clear hl hll e2 hR h1 hm hev hk
    go_enter Tryz.func4, Tryz.ntmps4
    go_wp2_with (first
      | (go_at_call 13; refine (c1 _ hB).mono ?_; rintro e w2 ⟨p1, k1, rfl, hk1, hs1, hw2⟩; replace hB := stepB' hB hw2)
      | (go_at_call 14; refine (c2 _).mono ?_; rintro e w3 ⟨p2, k2, rfl, hk2, hs2, hw3⟩; replace hB := stepB' hB hw3; replace hs1 := hs1.below hw3; have cc := cmp_calls p1 p2 xs.length xs.length k1 k2 xs xs w3 rfl rfl HR.out hs1 hs2; rw [show decide (xs = xs) = true by simp] at cc; clear hs1 hs2)
      | (go_at_call 15; refine cc.mono ?_; rintro e w5 ⟨rfl, hw5⟩; replace hB := stepB' hB hw5)
      | (go_at_call 6; refine (c3 _ hB).mono ?_; rintro e w4 ⟨rfl, hw4⟩; replace hB := stepB' hB hw4))
    go_ret
    exact ⟨rfl, hB⟩
  · by_cases h2 : s.size ≤ 65536 ∨ 70000 < s.size
    · have d1 : decide ((s.size : Int) > 300) = true := decide_eq_true (by omega)
      have d2 : decide ((s.size : Int) ≤ 65536) = true ∨ (decide ((s.size : Int) ≤ 65536) = false ∧ decide ((s.size : Int) > 70000) = true) := by
        by_cases h3 : s.size ≤ 65536
        · exact .inl (decide_eq_true (by omega))
        · exact .inr ⟨decide_eq_false (by omega), decide_eq_true (by omega)⟩
      clear hm hev hk h1 h2
      rcases d2 with d2 | ⟨d2, d3⟩
      all_goals
        go_enter Tryz.func4, Tryz.ntmps4
        go_wp2_with (go_at_call 6; refine (c3 _ hB).mono ?_; rintro e w4 ⟨rfl, hw4⟩; replace hB := stepB' hB hw4)
        go_ret
        exact ⟨rfl, hB⟩
    · have c1 := fun W => asm_long s a (by omega) W
      have d1 : decide ((s.size : Int) > 300) = true := decide_eq_true (by omega)
      have d2 : decide ((s.size : Int) ≤ 65536) = false := decide_eq_false (by omega)
      have d3 : decide ((s.size : Int) > 70000) = false := decide_eq_false (by omega)
      have d4 : decide ((s.size : Int) > 65536) = true := decide_eq_true (by omega)
      clear hm hev hk h1 h2
      go_enter Tryz.func4, Tryz.ntmps4
      go_wp2_with (first
        | (go_at_call 13; refine (c1 _).mono ?_; rintro e w2 ⟨rfl, hw2⟩; replace hB := stepB' hB hw2)
        | (go_at_call 6; refine (c3 _ hB).mono ?_; rintro e w4 ⟨rfl, hw4⟩; replace hB := stepB' hB hw4))
      go_ret
      exact ⟨rfl, hB⟩
end Go.Proofs.YtadkilofkpmpgaaGreatDoor
namespace Go.Proofs.YtadkilofkpmpgaaGreatDoor
open Go
/-- internal/bytealg.MaxLen holds some number. -/
theorem maxLen_of {w : World} (h : w.ShapedOpen Tryz.prog) : ∃ m, w.cell? ⟨3, 0, none⟩ = some (.int .i64 m) :=
  Go.Proofs.cell_of_shapedOpen_int (zero := #[.int .i64 0]) (t := 3) h (of_decide_eq_true (by kernel_rfl)) (by kernel_rfl) rfl (by kernel_rfl) (by kernel_rfl) Tryz.underlying3
variable {H : Type} {enc : TypeId × Value → H}
/-- The wrap: the listed variables (X) and the world's shape are both handed on. -/
theorem handed_and_shaped {a : Assume} {C : Checked} {os : Os} {f : FuncId} {fn : Func} {s : ChangeSpec} {conds : List PathCond} {apart fresh handsOn again : Bool} {X : World → Array Value → Prop}
    (hX : ∀ (w w' : World) (args : Array Value), w.heap = w'.heap → X w args → X w' args)
    (own : ownKnob C.prog.godebug = none) (started : os.Started) (noInit : C.prog.inits.idxOf? f = none) (hfn : C.prog.funcs[f]? = some fn)
    (witness : ∃ (w : World) (tape : Tape) (i : Input), w.os = os ∧ (w.forCall tape i).Shaped C.prog ∧ i.vars = [] ∧ Input.okWide C.prog (w.forCall tape i) .any w.heap.size f i ∧
      ((s.pre enc C.prog fn conds apart (w.forCall tape i).memory i.args ∧ X (w.forCall tape i).memory i.args) ∧ sizedMet enc C.prog fn (OpenSpec.ofChange s) apart (w.forCall tape i).memory i.args) ∧ a.holds C.prog (lone (Frame.enter C.prog f i.args .normal) [] (w.forCall tape i)))
    (contract : ∀ (W : World) (base : Nat) (args : Array Value) (ds gs : List (DataW H)) (before : List MemPlace),
      (∀ (j : Nat) t v, fn.params[j]? = some t → args[j]? = some v → Value.okWide C.prog W .any base t v) →
      DataW.Whole enc C.prog fn.params.toList s.vars apart W args.toList ds gs before →
      W.ShapedOpen C.prog → X W args →
      Calls C.prog f args W fun e W' => ∃ v, e = .returned v ∧ s.post enc C.prog fn apart fresh handsOn again W args v W') :
    ReturnsInHanded a C os f .any (fun w args => (s.pre enc C.prog fn conds apart w args ∧ X w args) ∧ sizedMet enc C.prog fn (OpenSpec.ofChange s) apart w args) (s.post enc C.prog fn apart fresh handsOn again) := by
  refine returnsInHanded_of_calls own started noInit witness ?_
  intro w tape i _ hsh _ hok hpre _
  obtain ⟨_, _, _, fn', hfn', _, _, _, _, hval⟩ := hok
  obtain rfl : fn' = fn := Option.some.inj (hfn'.symm.trans hfn)
  obtain ⟨⟨⟨ds, gs, before, hw, _⟩, hx⟩, _⟩ := hpre
  refine (contract (w.forCall tape i) w.heap.size i.args ds gs before hval (DataW.Whole.of_heap (w' := w.forCall tape i) (by rfl) hw) hsh (hX _ _ _ (by rfl) hx)).mono fun e W' ⟨v, he, hp⟩ => ?_
  subst he
  exact ChangeSpec.post_blind hp
end Go.Proofs.YtadkilofkpmpgaaGreatDoor
namespace Go.Proofs.YtadkilofkpmpgaaGreatDoor
open Go Go.ChangeShapes Go.WideShapes Go.ChangeAt Go.RowKit
theorem trod_itf {H : Type} {enc : TypeId × Value → H} {P : Program} {w : World} {base : Nat} {sp : Nat → Bool} {held : Bool} {fuel : Nat} {t : TypeId} {ms : Array (String × TypeId)} {cs : List Value} {x : DataW H × List MemPlace}
    (ht : P.underlying t = some (.interface ms)) (h : DataW.trod enc P w base sp held fuel t cs = some x) : ∃ ev, cs = [ev] ∧ (ev = .nilIface ∨ ∃ te pe, ev = .iface te pe) := by
  cases fuel with
  | zero => simp [DataW.trod] at h
  | succ n =>
    unfold DataW.trod at h
    rw [ht] at h
    rcases cs with _ | ⟨v, _ | ⟨v2, r⟩⟩
    · simp at h
    · cases v <;> first | exact ⟨_, rfl, .inl rfl⟩ | exact ⟨_, rfl, .inr ⟨_, _, rfl⟩⟩ | (simp at h)
    · cases v <;> simp at h
theorem gErr : Tryz.prog.globalNamed "strconv.ErrSyntax" = some 6 := by kernel_rfl
theorem tErr : ∃ t ms, (Tryz.prog.globals[6]?).map (·.type) = some t ∧ Tryz.prog.underlying t = some (.interface ms) := ⟨83, _, by kernel_rfl, Tryz.underlying83⟩
/-- What the condition gives of the error's variable. -/
theorem errV_of {W : World} {laid : List (String × DataW Unit)} (h : laidMetH Tryz.prog laid W) (hh : (laid.all fun x => x.2.handleName?.isNone) = true) (i : Nat) (hi : laid[i]? = some ("strconv.ErrSyntax", Rows.laid_strconv_ErrSyntax)) : ErrV W := by
  rw [MakeChecks.laidMetH_plain _ _ _ hh] at h
  obtain ⟨ps, hp, _⟩ := h
  obtain ⟨g, t, cs, fuel, p, hg, ht, hv, hd⟩ := laidVars_mem hp _ (List.mem_of_getElem? hi)
  obtain rfl := Option.some.inj (gErr.symm.trans hg)
  obtain ⟨t', ms, ht', hu⟩ := tErr
  obtain rfl := Option.some.inj (ht'.symm.trans ht)
  obtain ⟨ev, hcs, hev⟩ := trod_itf hu hd
  refine ⟨ev, ?_, hev⟩
  rw [World.var?_cell hg hv 0, ← Array.getElem?_toList, hcs]
  rfl
end Go.Proofs.YtadkilofkpmpgaaGreatDoor
namespace Go.Proofs.YtadkilofkpmpgaaGreatDoor.texts
open Go Go.ChangeShapes Go.WideShapes Go.ChangeAt Go.RowKit
abbrev laid : List (String × DataW Unit) := Rows.asmTextsRow.laid
theorem laidOut : laidOutB Tryz.prog = true := by kernel_rfl
set_option maxRecDepth 100000 in
theorem lifted (os : Os) (started : os.Started) (H : Type) (enc : TypeId × Value → H) :
    ReturnsInHanded {} Tryz.checked os 4 .any (fun w args => (Rows.asmTextsSpec.pre enc Tryz.prog Tryz.f4 [] false w args ∧ laidMetH Tryz.prog laid w) ∧ sizedMet enc Tryz.prog Tryz.f4 (OpenSpec.ofChange Rows.asmTextsSpec) false w args)
      (Rows.asmTextsSpec.post enc Tryz.prog Tryz.f4 false true false false) := by
  refine handed_and_shaped (C := Tryz.checked) (X := fun w _ => laidMetH Tryz.prog laid w) (fun _ _ _ hh h => h.of_heap hh) own started (by kernel_rfl) Tryz.func4
    (ChangeSpec.witness_shaped (enc := enc) (C := Tryz.checked) (os := os) (X := fun w _ => laidMetH Tryz.prog laid w) false (World.laidAll Tryz.prog os laid) #[.string ⟨#[]⟩, .int .i64 0] 8 (World.laidAll_os _ _ _)
      (World.shaped_of_ZipB (by kernel_rfl) (by kernel_rfl)) (by kernel_rfl) (by kernel_rfl) (by kernel_rfl)
      (by rw [MakeChecks.laidMetH_plain _ _ _ (by kernel_rfl)]; exact laidMet_laidAll _ (by kernel_rfl) (by kernel_rfl))) ?_
  intro W base args ds gs before hval0 hW hsh hL
  have hval : ∀ (j : Nat) t v, Tryz.f4.params[j]? = some t → args[j]? = some v → Value.okWide Tryz.prog W .any base t v := hval0
  have hW' := hW
  obtain ⟨p, q, hA0, hV, rfl, hfz, hnd⟩ := hW
  have hA : DataW.TrodAll enc Tryz.prog W 0 (fun _ => true) true Tryz.f4.params.toList args.toList ds p := hA0
  rw [Tryz.params4] at hA hval
  obtain ⟨v1, v2, d1, d2, p1, p2, rfl, rfl, rfl, h1, h2⟩ := trodAll_two hA
  obtain ⟨rfl, rfl⟩ := trodVars_none hV
  obtain ⟨s, rfl⟩ := okWide_string Tryz.underlying9 (hval 0 9 v1 rfl rfl)
  obtain ⟨t, rfl, rfl, rfl, wt⟩ := open_int Tryz.underlying3 (hval 1 3 v2 rfl rfl) h2
  obtain ⟨m, hm⟩ := maxLen_of hsh
  clear hA0 hval0
  simp only [List.append_nil] at hW'
  have hlt1 : ∀ x ∈ p1, x.block < W.heap.size := fun x hx => by simpa using hW'.lt x (by simp [hx])
  refine (texts_calls s t m W (knows5_of hL (by kernel_rfl) 6 1 rfl rfl) (errV_of hL (by kernel_rfl) 5 rfl) hm).mono fun e W' ⟨he, hB⟩ => ?_
  subst he
  exact ⟨_, rfl, post_below (pa := p1) (pv := []) hW' (fun _ _ _ => trodAll_mk1 (shut_bool Tryz.underlying4 _))
    (by
      have hh := trodAll_mk2 (enc := enc) (P := Tryz.prog) (w := W') (base := 0) (spare := fun b => decide (b < W.heap.size)) (held := true) (Below.trod laidOut (by kernel_rfl) (of_decide_eq_true (by kernel_rfl)) h1 hB hlt1) (shut_int Tryz.underlying3 wt)
      simp only [List.append_nil] at hh
      exact hh) rfl hB⟩

theorem row_holds : Rows.AsmTextsSaid :=
  OpenClaim.holds_of_wide 4 Tryz.f4 rfl rfl rfl rfl rfl rfl rfl ⟨rfl, rfl, rfl, rfl, rfl⟩ rfl rfl rfl rfl rfl (by kernel_rfl) Tryz.func4 (by kernel_rfl)
    (of_decide_eq_true (by kernel_rfl)) (by unfold Func.isWrapper; first | (rw [if_pos (by decide +kernel)]; kernel_rfl) | (rw [if_neg (by decide +kernel)]; exact ⟨rfl, rfl⟩))
    (fun os started H enc _ => lifted os started H enc)

/-- The tied card: the row's listed variables are tied to the program's text. -/
theorem card_holds : Rows.AsmTextsCardSaid :=
  Claim7.holds_tied_plain_at .later [] [.data, .data, .data, .data, .sentinel, .sentinel, .data, .pinned, .pinned] true Rows.asmTextsCard.stood.harness Rows.asmTextsCard.stood.looks
    row_holds (fun _ h => by cases h) (by kernel_rfl) (fun _ h => by cases h) asmTexts_row_tie rfl ⟨rfl, rfl⟩ (by kernel_rfl) rfl
    (fun f fn hf hfn => by
      obtain rfl : f = 4 := Option.some.inj ((show Tryz.prog.funcNamed "cochineal/cochineallaw05.AsmTexts" = some 4 by kernel_rfl).symm.trans hf) |>.symm
      obtain rfl : fn = Tryz.f4 := (Option.some.inj (Tryz.func4.symm.trans hfn)).symm
      exact ⟨by kernel_rfl, fun j t ht => by
        rw [Tryz.params4] at ht
        have hm : t ∈ [9, 3] := by simpa using Array.mem_of_getElem? ht
        have hall : ([9, 3].all fun u => !Tryz.prog.wantsStandIn u) = true := by kernel_rfl
        exact (show Tryz.prog.wantsStandIn t = false by simpa using List.all_eq_true.1 hall t hm)⟩)
    (by kernel_rfl)
#print axioms card_holds
end Go.Proofs.YtadkilofkpmpgaaGreatDoor.texts
