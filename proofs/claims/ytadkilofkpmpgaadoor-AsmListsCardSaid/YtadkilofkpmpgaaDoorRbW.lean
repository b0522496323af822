/- 'cochinealref05.Bytes': where nothing is wrong, and where a branch is too far. -/
import Derived.Test.YtadkilofkpmpgaaDoorWr
import Derived.WalkKit
import Derived.OwnWalk
import Derived.Maps.AppendAt
import Derived.Deep.Cut
namespace Go.Proofs.YtadkilofkpmpgaaDoor
open Go Go.RowKit
set_option maxRecDepth 100000
set_option maxHeartbeats 1600000 in
theorem rb_1 (x n a r m : Int) (h0 : 0 ≤ x) (h1 : x < 256) (hf : fnd x = (r, m)) (hw : wrongI x n = 0) (hz : lenM m = 1) (h12 : ¬ m = 12) (a0 : 0 ≤ a) (a1 : a + 1 ≤ 65536) (w : World) :
    Calls Tryd.prog 12 #[.agg #[.int .i64 x, .int .i64 n], .int .i64 a] w fun e w' => ∃ v, e = .returned (.tuple #[v, .int .i64 0]) ∧ w'.ownsRow w.heap.size 5 1 v 1 [.int .u8 x] ∧ Below w.heap.size w w' := by
  have c1 := fun W => wrong_calls x n h0 h1 W
  have c2 := fun W => find_calls x W
  have c3 := fun W => rlen_calls m W
  rw [hw] at c1
  rw [hf] at c2
  rw [hz] at c3
  have hB := (Below.refl w.heap.size w).alloc (Nat.le_refl _) (.cells #[.int .i64 x, .int .i64 n] 38)
  have hbx : boxAt (w.alloc (.cells #[.int .i64 x, .int .i64 n] 38)) w.heap.size [.int .i64 x, .int .i64 n] 38 := by
    unfold boxAt; rw [heap_alloc_new]
  have d1 : decide (a < 0) = false := decide_eq_false (by omega)
  have d2 : decide (a > 65535) = false := decide_eq_false (by omega)
  have d3 : (m == 12) = false := beq_eq_false_iff_ne.2 h12
  have w1 : wrap64 (a + 1) = a + 1 := by unfold wrap64; omega
  have d4 : decide (a + 1 > 65536) = false := decide_eq_false (by omega)
  have x8 : x % 256 = x := by omega
  clear h0 h1 hf hw hz h12 a0 a1
  go_enter Tryd.func12, Tryd.ntmps12
  go_wp2_with (first
    | (go_at_call 22; refine (c1 _).mono ?_; rintro e w2 ⟨rfl, hw2⟩; replace hB := stepB' hB hw2; replace hbx := hbx.below hw2; have q0 := hbx.cell 0; have q1 := hbx.cell 1)
    | (go_at_call 23; refine (c2 _).mono ?_; rintro e w3 ⟨rfl, hw3⟩; replace hB := stepB' hB hw3; replace hbx := hbx.below hw3; have q0 := hbx.cell 0; have q1 := hbx.cell 1)
    | (go_at_call 24; refine (c3 _).mono ?_; rintro e w4 ⟨rfl, hw4⟩; replace hB := stepB' hB hw4; replace hbx := hbx.below hw4; have q0 := hbx.cell 0; have q1 := hbx.cell 1))
  go_ret2
  exact ⟨_, rfl, ⟨by simp, .inr ⟨w4.heap.size, 1, #[.int .u8 x], rfl, hB.size, by rw [heap_alloc_new], Nat.le_refl _, by decide, by simp, by simp⟩⟩, hB.alloc hB.size _⟩
set_option maxHeartbeats 1600000 in
theorem rb_2 (x n a r m : Int) (h0 : 0 ≤ x) (h1 : x < 256) (hf : fnd x = (r, m)) (hw : wrongI x n = 0) (hz : lenM m = 2) (h12 : ¬ m = 12) (n0 : 0 ≤ n) (n1 : n < 256) (a0 : 0 ≤ a) (a1 : a + 2 ≤ 65536) (w : World) :
    Calls Tryd.prog 12 #[.agg #[.int .i64 x, .int .i64 n], .int .i64 a] w fun e w' => ∃ v, e = .returned (.tuple #[v, .int .i64 0]) ∧ w'.ownsRow w.heap.size 5 1 v 2 [.int .u8 x, .int .u8 n] ∧ Below w.heap.size w w' := by
  have c1 := fun W => wrong_calls x n h0 h1 W
  have c2 := fun W => find_calls x W
  have c3 := fun W => rlen_calls m W
  rw [hw] at c1
  rw [hf] at c2
  rw [hz] at c3
  have hB := (Below.refl w.heap.size w).alloc (Nat.le_refl _) (.cells #[.int .i64 x, .int .i64 n] 38)
  have hbx : boxAt (w.alloc (.cells #[.int .i64 x, .int .i64 n] 38)) w.heap.size [.int .i64 x, .int .i64 n] 38 := by
    unfold boxAt; rw [heap_alloc_new]
  have d1 : decide (a < 0) = false := decide_eq_false (by omega)
  have d2 : decide (a > 65535) = false := decide_eq_false (by omega)
  have d3 : (m == 12) = false := beq_eq_false_iff_ne.2 h12
  have w1 : wrap64 (a + 2) = a + 2 := by unfold wrap64; omega
  have d4 : decide (a + 2 > 65536) = false := decide_eq_false (by omega)
  have x8 : x % 256 = x := by omega
  have n8 : n % 256 = n := by omega
  have n9 : n.tmod 256 = n := by rw [Int.tmod_eq_emod_of_nonneg n0]; exact n8
  clear n0 n1 h0 h1 hf hw hz h12 a0 a1
  go_enter Tryd.func12, Tryd.ntmps12
  obtain ⟨i0, hi, hz0, hz1, hz2⟩ := info_parts (show (Tryd.prog.info? 5).map (fun i => (i.zero, i.size, i.bytes)) = some (some (.int .u8 0), 1, 1) by kernel_rfl)
  go_upto_region 14 with (first
    | (go_at_call 22; refine (c1 _).mono ?_; rintro e w2 ⟨rfl, hw2⟩; replace hB := stepB' hB hw2; replace hbx := hbx.below hw2; have q0 := hbx.cell 0; have q1 := hbx.cell 1)
    | (go_at_call 23; refine (c2 _).mono ?_; rintro e w3 ⟨rfl, hw3⟩; replace hB := stepB' hB hw3; replace hbx := hbx.below hw3; have q0 := hbx.cell 0; have q1 := hbx.cell 1)
    | (go_at_call 24; refine (c3 _).mono ?_; rintro e w4 ⟨rfl, hw4⟩; replace hB := stepB' hB hw4; replace hbx := hbx.below hw4; have q0 := hbx.cell 0; have q1 := hbx.cell 1))
  have hB5 := hB.alloc hB.size (.cells #[.int .u8 x] 5)
  have hown : (w4.alloc (.cells #[.int .u8 x] 5)).ownsRow w.heap.size 5 1 (.slice (some ⟨w4.heap.size, 0, none⟩) 1 1) 1 [.int .u8 x] :=
    ⟨by simp, .inr ⟨w4.heap.size, 1, #[.int .u8 x], rfl, hB.size, by rw [heap_alloc_new], Nat.le_refl _, by decide, by simp, by simp⟩⟩
  have hB6 := (hB.alloc hB.size (.cells #[.int .u8 x] 5)).size
  have q5 := (hbx.alloc (.cells #[.int .u8 x] 5)).cell 1
  generalize w4.alloc (.cells #[.int .u8 x] 5) = W5 at hB5 hB6 hown q5 ⊢
  clear q0 q1 hbx hB hw2 hw3 hw4 c1 c2 c3
  go_wp2_with (at_builtin; refine wpList_append_own _ rfl _ _ 24 rfl w.heap.size 5 i0 (.int .u8 0) 1 1 Tryd.underlying24 hi hz0 hz1 hz2 rfl (by decide) _ _ _ rfl (hown.alloc _) ⟨W5.heap.size, 0, none⟩ 1 1 [.int .u8 n] rfl rfl (cell_one_new _ _ _) (by simp [Value.oneCell']) (by decide) (by decide) (by simp; omega) ?_; intro v' w7 hown' hgrow _)
  have hB7 := (hB5.alloc hB6 _).grown hgrow (by simp; omega) (fun k hk => (hown.lt k hk).1)
  go_ret2
  exact ⟨_, rfl, by simpa using hown', hB7⟩
set_option maxHeartbeats 1600000 in
theorem rb_3 (x n a r m : Int) (h0 : 0 ≤ x) (h1 : x < 256) (hf : fnd x = (r, m)) (hw : wrongI x n = 0) (hz : lenM m = 3) (h12 : ¬ m = 12) (n0 : 0 ≤ n) (n1 : n < 65536) (a0 : 0 ≤ a) (a1 : a + 3 ≤ 65536) (w : World) :
    Calls Tryd.prog 12 #[.agg #[.int .i64 x, .int .i64 n], .int .i64 a] w fun e w' => ∃ v, e = .returned (.tuple #[v, .int .i64 0]) ∧ w'.ownsRow w.heap.size 5 1 v 3 [.int .u8 x, .int .u8 (n % 256), .int .u8 (n / 256)] ∧ Below w.heap.size w w' := by
  have c1 := fun W => wrong_calls x n h0 h1 W
  have c2 := fun W => find_calls x W
  have c3 := fun W => rlen_calls m W
  rw [hw] at c1
  rw [hf] at c2
  rw [hz] at c3
  have hB := (Below.refl w.heap.size w).alloc (Nat.le_refl _) (.cells #[.int .i64 x, .int .i64 n] 38)
  have hbx : boxAt (w.alloc (.cells #[.int .i64 x, .int .i64 n] 38)) w.heap.size [.int .i64 x, .int .i64 n] 38 := by
    unfold boxAt; rw [heap_alloc_new]
  have d1 : decide (a < 0) = false := decide_eq_false (by omega)
  have d2 : decide (a > 65535) = false := decide_eq_false (by omega)
  have d3 : (m == 12) = false := beq_eq_false_iff_ne.2 h12
  have w1 : wrap64 (a + 3) = a + 3 := by unfold wrap64; omega
  have d4 : decide (a + 3 > 65536) = false := decide_eq_false (by omega)
  have x8 : x % 256 = x := by omega
  have n8 : n % 256 % 256 = n % 256 := by omega
  have n9 : n.tmod 256 = n % 256 := Int.tmod_eq_emod_of_nonneg n0
  have n10 : n.tdiv 256 = n / 256 := Int.tdiv_eq_ediv_of_nonneg n0
  have n11 : n / 256 % 256 = n / 256 := by omega
  generalize n % 256 = lo at n8 n9 ⊢
  generalize n / 256 = hi8 at n10 n11 ⊢
  clear n0 n1 h0 h1 hf hw hz h12 a0 a1
  go_enter Tryd.func12, Tryd.ntmps12
  obtain ⟨i0, hi, hz0, hz1, hz2⟩ := info_parts (show (Tryd.prog.info? 5).map (fun i => (i.zero, i.size, i.bytes)) = some (some (.int .u8 0), 1, 1) by kernel_rfl)
  go_upto_region 14 with (first
    | (go_at_call 22; refine (c1 _).mono ?_; rintro e w2 ⟨rfl, hw2⟩; replace hB := stepB' hB hw2; replace hbx := hbx.below hw2; have q0 := hbx.cell 0; have q1 := hbx.cell 1)
    | (go_at_call 23; refine (c2 _).mono ?_; rintro e w3 ⟨rfl, hw3⟩; replace hB := stepB' hB hw3; replace hbx := hbx.below hw3; have q0 := hbx.cell 0; have q1 := hbx.cell 1)
    | (go_at_call 24; refine (c3 _).mono ?_; rintro e w4 ⟨rfl, hw4⟩; replace hB := stepB' hB hw4; replace hbx := hbx.below hw4; have q0 := hbx.cell 0; have q1 := hbx.cell 1))
  have hB5 := hB.alloc hB.size (.cells #[.int .u8 x] 5)
  have hown : (w4.alloc (.cells #[.int .u8 x] 5)).ownsRow w.heap.size 5 1 (.slice (some ⟨w4.heap.size, 0, none⟩) 1 1) 1 [.int .u8 x] :=
    ⟨by simp, .inr ⟨w4.heap.size, 1, #[.int .u8 x], rfl, hB.size, by rw [heap_alloc_new], Nat.le_refl _, by decide, by simp, by simp⟩⟩
  have hB6 := (hB.alloc hB.size (.cells #[.int .u8 x] 5)).size
  have q5 := (hbx.alloc (.cells #[.int .u8 x] 5)).cell 1
  generalize w4.alloc (.cells #[.int .u8 x] 5) = W5 at hB5 hB6 hown q5 ⊢
  have hN : w.heap.size < w4.heap.size := by
    have z2 := hw2.size
    have z3 := hw3.size
    have z4 := hw4.size
    simp at z2
    omega
  have q6 : (W5.alloc (.cells #[.int .u8 lo] 5)).cell? ⟨w.heap.size, 1, none⟩ = some (.int .i64 n) :=
    (((Below.refl W5.heap.size W5).alloc (Nat.le_refl _) (.cells #[.int .u8 lo] 5)).cell (p := ⟨w.heap.size, 1, none⟩) (World.block_lt_of_cell? W5 _ q5)).trans q5
  clear q0 q1 hbx hB hw2 hw3 hw4 c1 c2 c3
  go_upto_region 16 with (at_builtin; refine wpList_append_own _ rfl _ _ 24 rfl w.heap.size 5 i0 (.int .u8 0) 1 1 Tryd.underlying24 hi hz0 hz1 hz2 rfl (by decide) _ _ _ rfl (hown.alloc _) ⟨W5.heap.size, 0, none⟩ 1 1 [.int .u8 lo] rfl rfl (cell_one_new _ _ _) (by simp [Value.oneCell']) (by decide) (by decide) (by simp; omega) ?_; intro v' w7 hown' hgrow _)
  have hB7 := (hB5.alloc hB6 _).grown hgrow (by simp; omega) (fun k hk => (hown.lt k hk).1)
  have q7 : w7.cell? ⟨w.heap.size, 1, none⟩ = some (.int .i64 n) := by
    rw [World.cell?_of_block (w := W5.alloc (.cells #[.int .u8 lo] 5)) (a := ⟨w.heap.size, 1, none⟩) (hgrow.block w.heap.size (by simp; omega) (fun e => by
      have e' : some w.heap.size = some w4.heap.size := e
      simp at e'
      omega))]
    exact q6
  have hB8 := hB7.size
  clear hgrow hown q5 q6 hB5 hB6
  go_wp2_with (at_builtin; refine wpList_append_own _ rfl _ _ 24 rfl w.heap.size 5 i0 (.int .u8 0) 1 1 Tryd.underlying24 hi hz0 hz1 hz2 rfl (by decide) _ _ _ rfl (hown'.alloc _) ⟨w7.heap.size, 0, none⟩ 1 1 [.int .u8 hi8] rfl rfl (cell_one_new _ _ _) (by simp [Value.oneCell']) (by decide) (by decide) (by simp; omega) ?_; intro v2 w9 hown2 hgrow2 _)
  have hB9 := (hB7.alloc hB8 _).grown hgrow2 (by simp; omega) (fun k hk => (hown'.lt k hk).1)
  go_ret2
  exact ⟨_, rfl, by simpa using hown2, hB9⟩
set_option maxHeartbeats 1600000 in
theorem rb_r (x n a r m : Int) (h0 : 0 ≤ x) (h1 : x < 256) (hf : fnd x = (r, m)) (hw : wrongI x n = 0) (hz : lenM m = 2) (h12 : m = 12) (_n0 : 0 ≤ n) (_n1 : n < 65536) (nr : -128 ≤ n - (a + 2) ∧ n - (a + 2) < 128) (a0 : 0 ≤ a) (a1 : a + 2 ≤ 65536) (w : World) :
    Calls Tryd.prog 12 #[.agg #[.int .i64 x, .int .i64 n], .int .i64 a] w fun e w' => ∃ v, e = .returned (.tuple #[v, .int .i64 0]) ∧ w'.ownsRow w.heap.size 5 1 v 2 [.int .u8 x, .int .u8 ((n - (a + 2)) % 256)] ∧ Below w.heap.size w w' := by
  have c1 := fun W => wrong_calls x n h0 h1 W
  have c2 := fun W => find_calls x W
  have c3 := fun W => rlen_calls m W
  rw [hw] at c1
  rw [hf] at c2
  rw [hz] at c3
  have hB := (Below.refl w.heap.size w).alloc (Nat.le_refl _) (.cells #[.int .i64 x, .int .i64 n] 38)
  have hbx : boxAt (w.alloc (.cells #[.int .i64 x, .int .i64 n] 38)) w.heap.size [.int .i64 x, .int .i64 n] 38 := by
    unfold boxAt; rw [heap_alloc_new]
  have d1 : decide (a < 0) = false := decide_eq_false (by omega)
  have d2 : decide (a > 65535) = false := decide_eq_false (by omega)
  have d3 : (m == 12) = true := beq_iff_eq.2 h12
  have w1 : wrap64 (a + 2) = a + 2 := by unfold wrap64; omega
  have d4 : decide (a + 2 > 65536) = false := decide_eq_false (by omega)
  have x8 : x % 256 = x := by omega
  have w2 : wrap64 (n - a) = n - a := by unfold wrap64; omega
  have w3 : wrap64 (n - a - 2) = n - a - 2 := by unfold wrap64; omega
  have w4 : wrap64 (n - a - 2 + 256) = n - a - 2 + 256 := by unfold wrap64; omega
  have d5 : decide (n - a - 2 < -128) = false := decide_eq_false (by omega)
  have d6 : decide (n - a - 2 > 127) = false := decide_eq_false (by omega)
  have n8 : (n - (a + 2)) % 256 % 256 = (n - (a + 2)) % 256 := by omega
  have n9 : (n - a - 2 + 256).tmod 256 = (n - (a + 2)) % 256 := by rw [Int.tmod_eq_emod_of_nonneg (by omega)]; omega
  generalize (n - (a + 2)) % 256 = y at n8 n9 ⊢
  clear nr _n0 _n1 h0 h1 hf hw hz h12 a0 a1
  go_enter Tryd.func12, Tryd.ntmps12
  obtain ⟨i0, hi, hz0, hz1, hz2⟩ := info_parts (show (Tryd.prog.info? 5).map (fun i => (i.zero, i.size, i.bytes)) = some (some (.int .u8 0), 1, 1) by kernel_rfl)
  go_upto_region 10 with (first
    | (go_at_call 22; refine (c1 _).mono ?_; rintro e w2 ⟨rfl, hw2⟩; replace hB := stepB' hB hw2; replace hbx := hbx.below hw2; have q0 := hbx.cell 0; have q1 := hbx.cell 1)
    | (go_at_call 23; refine (c2 _).mono ?_; rintro e w3 ⟨rfl, hw3⟩; replace hB := stepB' hB hw3; replace hbx := hbx.below hw3; have q0 := hbx.cell 0; have q1 := hbx.cell 1)
    | (go_at_call 24; refine (c3 _).mono ?_; rintro e w4 ⟨rfl, hw4⟩; replace hB := stepB' hB hw4; replace hbx := hbx.below hw4; have q0 := hbx.cell 0; have q1 := hbx.cell 1))
  have hB5 := hB.alloc hB.size (.cells #[.int .u8 x] 5)
  have hown : (w4.alloc (.cells #[.int .u8 x] 5)).ownsRow w.heap.size 5 1 (.slice (some ⟨w4.heap.size, 0, none⟩) 1 1) 1 [.int .u8 x] :=
    ⟨by simp, .inr ⟨w4.heap.size, 1, #[.int .u8 x], rfl, hB.size, by rw [heap_alloc_new], Nat.le_refl _, by decide, by simp, by simp⟩⟩
  have hB6 := (hB.alloc hB.size (.cells #[.int .u8 x] 5)).size
  have q5 := (hbx.alloc (.cells #[.int .u8 x] 5)).cell 1
  generalize w4.alloc (.cells #[.int .u8 x] 5) = W5 at hB5 hB6 hown q5 ⊢
  clear q0 q1 hbx hB hw2 hw3 hw4 c1 c2 c3
  go_wp2_with (at_builtin; refine wpList_append_own _ rfl _ _ 24 rfl w.heap.size 5 i0 (.int .u8 0) 1 1 Tryd.underlying24 hi hz0 hz1 hz2 rfl (by decide) _ _ _ rfl (hown.alloc _) ⟨W5.heap.size, 0, none⟩ 1 1 [.int .u8 y] rfl rfl (cell_one_new _ _ _) (by simp [Value.oneCell']) (by decide) (by decide) (by simp; omega) ?_; intro v' w7 hown' hgrow _)
  have hB7 := (hB5.alloc hB6 _).grown hgrow (by simp; omega) (fun k hk => (hown.lt k hk).1)
  go_ret2
  exact ⟨_, rfl, by simpa using hown', hB7⟩
set_option maxHeartbeats 1600000 in
theorem rb_x (x n a r m : Int) (h0 : 0 ≤ x) (h1 : x < 256) (hf : fnd x = (r, m)) (hw : wrongI x n = 0) (hz : lenM m = 2) (h12 : m = 12) (n0 : 0 ≤ n) (n1 : n < 65536) (nr : n - (a + 2) < -128 ∨ 128 ≤ n - (a + 2)) (a0 : 0 ≤ a) (a1 : a + 2 ≤ 65536) (w : World) :
    Calls Tryd.prog 12 #[.agg #[.int .i64 x, .int .i64 n], .int .i64 a] w fun e w' => e = .returned (.tuple #[.slice none 0 0, .int .i64 10]) ∧ Below w.heap.size w w' := by
  have c1 := fun W => wrong_calls x n h0 h1 W
  have c2 := fun W => find_calls x W
  have c3 := fun W => rlen_calls m W
  rw [hw] at c1
  rw [hf] at c2
  rw [hz] at c3
  have hB := (Below.refl w.heap.size w).alloc (Nat.le_refl _) (.cells #[.int .i64 x, .int .i64 n] 38)
  have hbx : boxAt (w.alloc (.cells #[.int .i64 x, .int .i64 n] 38)) w.heap.size [.int .i64 x, .int .i64 n] 38 := by
    unfold boxAt; rw [heap_alloc_new]
  have d1 : decide (a < 0) = false := decide_eq_false (by omega)
  have d2 : decide (a > 65535) = false := decide_eq_false (by omega)
  have d3 : (m == 12) = true := beq_iff_eq.2 h12
  have w1 : wrap64 (a + 2) = a + 2 := by unfold wrap64; omega
  have d4 : decide (a + 2 > 65536) = false := decide_eq_false (by omega)
  have x8 : x % 256 = x := by omega
  have w2 : wrap64 (n - a) = n - a := by unfold wrap64; omega
  have w3 : wrap64 (n - a - 2) = n - a - 2 := by unfold wrap64; omega
  by_cases nl : n - a - 2 < -128
  · have d5 : decide (n - a - 2 < -128) = true := decide_eq_true nl
    clear nl nr n0 n1 h0 h1 hf hw hz h12 a0 a1
    go_enter Tryd.func12, Tryd.ntmps12
    go_wp2_with (first
      | (go_at_call 22; refine (c1 _).mono ?_; rintro e w2 ⟨rfl, hw2⟩; replace hB := stepB' hB hw2; replace hbx := hbx.below hw2; have q0 := hbx.cell 0; have q1 := hbx.cell 1)
      | (go_at_call 23; refine (c2 _).mono ?_; rintro e w3 ⟨rfl, hw3⟩; replace hB := stepB' hB hw3; replace hbx := hbx.below hw3; have q0 := hbx.cell 0; have q1 := hbx.cell 1)
      | (go_at_call 24; refine (c3 _).mono ?_; rintro e w4 ⟨rfl, hw4⟩; replace hB := stepB' hB hw4; replace hbx := hbx.below hw4; have q0 := hbx.cell 0; have q5 := (hbx.alloc (.cells #[.int .u8 x] 5)).cell 1))
    go_ret2
    exact ⟨rfl, hB.alloc hB.size _⟩
  · have d5 : decide (n - a - 2 < -128) = false := decide_eq_false nl
    have d6 : decide (n - a - 2 > 127) = true := decide_eq_true (by omega)
    clear nl nr n0 n1 h0 h1 hf hw hz h12 a0 a1
    go_enter Tryd.func12, Tryd.ntmps12
    go_wp2_with (first
      | (go_at_call 22; refine (c1 _).mono ?_; rintro e w2 ⟨rfl, hw2⟩; replace hB := stepB' hB hw2; replace hbx := hbx.below hw2; have q0 := hbx.cell 0; have q1 := hbx.cell 1)
      | (go_at_call 23; refine (c2 _).mono ?_; rintro e w3 ⟨rfl, hw3⟩; replace hB := stepB' hB hw3; replace hbx := hbx.below hw3; have q0 := hbx.cell 0; have q1 := hbx.cell 1)
      | (go_at_call 24; refine (c3 _).mono ?_; rintro e w4 ⟨rfl, hw4⟩; replace hB := stepB' hB hw4; replace hbx := hbx.below hw4; have q0 := hbx.cell 0; have q5 := (hbx.alloc (.cells #[.int .u8 x] 5)).cell 1))
    go_ret2
    exact ⟨rfl, hB.alloc hB.size _⟩
end Go.Proofs.YtadkilofkpmpgaaDoor
