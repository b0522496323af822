/- 'cochinealref05.Read' of three bytes: a walk (its one region that draws ends in a store). -/
import Derived.Test.YtadkilofkpmpgaaDoorRf
import Derived.StillTailTactics
import Derived.Deep.Cut
namespace Go.Proofs.YtadkilofkpmpgaaDoor
open Go Go.RowKit
set_option maxRecDepth 100000
set_option maxHeartbeats 1600000 in
theorem rfw_ok (B o L c : Nat) (x0 x1 x2 a r m : Int) (w : World) (k0 : w.cell? ⟨B, o, none⟩ = some (.int .u8 x0)) (k1 : w.cell? ⟨B, o + 1, none⟩ = some (.int .u8 x1)) (k2 : w.cell? ⟨B, o + 2, none⟩ = some (.int .u8 x2))
    (hf : fnd x0 = (r, m)) (hr : 0 ≤ r) (hm : ¬ m = 12) (hz : lenM m = 3) (hL : 3 ≤ L) (a0 : 0 ≤ a) (a1 : a + 3 ≤ 65536) (b0 : 0 ≤ x0 ∧ x0 < 256) (b1 : 0 ≤ x1 ∧ x1 < 256) (b2 : 0 ≤ x2 ∧ x2 < 256) :
    Calls Tryd.prog 15 #[.slice (some ⟨B, o, none⟩) L c, .int .i64 a] w fun e w' => e = .returned (.tuple #[.agg #[.int .i64 x0, .int .i64 (x1 + 256 * x2)], .int .i64 3, .int .i64 0]) ∧ Below w.heap.size w w' := by
  have c1 := fun W => find_calls x0 W
  have c2 := fun W => rlen_calls m W
  rw [hf] at c1
  rw [hz] at c2
  have hB := (Below.refl w.heap.size w).alloc (Nat.le_refl _) (.cells #[.int .i64 0, .int .i64 0] 38)
  have hbx : boxAt (w.alloc (.cells #[.int .i64 0, .int .i64 0] 38)) w.heap.size [.int .i64 0, .int .i64 0] 38 := by
    unfold boxAt; rw [heap_alloc_new]
  have d1 : decide (a < 0) = false := decide_eq_false (by omega)
  have d2 : decide (a > 65535) = false := decide_eq_false (by omega)
  have d3 : ((L : Int) == 0) = false := beq_eq_false_iff_ne.2 (by omega)
  have d4 : decide ((L : Int) < 3) = false := decide_eq_false (by omega)
  have d5 : decide (r < 0) = false := decide_eq_false (by omega)
  have d6 : (m == 12) = false := beq_eq_false_iff_ne.2 hm
  have w0 : wrap64 x0 = x0 := by unfold wrap64; omega
  have w1 : wrap64 x1 = x1 := by unfold wrap64; omega
  have w2 : wrap64 x2 = x2 := by unfold wrap64; omega
  have w3 : wrap64 (256 * x2) = 256 * x2 := by unfold wrap64; omega
  have w4 : wrap64 (x1 + 256 * x2) = x1 + 256 * x2 := by unfold wrap64; omega
  have w5 : wrap64 (a + 3) = a + 3 := by unfold wrap64; omega
  have d7 : decide (a + 3 > 65536) = false := decide_eq_false (by omega)
  have d8 : decide (x1 + 256 * x2 < 0) = false := decide_eq_false (by omega)
  have d9 : decide (x1 + 256 * x2 > 65535) = false := decide_eq_false (by omega)
  have l0 : (0 : Int) < L := by omega
  have l1 : (1 : Int) < L := by omega
  have l2 : (2 : Int) < L := by omega
  clear hf hr hm hz hL a0 a1 b0 b1 b2
  have hlt := World.block_lt_of_cell? w _ k0
  have k0' : (w.alloc (.cells #[.int .i64 0, .int .i64 0] 38)).cell? ⟨B, o, none⟩ = some (.int .u8 x0) := (hB.cell (p := ⟨B, o, none⟩) hlt).trans k0
  go_enter Tryd.func15, Tryd.ntmps15
  go_upto_region 15 with (first
    | (go_at_call 23; refine (c1 _).mono ?_; rintro e w2 ⟨rfl, hw2⟩; replace hB := stepB' hB hw2; replace hbx := hbx.below hw2)
    | (go_at_call 24; refine (c2 _).mono ?_; rintro e w3 ⟨rfl, hw3⟩; replace hB := stepB' hB hw3; replace hbx := hbx.below hw3; have y0 := (hB.cell (p := ⟨B, o, none⟩) hlt).trans k0; have y1 := (hB.cell (p := ⟨B, o + 1, none⟩) hlt).trans k1; have y2 := (hB.cell (p := ⟨B, o + 2, none⟩) hlt).trans k2; have z1 := ((hB.alloc hB.size (.cells #[.int .i64 x0, .int .i64 0] 38)).cell (p := ⟨B, o + 1, none⟩) hlt).trans k1))
  have hN : w.heap.size < w3.heap.size := by
    have := hw3.size
    have := hw2.size
    simp at this
    omega
  have y2' := ((hB.alloc hB.size (.cells #[.int .i64 x0, .int .i64 x1] 38)).cell (p := ⟨B, o + 2, none⟩) hlt).trans k2
  have hB4 := hB.alloc hB.size (.cells #[.int .i64 x0, .int .i64 x1] 38)
  have bR := hbx.alloc (.cells #[.int .i64 x0, .int .i64 x1] 38)
  have bN : boxAt (w3.alloc (.cells #[.int .i64 x0, .int .i64 x1] 38)) w3.heap.size [.int .i64 x0, .int .i64 x1] 38 := by
    unfold boxAt; rw [heap_alloc_new]
  generalize w3.alloc (.cells #[.int .i64 x0, .int .i64 x1] 38) = W4 at y2' hB4 bR bN ⊢
  generalize w3.heap.size = N at hN bN ⊢
  have r1 : W4.cell? ⟨N, 1, none⟩ = some (.int .i64 x1) := bN.cell 1
  clear y0 y1 y2 z1 hbx hB hw2 hw3 c1 c2 k0'
  go_still_tail 9, (by kernel_rfl)
  change wpList _ _ _ _ _ W4.drew
  replace hB4 : Below w.heap.size w W4.drew := ⟨hB4.os, hB4.tape, hB4.output, hB4.size, hB4.block⟩
  replace bR : boxAt W4.drew w.heap.size [.int .i64 0, .int .i64 0] 38 := bR
  replace bN : boxAt W4.drew N [.int .i64 x0, .int .i64 x1] 38 := bN
  clear y2' r1
  generalize W4.drew = W5 at hB4 bR bN ⊢
  have e1 : W5.cell? ⟨N, 0, none⟩ = some (.int .i64 x0) := bN.cell 0
  have e2 : W5.cell? ⟨N, 1, none⟩ = some (.int .i64 x1) := bN.cell 1
  have e3 : W5.cell? ⟨w.heap.size, 0, none⟩ = some (.int .i64 0) := bR.cell 0
  have e4 : W5.cell? ⟨w.heap.size, 1, none⟩ = some (.int .i64 0) := bR.cell 1
  have g1 : W5.frozen? ⟨N, 1, none⟩ = false := by
    have := bN
    unfold boxAt at this
    simp [World.frozen?, this]
  have g2 : W5.frozen? ⟨w.heap.size, 0, none⟩ = false := by
    have := bR
    unfold boxAt at this
    simp [World.frozen?, this]
  have g3 : W5.frozen? ⟨w.heap.size, 1, none⟩ = false := by
    have := bR
    unfold boxAt at this
    simp [World.frozen?, this]
  go_wp2
  refine bodyPost_ret (v := .tuple #[.agg #[.int .i64 x0, .int .i64 (x1 + 256 * x2)], .int .i64 3, .int .i64 0]) (by simp [results, Tryd.results15, go_sem, e3, e4]) rfl ⟨rfl, ?_⟩
  exact ((hB4.setCell (Nat.le_of_lt hN) _).setCell (Nat.le_refl _) _).setCell (Nat.le_refl _) _
set_option maxHeartbeats 1600000 in
theorem rfw_z (B o L c : Nat) (x0 x1 x2 a r m : Int) (w : World) (k0 : w.cell? ⟨B, o, none⟩ = some (.int .u8 x0)) (k1 : w.cell? ⟨B, o + 1, none⟩ = some (.int .u8 x1)) (k2 : w.cell? ⟨B, o + 2, none⟩ = some (.int .u8 x2))
    (hf : fnd x0 = (r, m)) (hr : 0 ≤ r) (hm : ¬ m = 12) (hz : lenM m = 3) (hL : 3 ≤ L) (a0 : 0 ≤ a) (a2 : a ≤ 65535) (a1 : 65536 < a + 3) (b0 : 0 ≤ x0 ∧ x0 < 256) (b1 : 0 ≤ x1 ∧ x1 < 256) (b2 : 0 ≤ x2 ∧ x2 < 256) :
    Calls Tryd.prog 15 #[.slice (some ⟨B, o, none⟩) L c, .int .i64 a] w fun e w' => e = .returned (.tuple #[.agg #[.int .i64 0, .int .i64 0], .int .i64 0, .int .i64 10]) ∧ Below w.heap.size w w' := by
  have c1 := fun W => find_calls x0 W
  have c2 := fun W => rlen_calls m W
  rw [hf] at c1
  rw [hz] at c2
  have hB := (Below.refl w.heap.size w).alloc (Nat.le_refl _) (.cells #[.int .i64 0, .int .i64 0] 38)
  have hbx : boxAt (w.alloc (.cells #[.int .i64 0, .int .i64 0] 38)) w.heap.size [.int .i64 0, .int .i64 0] 38 := by
    unfold boxAt; rw [heap_alloc_new]
  have d1 : decide (a < 0) = false := decide_eq_false (by omega)
  have d2 : decide (a > 65535) = false := decide_eq_false (by omega)
  have d3 : ((L : Int) == 0) = false := beq_eq_false_iff_ne.2 (by omega)
  have d4 : decide ((L : Int) < 3) = false := decide_eq_false (by omega)
  have d5 : decide (r < 0) = false := decide_eq_false (by omega)
  have d6 : (m == 12) = false := beq_eq_false_iff_ne.2 hm
  have w0 : wrap64 x0 = x0 := by unfold wrap64; omega
  have w1 : wrap64 x1 = x1 := by unfold wrap64; omega
  have w2 : wrap64 x2 = x2 := by unfold wrap64; omega
  have w3 : wrap64 (256 * x2) = 256 * x2 := by unfold wrap64; omega
  have w4 : wrap64 (x1 + 256 * x2) = x1 + 256 * x2 := by unfold wrap64; omega
  have w5 : wrap64 (a + 3) = a + 3 := by unfold wrap64; omega
  have d7 : decide (a + 3 > 65536) = true := decide_eq_true (by omega)
  have d8 : decide (x1 + 256 * x2 < 0) = false := decide_eq_false (by omega)
  have d9 : decide (x1 + 256 * x2 > 65535) = false := decide_eq_false (by omega)
  have l0 : (0 : Int) < L := by omega
  have l1 : (1 : Int) < L := by omega
  have l2 : (2 : Int) < L := by omega
  clear hf hr hm hz hL a0 a2 a1 b0 b1 b2
  have hlt := World.block_lt_of_cell? w _ k0
  have k0' : (w.alloc (.cells #[.int .i64 0, .int .i64 0] 38)).cell? ⟨B, o, none⟩ = some (.int .u8 x0) := (hB.cell (p := ⟨B, o, none⟩) hlt).trans k0
  go_enter Tryd.func15, Tryd.ntmps15
  go_upto_region 15 with (first
    | (go_at_call 23; refine (c1 _).mono ?_; rintro e w2 ⟨rfl, hw2⟩; replace hB := stepB' hB hw2; replace hbx := hbx.below hw2)
    | (go_at_call 24; refine (c2 _).mono ?_; rintro e w3 ⟨rfl, hw3⟩; replace hB := stepB' hB hw3; replace hbx := hbx.below hw3; have y0 := (hB.cell (p := ⟨B, o, none⟩) hlt).trans k0; have y1 := (hB.cell (p := ⟨B, o + 1, none⟩) hlt).trans k1; have y2 := (hB.cell (p := ⟨B, o + 2, none⟩) hlt).trans k2; have z1 := ((hB.alloc hB.size (.cells #[.int .i64 x0, .int .i64 0] 38)).cell (p := ⟨B, o + 1, none⟩) hlt).trans k1))
  have hN : w.heap.size < w3.heap.size := by
    have := hw3.size
    have := hw2.size
    simp at this
    omega
  have y2' := ((hB.alloc hB.size (.cells #[.int .i64 x0, .int .i64 x1] 38)).cell (p := ⟨B, o + 2, none⟩) hlt).trans k2
  have hB4 := hB.alloc hB.size (.cells #[.int .i64 x0, .int .i64 x1] 38)
  have bR := hbx.alloc (.cells #[.int .i64 x0, .int .i64 x1] 38)
  have bN : boxAt (w3.alloc (.cells #[.int .i64 x0, .int .i64 x1] 38)) w3.heap.size [.int .i64 x0, .int .i64 x1] 38 := by
    unfold boxAt; rw [heap_alloc_new]
  generalize w3.alloc (.cells #[.int .i64 x0, .int .i64 x1] 38) = W4 at y2' hB4 bR bN ⊢
  generalize w3.heap.size = N at hN bN ⊢
  have r1 : W4.cell? ⟨N, 1, none⟩ = some (.int .i64 x1) := bN.cell 1
  clear y0 y1 y2 z1 hbx hB hw2 hw3 c1 c2 k0'
  go_still_tail 9, (by kernel_rfl)
  change wpList _ _ _ _ _ W4.drew
  replace hB4 : Below w.heap.size w W4.drew := ⟨hB4.os, hB4.tape, hB4.output, hB4.size, hB4.block⟩
  replace bR : boxAt W4.drew w.heap.size [.int .i64 0, .int .i64 0] 38 := bR
  replace bN : boxAt W4.drew N [.int .i64 x0, .int .i64 x1] 38 := bN
  clear y2' r1
  generalize W4.drew = W5 at hB4 bR bN ⊢
  have e1 : W5.cell? ⟨N, 0, none⟩ = some (.int .i64 x0) := bN.cell 0
  have e2 : W5.cell? ⟨N, 1, none⟩ = some (.int .i64 x1) := bN.cell 1
  have e3 : W5.cell? ⟨w.heap.size, 0, none⟩ = some (.int .i64 0) := bR.cell 0
  have e4 : W5.cell? ⟨w.heap.size, 1, none⟩ = some (.int .i64 0) := bR.cell 1
  have g1 : W5.frozen? ⟨N, 1, none⟩ = false := by
    have := bN
    unfold boxAt at this
    simp [World.frozen?, this]
  have g2 : W5.frozen? ⟨w.heap.size, 0, none⟩ = false := by
    have := bR
    unfold boxAt at this
    simp [World.frozen?, this]
  have g3 : W5.frozen? ⟨w.heap.size, 1, none⟩ = false := by
    have := bR
    unfold boxAt at this
    simp [World.frozen?, this]
  go_wp2
  refine bodyPost_ret (v := .tuple #[.agg #[.int .i64 0, .int .i64 0], .int .i64 0, .int .i64 10]) (by simp [results, Tryd.results15, go_sem, e3, e4]) rfl ⟨rfl, ?_⟩
  exact ((hB4.setCell (Nat.le_of_lt hN) _).setCell (Nat.le_refl _) _).setCell (Nat.le_refl _) _
end Go.Proofs.YtadkilofkpmpgaaDoor
