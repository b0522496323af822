/- 'AsmBytes' answers true. -/
import Derived.Test.YtadkilofkpmpgaaDoorAny
import Derived.Deep.RegionHeld3
import Derived.Deep.Cut
namespace Go.Proofs.YtadkilofkpmpgaaDoor
open Go Go.RowKit
set_option maxRecDepth 100000
set_option maxHeartbeats 1600000 in
/-- Too many bytes: the examples alone. -/
theorem bytes_long (b n : Int) (p : Option Addr) (L c : Nat) (a : Int) (hL : 10 < L) (w : World) (hk : Rk.Knows kn5 w) :
    Calls Tryd.prog 4 #[.agg #[.int .u8 b, .int .i64 n], .slice p L c, .int .i64 a] w fun e w' => e = .returned (.bool true) ∧ Below w.heap.size w w' := by
  have c3 := fun W hW => awake5_calls W (hk.below hW)
  have hB := (Below.refl w.heap.size w).alloc (Nat.le_refl _) (.cells #[.int .u8 b, .int .i64 n] 23)
  have d1 : decide ((L : Int) > 10) = true := decide_eq_true (by omega)
  clear hL hk
  go_enter Tryd.func4, Tryd.ntmps4
  go_wp2_with (go_at_call 9; refine (c3 _ hB).mono ?_; rintro e w2 ⟨rfl, hw2⟩; replace hB := stepB' hB hw2)
  go_ret
  exact ⟨rfl, hB⟩
set_option maxHeartbeats 3200000 in
theorem bytes_main (b n : Int) (h0 : 0 ≤ b) (h1 : b < 256) (p : Option Addr) (xs : List Int) (c : Nat) (a : Int) (hL : xs.length ≤ 10) (w : World) (hk : Rk.Knows kn5 w)
    (hx : SlAt w p xs) (hb : ∀ x ∈ xs, 0 ≤ x ∧ x < 256) (hp : xs = [] → p = none ∨ ∃ B o, p = some ⟨B, o, none⟩) :
    Calls Tryd.prog 4 #[.agg #[.int .u8 b, .int .i64 n], .slice p xs.length c, .int .i64 a] w fun e w' => e = .returned (.bool true) ∧ Below w.heap.size w w' := by
  have c1 := fun W (hW : Below w.heap.size w W) => byt_any b n a h0 h1 W (hk.below hW)
  have c2 := fun W => rbyt_any b n a h0 h1 W
  have c3 := fun W hW => awake5_calls W (hk.below hW)
  have c4 := fun W => plain_calls b n h0 h1 W
  have c5 := fun W (hW : Below w.heap.size w W) => read_calls p c xs a W (hx.below hW) hb hp
  have c6 := fun W (hW : Below w.heap.size w W) => rread_calls p c xs a W (hx.below hW) hb hp
  have ho := readW_op xs a hb
  have c7 := fun W => plain_calls (readW xs a).1 (readW xs a).2.1 ho.1 ho.2 W
  have hX := bytX_len b n a h0 h1
  generalize readW xs a = R at c5 c6 c7 ho
  obtain ⟨o, m, z, er⟩ := R
  have hB := (Below.refl w.heap.size w).alloc (Nat.le_refl _) (.cells #[.int .u8 b, .int .i64 n] 23)
  have hbx : boxAt (w.alloc (.cells #[.int .u8 b, .int .i64 n] 23)) w.heap.size [.int .u8 b, .int .i64 n] 23 := by
    unfold boxAt; rw [heap_alloc_new]
  have d1 : decide ((xs.length : Int) > 10) = false := decide_eq_false (by omega)
  generalize xs.length = L at c5 c6 d1 ⊢
  generalize bytX b n a = ys at c1 c2 hX
  generalize bytEr b n a = eb at c1 c2
  clear hL hk hx hb hp h0 h1 ho
  go_enter Tryd.func4, Tryd.ntmps4
  have f1 := True.intro
  go_upto_region 7 with (first
    | (clear f1; go_at_call 7; refine (c1 _ hB).mono ?_; rintro e w2 ⟨p2, k2, rfl, hs2, hw2⟩; replace hB := stepB' hB hw2; replace hbx := hbx.below hw2; have q0 := hbx.cell 0; have q1 := hbx.cell 1)
    | (go_at_call 13; refine (c4 _).mono ?_; rintro e w3 ⟨rfl, hw3⟩; replace hB := stepB' hB hw3; replace hs2 := hs2.below hw3)
    | (go_at_call 12; refine (c2 _).mono ?_; rintro e w4 ⟨p4, k4, rfl, hs4, hw4⟩; replace hB := stepB' hB hw4; replace hs2 := hs2.below hw4)
    | (go_at_call 14; refine (c5 _ hB).mono ?_; rintro e w5 ⟨rfl, hw5⟩; replace hB := stepB' hB hw5; replace hs2 := hs2.below hw5; replace hs4 := hs4.below hw5)
    | (go_at_call 15; refine (c6 _ (hB.alloc hB.size _)).mono ?_; rintro e w6 ⟨rfl, hw6⟩))
  have hB5 := hB.alloc hB.size (.cells #[.int .u8 o, .int .i64 m] 23)
  have bA : boxAt (w5.alloc (.cells #[.int .u8 o, .int .i64 m] 23)) w5.heap.size [.int .u8 o, .int .i64 m] 23 := by unfold boxAt; rw [heap_alloc_new]
  have hB6 := stepB' hB5 hw6
  have bA6 := (bA.below hw6).alloc (.cells #[.int .i64 o, .int .i64 m] 38)
  have bR : boxAt (w6.alloc (.cells #[.int .i64 o, .int .i64 m] 38)) w6.heap.size [.int .i64 o, .int .i64 m] 38 := by unfold boxAt; rw [heap_alloc_new]
  have hB7 := hB6.alloc hB6.size (.cells #[.int .i64 o, .int .i64 m] 38)
  have hB56 := ((Below.refl w5.heap.size w5).alloc (Nat.le_refl _) (.cells #[.int .u8 o, .int .i64 m] 23))
  have hB57 := (stepB' hB56 hw6).alloc (stepB' hB56 hw6).size (.cells #[.int .i64 o, .int .i64 m] 38)
  replace hs2 := hs2.below hB57
  replace hs4 := hs4.below hB57
  generalize w6.alloc (.cells #[.int .i64 o, .int .i64 m] 38) = W7 at hB7 bA6 bR hs2 hs4 ⊢
  generalize w6.heap.size = N6 at bR ⊢
  generalize w5.heap.size = N5 at bA6 ⊢
  have a0 := bA6.cell 0
  have a1 := bA6.cell 1
  have b0 := bR.cell 0
  have b1 := bR.cell 1
  have k2' := (hB7.size)
  have sB : ∀ W', Below W7.heap.size W7 W' → Calls Tryd.prog 11 #[.slice p2 ys.length k2, .slice p4 ys.length k4] W' fun e w'' => e = .returned (.bool true) ∧ Below W7.heap.size W7 w'' := fun W' hW => by
    have h := cmp_calls p2 p4 ys.length ys.length k2 k4 ys ys W' rfl rfl (by omega) (hs2.below hW) (hs4.below hW)
    rw [show decide (ys = ys) = true by simp] at h
    exact h.mono fun e w'' ⟨he, hb⟩ => ⟨he, stepB' hW hb⟩
  have sP : ∀ W', Below W7.heap.size W7 W' → Calls Tryd.prog 13 #[.agg #[.int .u8 o, .int .i64 m]] W' fun e w'' => e = .returned (.agg #[.int .i64 o, .int .i64 m]) ∧ Below W7.heap.size W7 w'' := fun W' hW =>
    (c7 W').mono fun e w'' ⟨he, hb⟩ => ⟨he, stepB' hW hb⟩
  have sA : ∀ W', Below W7.heap.size W7 W' → Calls Tryd.prog 9 #[] W' fun e w'' => e = .returned (.bool true) ∧ Below W7.heap.size W7 w'' := fun W' hW =>
    (c3 W' (stepB' hB7 hW)).mono fun e w'' ⟨he, hb⟩ => ⟨he, stepB' hW hb⟩
  have r0 : ∀ W', Below W7.heap.size W7 W' → W'.cell? ⟨N5, 0, none⟩ = some (.int .u8 o) := fun W' hW => (bA6.below hW).cell 0
  have r1 : ∀ W', Below W7.heap.size W7 W' → W'.cell? ⟨N5, 1, none⟩ = some (.int .i64 m) := fun W' hW => (bA6.below hW).cell 1
  have r2 : ∀ W', Below W7.heap.size W7 W' → W'.cell? ⟨N6, 0, none⟩ = some (.int .i64 o) := fun W' hW => (bR.below hW).cell 0
  have r3 : ∀ W', Below W7.heap.size W7 W' → W'.cell? ⟨N6, 1, none⟩ = some (.int .i64 m) := fun W' hW => (bR.below hW).cell 1
  have hB8 := Below.refl W7.heap.size W7
  have hD : Below W7.heap.size W7 W7.drew := ⟨hB8.os, hB8.tape, hB8.output, hB8.size, hB8.block⟩
  have g0 := r0 _ hD
  have g1 := r1 _ hD
  have g2 := r2 _ hD
  have g3 := r3 _ hD
  generalize ys.length = K at sB ⊢
  clear hs2 hs4 c1 c2 c3 c4 c5 c6 c7 bA bA6 bR hB5 hB6 hB56 hB57 hw6 hw5 hw4 hw3 hw2 hbx q0 q1 hB hX d1
  go_region_held3 (fun w' => Below W7.heap.size W7 w' ∧ w'.cell? ⟨N5, 0, none⟩ = some (.int .u8 o) ∧ w'.cell? ⟨N5, 1, none⟩ = some (.int .i64 m) ∧ w'.cell? ⟨N6, 0, none⟩ = some (.int .i64 o) ∧ w'.cell? ⟨N6, 1, none⟩ = some (.int .i64 m))
    (first | exact ⟨by assumption, by assumption, by assumption, by assumption, by assumption⟩)
    (first
      | (go_at_call 11; refine (sB _ (by assumption)).mono ?_; rintro e w' ⟨rfl, hw⟩; have t0 := r0 _ hw; have t1 := r1 _ hw; have t2 := r2 _ hw; have t3 := r3 _ hw)
      | (go_at_call 13; refine (sP _ (by assumption)).mono ?_; rintro e w' ⟨rfl, hw⟩; have t0 := r0 _ hw; have t1 := r1 _ hw; have t2 := r2 _ hw; have t3 := r3 _ hw)
      | (go_at_call 9; refine (sA _ (by assumption)).mono ?_; rintro e w' ⟨rfl, hw⟩; have t0 := r0 _ hw; have t1 := r1 _ hw; have t2 := r2 _ hw; have t3 := r3 _ hw))
  all_goals
    go_wp2
    go_ret
    exact ⟨rfl, stepB' hB7 hw⟩
theorem bytes_calls (b n : Int) (h0 : 0 ≤ b) (h1 : b < 256) (p : Option Addr) (xs : List Int) (c : Nat) (a : Int) (w : World) (hk : Rk.Knows kn5 w)
    (hx : SlAt w p xs) (hb : ∀ x ∈ xs, 0 ≤ x ∧ x < 256) (hp : xs = [] → p = none ∨ ∃ B o, p = some ⟨B, o, none⟩) :
    Calls Tryd.prog 4 #[.agg #[.int .u8 b, .int .i64 n], .slice p xs.length c, .int .i64 a] w fun e w' => e = .returned (.bool true) ∧ Below w.heap.size w w' := by
  by_cases hL : xs.length ≤ 10
  · exact bytes_main b n h0 h1 p xs c a hL w hk hx hb hp
  · exact bytes_long b n p xs.length c a (by omega) w hk
end Go.Proofs.YtadkilofkpmpgaaDoor
