/- 'asm.Bytes' of a branch. -/
import Derived.Test.YtadkilofkpmpgaaGreatDoorByt
namespace Go.Proofs.YtadkilofkpmpgaaGreatDoor
open Go Go.RowKit
set_option maxRecDepth 100000
set_option maxHeartbeats 1600000 in
theorem byt_rel (b : Nat) (n at' : Int) (h : b < 256) (ho : (opName (Int.ofNat b)).isEmpty = false) (hm : opMode (Int.ofNat b) = 12) (h0 : 0 ≤ n) (h1 : n < limM (opMode (Int.ofNat b)))
    (ha0 : 0 ≤ at') (ha1 : at' + 2 ≤ 65536) (hnr : -128 ≤ n - (at' + 2) ∧ n - (at' + 2) < 128) (w : World) (hk : Rk.Knows kn5 w) :
    Calls Tryz.prog 17 #[.agg #[.int .u8 (b : Int), .int .i64 n], .int .i64 at'] w fun e w' => ∃ v, e = .returned (.tuple #[v, .int .i64 0]) ∧ w'.ownsRow w.heap.size 5 1 v 2 (outV b (n - (at' + 2)) 1) ∧ Below w.heap.size w w' := by
  have hchk : ∀ W, Below w.heap.size w W → Calls Tryz.prog 18 #[.agg #[.int .u8 (b : Int), .int .i64 n]] W fun e w' => e = .returned (.tuple #[.agg #[.string ⟨⟨opName (b : Int)⟩⟩, .int .i64 12, .int .i64 (opKind (b : Int))], .int .i64 0]) ∧ Below W.heap.size W w' := fun W hW => by
    have := chk_calls_in b n h ho h0 h1 W (hk.below hW)
    rw [opV, hm] at this
    exact this
  have hlen : ∀ W, Calls Tryz.prog 39 #[.int .i64 12] W fun e w' => e = .returned (.int .i64 2) ∧ w' = W := fun W => lenSame 12 (by decide) W
  have hB := (Below.refl w.heap.size w).alloc (Nat.le_refl _) (.cells #[.int .u8 (b : Int), .int .i64 n] 23)
  have hbx : boxAt (w.alloc (.cells #[.int .u8 (b : Int), .int .i64 n] 23)) w.heap.size [.int .u8 (b : Int), .int .i64 n] 23 := by
    unfold boxAt; rw [heap_alloc_new]
  have d1 : decide (at' < 0) = false := decide_eq_false (by omega)
  have d2 : decide (at' > 65535) = false := decide_eq_false (by omega)
  have d3 : decide (65535 < at') = false := decide_eq_false (by omega)
  have hw2' : wrap64 (n - (at' + 2)) = n - (at' + 2) := by unfold wrap64; omega
  have dr1 : decide (n - (at' + 2) < -128) = false := decide_eq_false (by omega)
  have dr2 : decide (n - (at' + 2) ≥ 128) = false := decide_eq_false (by omega)
  have dr3 : decide (128 ≤ n - (at' + 2)) = false := decide_eq_false (by omega)
  clear hk h h0 h1
  go_enter Tryz.func17, Tryz.ntmps17
  go_wp2_with (go_at_call 18; refine (hchk _ hB).mono ?_; rintro e w2 ⟨rfl, hw2⟩)
  have hB2 := (stepB' hB hw2).alloc (Nat.le_trans hB.size hw2.size) (.cells #[.string ⟨⟨opName (b : Int)⟩⟩, .int .i64 12, .int .i64 (opKind (b : Int))] 49)
  have hb2 := (hbx.below hw2).alloc (.cells #[.string ⟨⟨opName (b : Int)⟩⟩, .int .i64 12, .int .i64 (opKind (b : Int))] 49)
  have hx2 : boxAt (w2.alloc (.cells #[.string ⟨⟨opName (b : Int)⟩⟩, .int .i64 12, .int .i64 (opKind (b : Int))] 49)) w2.heap.size [.string ⟨⟨opName (b : Int)⟩⟩, .int .i64 12, .int .i64 (opKind (b : Int))] 49 := by unfold boxAt; rw [heap_alloc_new]
  have c0 : (w2.alloc (.cells #[.string ⟨⟨opName (b : Int)⟩⟩, .int .i64 12, .int .i64 (opKind (b : Int))] 49)).cell? ⟨w.heap.size, 0, none⟩ = some (.int .u8 (b : Int)) := hb2.cell 0
  have c1 : (w2.alloc (.cells #[.string ⟨⟨opName (b : Int)⟩⟩, .int .i64 12, .int .i64 (opKind (b : Int))] 49)).cell? ⟨w.heap.size, 1, none⟩ = some (.int .i64 n) := hb2.cell 1
  have x1 : (w2.alloc (.cells #[.string ⟨⟨opName (b : Int)⟩⟩, .int .i64 12, .int .i64 (opKind (b : Int))] 49)).cell? ⟨w2.heap.size, 1, none⟩ = some (.int .i64 12) := hx2.cell 1
  generalize w2.alloc (.cells #[.string ⟨⟨opName (b : Int)⟩⟩, .int .i64 12, .int .i64 (opKind (b : Int))] 49) = W3 at hB2 hb2 hx2 c0 c1 x1 ⊢
  have hmx := mixed
  go_quiet ((go_at_call 39; refine Calls.quiet_of_same (hlen _)))
  have hB4 : Below w.heap.size w (W3.drewN nq) := below_drewN hB2 nq
  have e0 : (W3.drewN nq).cell? ⟨w.heap.size, 0, none⟩ = some (.int .u8 (b : Int)) := c0
  have y1 : (W3.drewN nq).cell? ⟨w2.heap.size, 1, none⟩ = some (.int .i64 12) := x1
  generalize W3.drewN nq = W4 at hB4 e0 y1 ⊢
  clear hb2 hx2 c0 c1 x1 hB2 hlen hchk
  have hw : wrap64 (at' + 2) = at' + 2 := by unfold wrap64; omega
  have d4 : decide (at' + 2 > 65536) = false := decide_eq_false (by omega)
  have d5 : decide (65536 < at' + 2) = false := decide_eq_false (by omega)
  go_wp2
  have hB5 := hB4.alloc hB4.size (.cells #[.int .u8 (b : Int)] 5)
  have hown : (W4.alloc (.cells #[.int .u8 (b : Int)] 5)).ownsRow w.heap.size 5 1 (.slice (some ⟨W4.heap.size, 0, none⟩) 1 1) 1 (outV b (n - (at' + 2)) 0) := by
    refine ⟨by simp [outV], .inr ⟨W4.heap.size, 1, #[.int .u8 (b : Int)], rfl, hB4.size, by rw [heap_alloc_new], Nat.le_refl _, by decide, by simp, by simp [outV]⟩⟩
  obtain ⟨i0, hi, hz0, hz1, hz2⟩ := info_parts (show (Tryz.prog.info? 5).map (fun i => (i.zero, i.size, i.bytes)) = some (some (.int .u8 0), 1, 1) by kernel_rfl)
  go_loopw [10, 56] (fun v10 v56 w6 => ∃ i : Nat, (i : Int) ≤ 1 ∧ v56 = .int .i64 i ∧ w6.ownsRow w.heap.size 5 1 v10 (i + 1) (outV b (n - (at' + 2)) i) ∧ Below w.heap.size w w6) (fun _ v56 _ => 3 - (intOf v56).toNat)
  case atStart => exact ⟨0, by omega, rfl, hown, hB5⟩
  case round =>
    clear hown hB5
    obtain ⟨i, hi2, rfl, hown, hB⟩ := hrel
    have hB6 := hB.size
    by_cases hlt : (i : Int) < 1
    · have hd : decide ((i : Int) < 1) = true := decide_eq_true hlt
      have hi3 : i = 0 := by omega
      subst hi3
      go_wp2_with (at_builtin; refine wpList_append_own _ rfl _ _ 38 rfl w.heap.size 5 i0 (.int .u8 0) 1 1 Tryz.underlying38 hi hz0 hz1 hz2 rfl (by decide) _ _ _ rfl (hown.alloc _) ⟨wr.heap.size, 0, none⟩ 1 1 [.int .u8 ((n - (at' + 2)) % 256)] rfl rfl (cell_one_new _ _ _) (by simp [Value.oneCell']) (by decide) (by decide) (by simp; omega) ?_; intro v' w7 hown' hgrow _)
      have hB7 := (hB.alloc hB6 _).grown hgrow (by simp; omega) (fun k hk => (hown.lt k hk).1)
      exact ⟨⟨1, by omega, rfl, by simpa [outV, tailV] using hown', hB7⟩, by simp [intOf]⟩
    · have hd : decide ((i : Int) < 1) = false := decide_eq_false hlt
      have hzi : i = 1 := by omega
      subst hzi
      go_wp2
      go_ret2
      exact ⟨u10, rfl, hown, hB⟩
end Go.Proofs.YtadkilofkpmpgaaGreatDoor
