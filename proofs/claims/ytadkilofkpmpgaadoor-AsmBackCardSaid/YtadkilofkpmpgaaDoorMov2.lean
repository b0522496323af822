/- 'AsmMoves' answers true: where both addresses serve. -/
import Derived.Test.YtadkilofkpmpgaaDoorMov
import Derived.StillTailTactics
namespace Go.Proofs.YtadkilofkpmpgaaDoor
open Go Go.RowKit
set_option maxRecDepth 100000
theorem of_good (b : Nat) (h : b < 256) (ho : (opName (Int.ofNat b)).isEmpty = false) (W : World) : Calls Tryd.prog 8 #[.int .u8 (b : Int)] W fun e w' => e = .returned (.tuple #[.agg #[.string ⟨⟨opName (b : Int)⟩⟩, .int .i64 (opMode (b : Int)), .int .i64 (opKind (b : Int))], .int .i64 0]) ∧ Below W.heap.size W w' := by
  have hc := of_calls (b : Int) (by omega) (by omega) W
  unfold ofV at hc
  split at hc
  · rename_i he
    have : opName (Int.ofNat b) = [] := he
    rw [this] at ho
    cases ho
  · exact hc
set_option maxHeartbeats 3200000 in
/-- What is no branch: the same bytes. -/
theorem mov_oo (b m : Nat) (n a t : Int) (h : b < 256) (ha : bytE b n a = none) (ht : bytE b n t = none) (hm : opMode (Int.ofNat b) = (m : Int)) (hm13 : m < 12) (w : World) (hk : Rk.Knows kn5 w) :
    Calls Tryd.prog 3 #[.agg #[.int .u8 (b : Int), .int .i64 n], .int .i64 a, .int .i64 t] w fun e w' => e = .returned (.bool true) ∧ Below w.heap.size w w' := by
  have hg := good_len b n a h ha
  have c2 := fun x hx W (hW : Below w.heap.size w W) => byt_okC b n x h hx W (hk.below hW)
  have c3 := fun W hW => awake5_calls W (hk.below hW)
  have c4 := of_good b h hg.1
  have hlen := fun W => lenSame m (by omega) W
  have hI : bytI b n t = bytI b n a := by
    have : ¬ opMode (Int.ofNat b) = 12 := by omega
    simp only [bytI, if_neg this]
  have h0 := bytI_0 b n a
  have hL := bytI_len b n a h ha
  have em : opMode (b : Int) = (m : Int) := hm
  rw [hm] at hg c2 hL
  rw [em] at c4
  have hB := (Below.refl w.heap.size w).alloc (Nat.le_refl _) (.cells #[.int .u8 (b : Int), .int .i64 n] 23)
  have hbx : boxAt (w.alloc (.cells #[.int .u8 (b : Int), .int .i64 n] 23)) w.heap.size [.int .u8 (b : Int), .int .i64 n] 23 := by
    unfold boxAt; rw [heap_alloc_new]
  obtain ⟨L, hLe⟩ : ∃ L : Nat, (lenM (m : Int)) = (L : Int) := ⟨(lenM (m : Int)).toNat, by omega⟩
  rw [hLe] at hlen hg c2 hL
  rw [Int.toNat_natCast] at c2 hL
  have c2a := fun W hW => c2 a ha W hW
  have c2b := fun W hW => c2 t ht W hW
  rw [hI] at c2b
  generalize bytI b n a = xs at c2a c2b h0 hL
  obtain ⟨s, hs⟩ : ∃ s, opName (b : Int) = s := ⟨_, rfl⟩
  obtain ⟨k, hkk⟩ : ∃ k, opKind (b : Int) = k := ⟨_, rfl⟩
  rw [hs, hkk] at c4
  have hL1 : 1 ≤ L := by omega
  have hL3 : L ≤ 3 := by omega
  have d1 : decide ((L : Int) < 1) = false := decide_eq_false (by omega)
  have d2 : ((m : Int) == 12) = false := beq_eq_false_iff_ne.2 (by omega)
  clear c2 ha ht hm hm13 hk h hI em hs hkk hLe hg
  have f1 := True.intro
  have f2 := True.intro
  go_enter Tryd.func3, Tryd.ntmps3
  go_wp2_with (first
    | (clear f1; go_at_call 7; refine (c2a _ hB).mono ?_; rintro e w2 ⟨g2, cap2, rfl, hc2, hw2⟩; replace hB := stepB' hB hw2; replace hbx := hbx.below hw2; have q0 := hbx.cell 0; have q1 := hbx.cell 1)
    | (clear f2; go_at_call 7; refine (c2b _ hB).mono ?_; rintro e w3 ⟨g3, cap3, rfl, hc3, hw3⟩; replace hB := stepB' hB hw3; replace hbx := hbx.below hw3; have q0 := hbx.cell 0; have q1 := hbx.cell 1; replace hc2 := hc2.below hw3)
    | (go_at_call 8; refine (c4 _).mono ?_; rintro e w4 ⟨rfl, hw4⟩; replace hB := stepB' hB hw4; replace hB := hB.alloc hB.size (.cells #[.string ⟨⟨s⟩⟩, .int .i64 (m : Int), .int .i64 k] 29); replace hbx := (hbx.below hw4).alloc (.cells #[.string ⟨⟨s⟩⟩, .int .i64 (m : Int), .int .i64 k] 29); replace hc2 := (hc2.below hw4).alloc (.cells #[.string ⟨⟨s⟩⟩, .int .i64 (m : Int), .int .i64 k] 29); replace hc3 := (hc3.below hw4).alloc (.cells #[.string ⟨⟨s⟩⟩, .int .i64 (m : Int), .int .i64 k] 29)))
  have hx5 : boxAt (w4.alloc (.cells #[.string ⟨⟨s⟩⟩, .int .i64 (m : Int), .int .i64 k] 29)) w4.heap.size [.string ⟨⟨s⟩⟩, .int .i64 (m : Int), .int .i64 k] 29 := by unfold boxAt; rw [heap_alloc_new]
  generalize w4.alloc (.cells #[.string ⟨⟨s⟩⟩, .int .i64 (m : Int), .int .i64 k] 29) = W5 at hB hbx hc2 hc3 hx5 ⊢
  have r1 : W5.cell? ⟨w4.heap.size, 1, none⟩ = some (.int .i64 (m : Int)) := hx5.cell 1
  have r2 : W5.cell? ⟨w.heap.size, 0, none⟩ = some (.int .u8 (b : Int)) := hbx.cell 0
  have r3 : W5.cell? ⟨g2, 0, none⟩ = some (.int .u8 (b : Int)) := hc2 0 _ h0
  clear q0 q1 hw2 hw3 hw4 c2a c2b c4 hbx hx5
  have hmx := mixed
  go_quiet ((go_at_call 10; refine Calls.quiet_of_same (hlen _)))
  have hB6 : Below w.heap.size w (W5.drewN nq) := below_drewN hB nq
  have r4 : (W5.drewN nq).cell? ⟨w4.heap.size, 1, none⟩ = some (.int .i64 (m : Int)) := r1
  have hcc := cmp_calls (some ⟨g2, 0, none⟩) (some ⟨g3, 0, none⟩) L L cap2 cap3 xs xs (W5.drewN nq) hL.symm hL.symm (by omega) (fun j x hj => ⟨g2, 0, rfl, hc2 j x hj⟩) (fun j x hj => ⟨g3, 0, rfl, hc3 j x hj⟩)
  rw [show decide (xs = xs) = true by simp] at hcc
  generalize W5.drewN nq = W6 at hB6 r4 hcc ⊢
  clear r1 r2 r3 hB hc2 hc3 hlen
  go_wp2_with (first
    | (go_at_call 11; refine hcc.mono ?_; rintro e w7 ⟨rfl, hw7⟩; replace hB6 := stepB' hB6 hw7)
    | (go_at_call 9; refine (c3 _ hB6).mono ?_; rintro e w8 ⟨rfl, hw8⟩; replace hB6 := stepB' hB6 hw8))
  go_ret
  exact ⟨rfl, hB6⟩
set_option maxHeartbeats 3200000 in
/-- A branch: its last byte is so much more as it stands so much lower. -/
theorem mov_rel (b : Nat) (n a t : Int) (h : b < 256) (ha : bytE b n a = none) (ht : bytE b n t = none) (hm : opMode (Int.ofNat b) = 12) (w : World) (hk : Rk.Knows kn5 w) :
    Calls Tryd.prog 3 #[.agg #[.int .u8 (b : Int), .int .i64 n], .int .i64 a, .int .i64 t] w fun e w' => e = .returned (.bool true) ∧ Below w.heap.size w w' := by
  have hg := good_len b n a h ha
  have c2 := fun x hx W (hW : Below w.heap.size w W) => byt_okC b n x h hx W (hk.below hW)
  have c3 := fun W hW => awake5_calls W (hk.below hW)
  have c4 := of_good b h hg.1
  have hlen : ∀ W, Calls Tryd.prog 10 #[.int .i64 12] W fun e w' => e = .returned (.int .i64 2) ∧ w' = W := fun W => lenSame 12 (by decide) W
  have hIa : bytI b n a = [(b : Int), (n - (a + 2)) % 256] := by
    unfold bytI
    rw [if_pos hm]
    simp [outI, List.range_succ]
  have hIt : bytI b n t = [(b : Int), (n - (t + 2)) % 256] := by
    unfold bytI
    rw [if_pos hm]
    simp [outI, List.range_succ]
  have em : opMode (b : Int) = 12 := hm
  have e2 : (lenM 12).toNat = 2 := by decide
  rw [hm, e2] at c2
  rw [em] at c4
  have c2a := fun W hW => c2 a ha W hW
  have c2b := fun W hW => c2 t ht W hW
  rw [hIa] at c2a
  rw [hIt] at c2b
  have hB := (Below.refl w.heap.size w).alloc (Nat.le_refl _) (.cells #[.int .u8 (b : Int), .int .i64 n] 23)
  have hbx : boxAt (w.alloc (.cells #[.int .u8 (b : Int), .int .i64 n] 23)) w.heap.size [.int .u8 (b : Int), .int .i64 n] 23 := by
    unfold boxAt; rw [heap_alloc_new]
  obtain ⟨s, hs⟩ : ∃ s, opName (b : Int) = s := ⟨_, rfl⟩
  obtain ⟨k, hkk⟩ : ∃ k, opKind (b : Int) = k := ⟨_, rfl⟩
  rw [hs, hkk] at c4
  have bnd : ∀ x, bytE b n x = none → 0 ≤ x ∧ x ≤ 65535 := by
    intro x hx
    unfold bytE at hx
    split at hx
    · cases hx
    · split at hx
      · cases hx
      · split at hx
        · cases hx
        · omega
  have ba := bnd a ha
  have bt := bnd t ht
  have u0 : 0 ≤ (n - (a + 2)) % 256 := by omega
  have u1 : (n - (a + 2)) % 256 < 256 := by omega
  have v0 : 0 ≤ (n - (t + 2)) % 256 := by omega
  have v1 : (n - (t + 2)) % 256 < 256 := by omega
  have z : ((n - (t + 2)) % 256 - (n - (a + 2)) % 256 - a + t) % 256 = 0 := by omega
  generalize (n - (a + 2)) % 256 = u at c2a u0 u1 z
  generalize (n - (t + 2)) % 256 = v at c2b v0 v1 z
  have y4 : (wrap64 (wrap64 (wrap64 (wrap64 v - wrap64 u) - a) + t)).tmod 256 = 0 := by
    have e1 : wrap64 u = u := by unfold wrap64; omega
    have e2 : wrap64 v = v := by unfold wrap64; omega
    have e3 : wrap64 (v - u) = v - u := by unfold wrap64; omega
    have e4 : wrap64 (v - u - a) = v - u - a := by unfold wrap64; omega
    have e5 : wrap64 (v - u - a + t) = v - u - a + t := by unfold wrap64; omega
    rw [e1, e2, e3, e4, e5]
    exact Int.tmod_eq_zero_of_dvd (Int.dvd_of_emod_eq_zero z)
  have y5 : ((wrap64 (wrap64 (wrap64 (wrap64 v - wrap64 u) - a) + t)).tmod 256 == 0) = true := beq_iff_eq.2 y4
  clear c2 ha ht hm hk h em hs hkk hg bnd ba bt u0 u1 v0 v1 z hIa hIt
  have f1 := True.intro
  have f2 := True.intro
  go_enter Tryd.func3, Tryd.ntmps3
  go_wp2_with (first
    | (clear f1; go_at_call 7; refine (c2a _ hB).mono ?_; rintro e w2 ⟨g2, cap2, rfl, hc2, hw2⟩; replace hB := stepB' hB hw2; replace hbx := hbx.below hw2; have q0 := hbx.cell 0; have q1 := hbx.cell 1)
    | (clear f2; go_at_call 7; refine (c2b _ hB).mono ?_; rintro e w3 ⟨g3, cap3, rfl, hc3, hw3⟩; replace hB := stepB' hB hw3; replace hbx := hbx.below hw3; have q0 := hbx.cell 0; have q1 := hbx.cell 1; replace hc2 := hc2.below hw3)
    | (go_at_call 8; refine (c4 _).mono ?_; rintro e w4 ⟨rfl, hw4⟩; replace hB := stepB' hB hw4; replace hB := hB.alloc hB.size (.cells #[.string ⟨⟨s⟩⟩, .int .i64 12, .int .i64 k] 29); replace hbx := (hbx.below hw4).alloc (.cells #[.string ⟨⟨s⟩⟩, .int .i64 12, .int .i64 k] 29); replace hc2 := (hc2.below hw4).alloc (.cells #[.string ⟨⟨s⟩⟩, .int .i64 12, .int .i64 k] 29); replace hc3 := (hc3.below hw4).alloc (.cells #[.string ⟨⟨s⟩⟩, .int .i64 12, .int .i64 k] 29)))
  have hx5 : boxAt (w4.alloc (.cells #[.string ⟨⟨s⟩⟩, .int .i64 12, .int .i64 k] 29)) w4.heap.size [.string ⟨⟨s⟩⟩, .int .i64 12, .int .i64 k] 29 := by unfold boxAt; rw [heap_alloc_new]
  generalize w4.alloc (.cells #[.string ⟨⟨s⟩⟩, .int .i64 12, .int .i64 k] 29) = W5 at hB hbx hc2 hc3 hx5 ⊢
  have r1 : W5.cell? ⟨w4.heap.size, 1, none⟩ = some (.int .i64 12) := hx5.cell 1
  have r2 : W5.cell? ⟨w.heap.size, 0, none⟩ = some (.int .u8 (b : Int)) := hbx.cell 0
  have r3 : W5.cell? ⟨g2, 0, none⟩ = some (.int .u8 (b : Int)) := hc2 0 _ rfl
  clear q0 q1 hw2 hw3 hw4 c2a c2b c4 hbx hx5
  have hmx := mixed
  go_quiet ((go_at_call 10; refine Calls.quiet_of_same (hlen _)))
  have hB6 : Below w.heap.size w (W5.drewN nq) := below_drewN hB nq
  have r4 : (W5.drewN nq).cell? ⟨w4.heap.size, 1, none⟩ = some (.int .i64 12) := r1
  have s1 : (W5.drewN nq).cell? ⟨g2, 0, none⟩ = some (.int .u8 (b : Int)) := r3
  have s2 : (W5.drewN nq).cell? ⟨g3, 0, none⟩ = some (.int .u8 (b : Int)) := hc3 0 _ rfl
  have s3 : (W5.drewN nq).cell? ⟨g2, 1, none⟩ = some (.int .u8 u) := hc2 1 _ rfl
  have s4 : (W5.drewN nq).cell? ⟨g3, 1, none⟩ = some (.int .u8 v) := hc3 1 _ rfl
  generalize W5.drewN nq = W6 at hB6 r4 s1 s2 s3 s4 ⊢
  clear r1 r2 r3 hB hc2 hc3 hlen
  go_wp2_with (fail)
  go_still_tail 30, (by kernel_rfl)
  change wpList _ _ _ _ _ W6.drew
  replace hB6 : Below w.heap.size w W6.drew := ⟨hB6.os, hB6.tape, hB6.output, hB6.size, hB6.block⟩
  replace s1 : W6.drew.cell? ⟨g2, 0, none⟩ = some (.int .u8 (b : Int)) := s1
  replace s2 : W6.drew.cell? ⟨g3, 0, none⟩ = some (.int .u8 (b : Int)) := s2
  replace s3 : W6.drew.cell? ⟨g2, 1, none⟩ = some (.int .u8 u) := s3
  replace s4 : W6.drew.cell? ⟨g3, 1, none⟩ = some (.int .u8 v) := s4
  generalize W6.drew = W7 at hB6 s1 s2 s3 s4 ⊢
  clear r4
  go_wp2_with (go_at_call 9; refine (c3 _ hB6).mono ?_; rintro e w8 ⟨rfl, hw8⟩; replace hB6 := stepB' hB6 hw8)
  go_ret
  exact ⟨rfl, hB6⟩
end Go.Proofs.YtadkilofkpmpgaaDoor
