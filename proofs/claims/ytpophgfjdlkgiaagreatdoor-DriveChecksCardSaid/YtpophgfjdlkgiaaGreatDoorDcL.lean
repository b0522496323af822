/- 'DriveChecks' answers true. -/
import Derived.Test.YtpophgfjdlkgiaaGreatDoorDcD
import Derived.Test.YtpophgfjdlkgiaaGreatDoorRmX
import Derived.Deep.RegionHeld3
import Derived.Deep.Cut
namespace Go.Proofs.YtpophgfjdlkgiaaGreatDoor
open Go Go.RowKit
set_option maxRecDepth 100000
theorem stepI {w a b : World} (h : Below w.heap.size w a) (k : Below a.heap.size a b) : Below w.heap.size w b := h.trans (k.mono h.size)
/-- 'awake', wherever the laid variables read as they are laid. -/
theorem awk_calls {W : World} {j : Rm.Js} (h : Rm.LitOk W j) (h0 : W.cell? ⟨j.b 0, j.o 0, none⟩ = some (.int .i64 1)) (h1 : W.cell? ⟨j.b 0, j.o 0 + 1, none⟩ = some (.int .i64 24)) (w : World) (hw : Below W.heap.size W w) :
    Calls Tryz.prog 6 #[] w fun e w' => e = .returned (.bool true) ∧ Below w.heap.size w w' := by
  refine Rm.awake_calls W j h h0 h1 w fun a v o ha ho => ?_
  obtain ⟨g1, g2⟩ := Rm.knA_ok h a v o ha ho
  exact ⟨(hw.cell g2).trans g1, Nat.lt_of_lt_of_le g2 hw.size⟩

/-- 'awake' by its contract. -/
def sumAw : Rm.Call := fun f args H nx q ob => match Nat.beq f 6 with
  | true => match args with
    | [] => some ⟨.bool true, H, nx, nx, nx, q, ob⟩
    | _ => none
  | false => none
theorem sumAw_good {W : World} {j : Rm.Js} {B : Nat} (h : Rm.LitOk W j) (h0 : W.cell? ⟨j.b 0, j.o 0, none⟩ = some (.int .i64 1)) (h1 : W.cell? ⟨j.b 0, j.o 0 + 1, none⟩ = some (.int .i64 24)) : Rm.Good Tryz.prog B (Rm.knA W j) sumAw := by
  intro f args H nx q ob r hr
  unfold sumAw at hr
  split at hr
  · rename_i hf
    obtain rfl := Nat.eq_of_beq_eq_true hf
    split at hr
    · cases hr
      refine ⟨id, fun _ _ _ _ h => h, fun _ ρ w hR hk _ => ?_⟩
      have hk' : Rm.KnB w.heap.size (Rm.knA W j) w := fun a v o ha ho => ⟨(hk a v o ha ho).1, Nat.lt_of_lt_of_le (hk a v o ha ho).2 hR.base⟩
      refine Calls.mono (Rm.awake_calls W j h h0 h1 w hk') ?_
      rintro e w' ⟨rfl, hb⟩
      exact ⟨ρ, rfl, trivial, hR.below hb, Rm.Ext.below hb⟩
    · cases hr
  · cases hr
theorem long_run (W : World) (j : Rm.Js) (B o L c : Nat) (n : Int) (K : Value → Prop → Prop) : Rm.okV (Rm.fn Tryz.prog okf (Rm.knA W j) Rm.bz sumAw 60 1 3 [.agg ⟨[.int .i64 n, .slice (some ⟨B, o, none⟩) L c]⟩] [] 0 [(0, true)] True) K =
    K (.bool true) (decide ((L : Int) > 1100) = true ∧ True) := by kernel_rfl
theorem law_long {W : World} {j : Rm.Js} (h : Rm.LitOk W j) (h0 : W.cell? ⟨j.b 0, j.o 0, none⟩ = some (.int .i64 1)) (h1 : W.cell? ⟨j.b 0, j.o 0 + 1, none⟩ = some (.int .i64 24)) (B o L c : Nat) (n : Int) (hL : 1100 < L) :
    Calls Tryz.prog 3 #[.agg #[.int .i64 n, .slice (some ⟨B, o, none⟩) L c]] W fun e w' => e = .returned (.bool true) ∧ Below W.heap.size W w' := by
  obtain ⟨s, hr, e1, e2⟩ := Rm.okV_eq (long_run W j B o L c n)
  exact Rm.calls_fn mixed Rm.bz_ok okf_ok (sumAw_good h h0 h1) hr (by rw [e2]; exact ⟨decide_eq_true (by omega), trivial⟩) e1 rfl rfl (Rm.knA_ok h)

set_option maxHeartbeats 1600000 in
theorem law_main (p : Option Addr) (es : List Int) (c : Nat) (n : Int) (hL : es.length ≤ 1100) (w : World) (hx : IntAt w p es) (c3 : ∀ W, Below w.heap.size w W → Calls Tryz.prog 6 #[] W fun e w' => e = .returned (.bool true) ∧ Below W.heap.size W w') :
    Calls Tryz.prog 3 #[.agg #[.int .i64 n, .slice p es.length c]] w fun e w' => e = .returned (.bool true) ∧ Below w.heap.size w w' := by
  have d1 : decide (1100 < (es.length : Int)) = false := decide_eq_false (by omega)
  have c1 := fun W (hW : Below w.heap.size w W) => check_calls p c es n W (by omega) (hx.below hW)
  have c2 := fun W (hW : Below w.heap.size w W) => refchk_calls p c es n W (by omega) (hx.below hW)
  rw [chk_same] at c1
  clear hx
  generalize chkR n es = R at c1 c2
  generalize es.length = L at c1 c2 d1 hL ⊢
  clear hL
  have hB7 := (Below.refl w.heap.size w).alloc (Nat.le_refl _) (.cells #[.int .i64 n, .slice p L c] 24)
  have hbx : boxI (w.alloc (.cells #[.int .i64 n, .slice p L c] 24)) w.heap.size [.int .i64 n, .slice p L c] 24 := by
    unfold boxI; rw [heap_alloc_new]
  go_enter Tryz.func3, Tryz.ntmps3
  go_wp2
  have hN : w.heap.size ≤ (w.alloc (.cells #[.int .i64 n, .slice p L c] 24)).heap.size := hB7.size
  generalize w.alloc (.cells #[.int .i64 n, .slice p L c] 24) = W7 at hB7 hbx hN ⊢
  generalize hNN : w.heap.size = N at hbx hN ⊢
  have r0 : ∀ W', Below W7.heap.size W7 W' → W'.cell? ⟨N, 0, none⟩ = some (.int .i64 n) := fun W' hW => (hbx.below hW).cell 0
  have r1 : ∀ W', Below W7.heap.size W7 W' → W'.cell? ⟨N, 1, none⟩ = some (.slice p L c) := fun W' hW => (hbx.below hW).cell 1
  have sA : ∀ W', Below W7.heap.size W7 W' → Calls Tryz.prog 6 #[] W' fun e w'' => e = .returned (.bool true) ∧ Below W7.heap.size W7 w'' := fun W' hW =>
    (c3 W' (stepI hB7 hW)).mono fun e w'' ⟨he, hb⟩ => ⟨he, stepI hW hb⟩
  have sC : ∀ W', Below W7.heap.size W7 W' → Calls Tryz.prog 4 #[.agg #[.int .i64 n, .slice p L c]] W' fun e w'' => e = .returned (.int .i64 R) ∧ Below W7.heap.size W7 w'' := fun W' hW =>
    (c1 W' (stepI hB7 hW)).mono fun e w'' ⟨he, hb⟩ => ⟨he, stepI hW hb⟩
  have sR : ∀ W', Below W7.heap.size W7 W' → Calls Tryz.prog 5 #[.int .i64 n, .slice p L c] W' fun e w'' => e = .returned (.int .i64 R) ∧ Below W7.heap.size W7 w'' := fun W' hW =>
    (c2 W' (stepI hB7 hW)).mono fun e w'' ⟨he, hb⟩ => ⟨he, stepI hW hb⟩
  have hB8 := Below.refl W7.heap.size W7
  have hD : Below W7.heap.size W7 W7.drew := ⟨hB8.os, hB8.tape, hB8.output, hB8.size, hB8.block⟩
  have g0 := r0 _ hD
  have g1 := r1 _ hD
  have z0 := r0 _ hB8
  have z1 := r1 _ hB8
  clear hbx c3 c1 c2
  have hmx := mixed
  go_region_held3 (fun w' => Below W7.heap.size W7 w' ∧ w'.cell? ⟨N, 0, none⟩ = some (.int .i64 n) ∧ w'.cell? ⟨N, 1, none⟩ = some (.slice p L c))
    (first | exact ⟨by assumption, by assumption, by assumption⟩)
    (first
      | (go_at_call 4; refine (sC _ (by assumption)).mono ?_; rintro e w' ⟨rfl, hw⟩; have t0 := r0 _ hw; have t1 := r1 _ hw)
      | (go_at_call 5; refine (sR _ (by assumption)).mono ?_; rintro e w' ⟨rfl, hw⟩; have t0 := r0 _ hw; have t1 := r1 _ hw)
      | (go_at_call 6; refine (sA _ (by assumption)).mono ?_; rintro e w' ⟨rfl, hw⟩; have t0 := r0 _ hw; have t1 := r1 _ hw))
  all_goals
    go_wp2
    go_ret
    exact ⟨rfl, stepI hB7 hw⟩
end Go.Proofs.YtpophgfjdlkgiaaGreatDoor
