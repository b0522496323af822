/- 'asm.Bytes': at every byte, every number, every address. -/
import Derived.Test.YtadkilofkpmpgaaGreatDoorChk
import Derived.Test.YtadkilofkpmpgaaGreatDoorLen
import Derived.WalkKit
import Derived.OwnWalk
import Derived.Deep.QuietTactic
import Derived.BigQuiet
import Derived.Maps.AppendAt
namespace Go.Proofs.YtadkilofkpmpgaaGreatDoor
open Go Go.RowKit
set_option maxRecDepth 100000
theorem lenSame (m : Nat) (h : m < 13) (w : World) : Calls Tryz.prog 39 #[.int .i64 (m : Int)] w fun e w' => e = .returned (.int .i64 (lenM (m : Int))) ∧ w' = w := by
  have hm : m = 0 ∨ m = 1 ∨ m = 2 ∨ m = 3 ∨ m = 4 ∨ m = 5 ∨ m = 6 ∨ m = 7 ∨ m = 8 ∨ m = 9 ∨ m = 10 ∨ m = 11 ∨ m = 12 := by omega
  rcases hm with rfl | rfl | rfl | rfl | rfl | rfl | rfl | rfl | rfl | rfl | rfl | rfl | rfl
  all_goals
    go_enter Tryz.func39, Tryz.ntmps39
    go_wp2
    go_ret
    exact ⟨rfl, rfl⟩

theorem stepB' {w a b : World} (h : Below w.heap.size w a) (k : Below a.heap.size a b) : Below w.heap.size w b := h.trans (k.mono h.size)
abbrev boxAt (W : World) (B : Nat) (cs : List Value) (t : TypeId) : Prop := W.heap[B]? = some (.cells cs.toArray t (0, 0))
theorem boxAt.below {W W2 : World} {B : Nat} {cs : List Value} {t : TypeId} (h : boxAt W B cs t) (hb : Below W.heap.size W W2) : boxAt W2 B cs t := (hb.block _ (Array.getElem?_eq_some_iff.1 h).1).trans h
theorem boxAt.alloc {W : World} {B : Nat} {cs : List Value} {t : TypeId} (h : boxAt W B cs t) (o : Obj) : boxAt (W.alloc o) B cs t := (Below.heap_alloc W o B (Array.getElem?_eq_some_iff.1 h).1).trans h
theorem boxAt.cell {W : World} {B : Nat} {cs : List Value} {t : TypeId} (h : boxAt W B cs t) (j : Nat) : W.cell? ⟨B, j, none⟩ = cs[j]? := by
  rw [show (⟨B, j, none⟩ : Addr) = ⟨B, j, none⟩ from rfl, cell_of_row W B j _ _ _ h]; simp

theorem below_drewN {B : Nat} {a w : World} (h : Below B a w) (n : Nat) : Below B a (w.drewN n) := ⟨h.os, h.tape, h.output, h.size, h.block⟩
/-- The bytes behind an opcode: the number's, the lowest first. -/
def tailV (n : Int) (i : Nat) : Value := .int .u8 (n / 256 ^ i % 256)
def outV (b n : Int) (i : Nat) : List Value := .int .u8 b :: (List.range i).map (tailV n)

set_option maxHeartbeats 1600000 in
theorem byt_plain (b m : Nat) (n at' : Int) (h : b < 256) (ho : (opName (Int.ofNat b)).isEmpty = false) (hm : opMode (Int.ofNat b) = (m : Int)) (hm13 : m < 12) (h0 : 0 ≤ n) (h1 : n < limM (opMode (Int.ofNat b)))
    (ha0 : 0 ≤ at') (ha1 : at' + lenM (m : Int) ≤ 65536) (hl : 1 ≤ lenM (m : Int) ∧ lenM (m : Int) ≤ 3) (w : World) (hk : Rk.Knows kn5 w) :
    Calls Tryz.prog 17 #[.agg #[.int .u8 (b : Int), .int .i64 n], .int .i64 at'] w fun e w' => ∃ v, e = .returned (.tuple #[v, .int .i64 0]) ∧ w'.ownsRow w.heap.size 5 1 v (lenM (m : Int)).toNat (outV b n ((lenM (m : Int)).toNat - 1)) ∧ Below w.heap.size w w' := by
  have hchk : ∀ W, Below w.heap.size w W → Calls Tryz.prog 18 #[.agg #[.int .u8 (b : Int), .int .i64 n]] W fun e w' => e = .returned (.tuple #[.agg #[.string ⟨⟨opName (b : Int)⟩⟩, .int .i64 (m : Int), .int .i64 (opKind (b : Int))], .int .i64 0]) ∧ Below W.heap.size W w' := fun W hW => by
    have := chk_calls_in b n h ho h0 h1 W (hk.below hW)
    rw [opV, hm] at this
    exact this
  have hlen := fun W => lenSame m (by omega) W
  have hB := (Below.refl w.heap.size w).alloc (Nat.le_refl _) (.cells #[.int .u8 (b : Int), .int .i64 n] 23)
  have hbx : boxAt (w.alloc (.cells #[.int .u8 (b : Int), .int .i64 n] 23)) w.heap.size [.int .u8 (b : Int), .int .i64 n] 23 := by
    unfold boxAt; rw [heap_alloc_new]
  have d1 : decide (at' < 0) = false := decide_eq_false (by omega)
  have d2 : decide (at' > 65535) = false := decide_eq_false (by omega)
  have d3 : decide (65535 < at') = false := decide_eq_false (by omega)
  have dm : ((m : Int) == 12) = false := beq_eq_false_iff_ne.2 (by omega)
  clear hk h h0 h1
  generalize lenM (m : Int) = z at hl ha1 hlen ⊢
  go_enter Tryz.func17, Tryz.ntmps17
  go_wp2_with (go_at_call 18; refine (hchk _ hB).mono ?_; rintro e w2 ⟨rfl, hw2⟩)
  have hB2 := (stepB' hB hw2).alloc (Nat.le_trans hB.size hw2.size) (.cells #[.string ⟨⟨opName (b : Int)⟩⟩, .int .i64 (m : Int), .int .i64 (opKind (b : Int))] 49)
  have hb2 := (hbx.below hw2).alloc (.cells #[.string ⟨⟨opName (b : Int)⟩⟩, .int .i64 (m : Int), .int .i64 (opKind (b : Int))] 49)
  have hx2 : boxAt (w2.alloc (.cells #[.string ⟨⟨opName (b : Int)⟩⟩, .int .i64 (m : Int), .int .i64 (opKind (b : Int))] 49)) w2.heap.size [.string ⟨⟨opName (b : Int)⟩⟩, .int .i64 (m : Int), .int .i64 (opKind (b : Int))] 49 := by unfold boxAt; rw [heap_alloc_new]
  have c0 : (w2.alloc (.cells #[.string ⟨⟨opName (b : Int)⟩⟩, .int .i64 (m : Int), .int .i64 (opKind (b : Int))] 49)).cell? ⟨w.heap.size, 0, none⟩ = some (.int .u8 (b : Int)) := hb2.cell 0
  have c1 : (w2.alloc (.cells #[.string ⟨⟨opName (b : Int)⟩⟩, .int .i64 (m : Int), .int .i64 (opKind (b : Int))] 49)).cell? ⟨w.heap.size, 1, none⟩ = some (.int .i64 n) := hb2.cell 1
  have x1 : (w2.alloc (.cells #[.string ⟨⟨opName (b : Int)⟩⟩, .int .i64 (m : Int), .int .i64 (opKind (b : Int))] 49)).cell? ⟨w2.heap.size, 1, none⟩ = some (.int .i64 (m : Int)) := hx2.cell 1
  generalize w2.alloc (.cells #[.string ⟨⟨opName (b : Int)⟩⟩, .int .i64 (m : Int), .int .i64 (opKind (b : Int))] 49) = W3 at hB2 hb2 hx2 c0 c1 x1 ⊢
  have hmx := mixed
  go_quiet ((go_at_call 39; refine Calls.quiet_of_same (hlen _)))
  have hB4 : Below w.heap.size w (W3.drewN nq) := below_drewN hB2 nq
  have e0 : (W3.drewN nq).cell? ⟨w.heap.size, 0, none⟩ = some (.int .u8 (b : Int)) := c0
  have y1 : (W3.drewN nq).cell? ⟨w2.heap.size, 1, none⟩ = some (.int .i64 (m : Int)) := x1
  generalize W3.drewN nq = W4 at hB4 e0 y1 ⊢
  clear hb2 hx2 c0 c1 x1 hB2 hlen hchk
  have hw : wrap64 (at' + z) = at' + z := by unfold wrap64; omega
  have d4 : decide (at' + z > 65536) = false := decide_eq_false (by omega)
  have d5 : decide (65536 < at' + z) = false := decide_eq_false (by omega)
  go_wp2
  have hB5 := hB4.alloc hB4.size (.cells #[.int .u8 (b : Int)] 5)
  have hown : (W4.alloc (.cells #[.int .u8 (b : Int)] 5)).ownsRow w.heap.size 5 1 (.slice (some ⟨W4.heap.size, 0, none⟩) 1 1) 1 (outV b n 0) := by
    refine ⟨by simp [outV], .inr ⟨W4.heap.size, 1, #[.int .u8 (b : Int)], rfl, hB4.size, by rw [heap_alloc_new], Nat.le_refl _, by decide, by simp, by simp [outV]⟩⟩
  obtain ⟨i0, hi, hz0, hz1, hz2⟩ := info_parts (show (Tryz.prog.info? 5).map (fun i => (i.zero, i.size, i.bytes)) = some (some (.int .u8 0), 1, 1) by kernel_rfl)
  go_loopw [10, 56] (fun v10 v56 w6 => ∃ i : Nat, (i : Int) ≤ z - 1 ∧ v56 = .int .i64 i ∧ w6.ownsRow w.heap.size 5 1 v10 (i + 1) (outV b n i) ∧ Below w.heap.size w w6) (fun _ v56 _ => 3 - (intOf v56).toNat)
  case atStart => exact ⟨0, by omega, rfl, hown, hB5⟩
  case round =>
    clear hown hB5
    obtain ⟨i, hi2, rfl, hown, hB⟩ := hrel
    have hB6 := hB.size
    by_cases hlt : (i : Int) < z - 1
    · have hd : decide ((i : Int) < z - 1) = true := decide_eq_true hlt
      have hi3 : i = 0 ∨ i = 1 := by omega
      rcases hi3 with rfl | rfl
      · go_wp2_with (at_builtin; refine wpList_append_own _ rfl _ _ 38 rfl w.heap.size 5 i0 (.int .u8 0) 1 1 Tryz.underlying38 hi hz0 hz1 hz2 rfl (by decide) _ _ _ rfl (hown.alloc _) ⟨wr.heap.size, 0, none⟩ 1 1 [.int .u8 (n % 256)] rfl rfl (cell_one_new _ _ _) (by simp [Value.oneCell']) (by decide) (by decide) (by simp; omega) ?_; intro v' w7 hown' hgrow _)
        have hB7 := (hB.alloc hB6 _).grown hgrow (by simp; omega) (fun k hk => (hown.lt k hk).1)
        exact ⟨⟨1, by omega, rfl, by simpa [outV, tailV] using hown', hB7⟩, by simp [intOf]⟩
      · go_wp2_with (at_builtin; refine wpList_append_own _ rfl _ _ 38 rfl w.heap.size 5 i0 (.int .u8 0) 1 1 Tryz.underlying38 hi hz0 hz1 hz2 rfl (by decide) _ _ _ rfl (hown.alloc _) ⟨wr.heap.size, 0, none⟩ 1 1 [.int .u8 (n / 256 % 256)] rfl rfl (cell_one_new _ _ _) (by simp [Value.oneCell']) (by decide) (by decide) (by simp; omega) ?_; intro v' w7 hown' hgrow _)
        have hB7 := (hB.alloc hB6 _).grown hgrow (by simp; omega) (fun k hk => (hown.lt k hk).1)
        exact ⟨⟨2, by omega, rfl, by simpa [outV, tailV, List.range_succ] using hown', hB7⟩, by simp [intOf]⟩
    · have hd : decide ((i : Int) < z - 1) = false := decide_eq_false hlt
      have hzi : z.toNat = i + 1 := by omega
      go_wp2
      go_ret2
      exact ⟨u10, rfl, hown, hB⟩
end Go.Proofs.YtadkilofkpmpgaaGreatDoor
