/- 'cochinealref05.Wrong', 'cochineallaw05.plain': what they answer. -/
import Derived.Test.YtadkilofkpmpgaaGreatDoorFnd
import Derived.Test.YtadkilofkpmpgaaGreatDoorRdC
namespace Go.Proofs.YtadkilofkpmpgaaGreatDoor
open Go Go.RowKit
set_option maxRecDepth 100000
noncomputable abbrev runWr (b : Nat) (n : Int) (orc : Rk.Orc) : Option (Value × Rk.Orc × Prop) :=
  Rk.fn Tryz.prog okf Rk.noKn callF 60 2 8 #[.agg ⟨[.int .i64 (Int.ofNat b), .int .i64 n]⟩] orc True
def kWr (b : Nat) : Nat := match opMode (Int.ofNat b) with
  | 6 => 4
  | 7 => 5
  | 8 => 6
  | 11 => 7
  | _ => 8
def mostM (b : Nat) : Int := limM (opMode (Int.ofNat b)) - 1
theorem wr_bad (n : Int) : bad.map (fun b => runWr b n []) = bad.map (fun _ => some (.int .i64 13, [], True)) := by kernel_rfl
theorem wr_neg (n : Int) : good.map (fun b => runWr b n [(kWr b, true)]) = good.map (fun _ => some (.int .i64 10, [], decide (n < 0) = true ∧ True)) := by kernel_rfl
theorem wr_far (n : Int) : good.map (fun b => runWr b n [(kWr b, false), (0, true)]) = good.map (fun b => some (.int .i64 10, [], decide (n > mostM b) = true ∧ decide (n < 0) = false ∧ True)) := by kernel_rfl
theorem wr_in (n : Int) : good.map (fun b => runWr b n [(kWr b, false), (0, false)]) = good.map (fun b => some (.int .i64 0, [], decide (n > mostM b) = false ∧ decide (n < 0) = false ∧ True)) := by kernel_rfl
/-- What is wrong with a line. -/
def wrongI (x n : Int) : Int := if (opName x).isEmpty = true then 13 else if n < 0 ∨ limM (opMode x) ≤ n then 10 else 0
theorem wrong_calls (x n : Int) (h0 : 0 ≤ x) (h1 : x < 256) (w : World) : Calls Tryz.prog 8 #[.agg #[.int .i64 x, .int .i64 n]] w fun e w' => e = .returned (.int .i64 (wrongI x n)) ∧ Below w.heap.size w w' := by
  obtain ⟨b, rfl⟩ := Int.eq_ofNat_of_zero_le h0
  have hb : b < 256 := by omega
  have good' : ∀ {q : Rk.Orc} {v : Value} {q' : Rk.Orc} {ob : Prop}, runWr b n q = some (v, q', ob) → ob →
      Calls Tryz.prog 8 #[.agg #[.int .i64 (Int.ofNat b), .int .i64 n]] w fun e w' => e = .returned v ∧ Below w.heap.size w w' :=
    fun {q v q' ob} h ho => (Rk.fn_good mixed okf_ok (callF_good _) 2 _ _ _ _ _ _ _ h w (Rk.noKn_knows w) ho).2
  show Calls Tryz.prog 8 #[.agg #[.int .i64 (Int.ofNat b), .int .i64 n]] w fun e w' => e = .returned (.int .i64 (wrongI (Int.ofNat b) n)) ∧ Below w.heap.size w w'
  unfold wrongI
  by_cases ho : (opName (Int.ofNat b)).isEmpty = true
  · rw [if_pos ho]
    exact good' (List.map_inj_left.1 (wr_bad n) b (mem_bad b hb ho)) trivial
  · have hm := mem_good b hb (by simpa using ho)
    rw [if_neg ho]
    by_cases n0 : n < 0
    · rw [if_pos (.inl n0)]
      exact good' (List.map_inj_left.1 (wr_neg n) b hm) ⟨decide_eq_true n0, trivial⟩
    · by_cases n1 : limM (opMode (Int.ofNat b)) ≤ n
      · rw [if_pos (.inr n1)]
        exact good' (List.map_inj_left.1 (wr_far n) b hm) ⟨decide_eq_true (by unfold mostM; omega), decide_eq_false n0, trivial⟩
      · rw [if_neg (by omega)]
        exact good' (List.map_inj_left.1 (wr_in n) b hm) ⟨decide_eq_false (by unfold mostM; omega), decide_eq_false n0, trivial⟩
theorem pl_run (b n : Int) : Rk.fn Tryz.prog okf Rk.noKn (Rk.ofSpec Rk.noSpec) 60 1 9 #[.agg #[.int .u8 b, .int .i64 n]] [] True = some (.agg #[.int .i64 (IntKind.i64.wrap b), .int .i64 n], [], True) := by kernel_rfl
theorem plain_calls (b n : Int) (h0 : 0 ≤ b) (h1 : b < 256) (w : World) : Calls Tryz.prog 9 #[.agg #[.int .u8 b, .int .i64 n]] w fun e w' => e = .returned (.agg #[.int .i64 b, .int .i64 n]) ∧ Below w.heap.size w w' := by
  have h := Rk.calls_fn mixed okf_ok Rk.noSpec_good (pl_run b n) w (Rk.noKn_knows w)
  rw [show IntKind.i64.wrap b = b by rw [IntKind.wrap_i64]; omega] at h
  exact h
/-- 'bytE' at a number. -/
def bytEI (x n a : Int) : Option Int := bytE x.toNat n a
theorem bytE_wrong (b : Nat) (n a : Int) : bytE b n a = if wrongI (Int.ofNat b) n = 0 then
    (if a < 0 ∨ 65535 < a ∨ 65536 < a + lenM (opMode (Int.ofNat b)) then some 10 else if opMode (Int.ofNat b) = 12 ∧ (n - (a + 2) < -128 ∨ 128 ≤ n - (a + 2)) then some 10 else none)
    else some (wrongI (Int.ofNat b) n) := by
  unfold bytE wrongI
  by_cases ho : (opName (Int.ofNat b)).isEmpty = true
  · rw [if_pos ho, if_pos ho]; rfl
  · rw [if_neg ho, if_neg ho]
    by_cases hn : n < 0 ∨ limM (opMode (Int.ofNat b)) ≤ n
    · rw [if_pos hn, if_pos hn]; rfl
    · rw [if_neg hn, if_neg hn]; rfl
/-- What is answered where something is wrong, but for a branch that is too far. -/
def callB (e : Int) : Rk.Call := fun f args q ob => match f, args with
  | 8, ⟨[.agg ⟨[.int .i64 x, .int .i64 n]⟩]⟩ => some (.int .i64 e, q, (0 ≤ x ∧ x < 256 ∧ wrongI x n = e) ∧ ob)
  | 22, ⟨[.int .i64 x]⟩ => some (.tuple ⟨[.int .i64 (fnd x).1, .int .i64 (fnd x).2]⟩, q, ob)
  | 63, ⟨[.int .i64 m]⟩ => some (.int .i64 (lenM m), q, ob)
  | _, _ => none
theorem callB_good (kn : Rk.Kn) (e : Int) : Rk.Good Tryz.prog kn (callB e) := by
  intro f args q ob v q' ob' h w hk ho
  unfold callB at h
  split at h
  · rename_i x n
    simp only [Option.some.injEq, Prod.mk.injEq] at h
    obtain ⟨rfl, rfl, rfl⟩ := h
    obtain ⟨⟨h0, h1, h2⟩, h3⟩ := ho
    refine ⟨h3, ?_⟩
    have := wrong_calls x n h0 h1 w
    rw [h2] at this
    exact this
  · simp only [Option.some.injEq, Prod.mk.injEq] at h
    obtain ⟨rfl, rfl, rfl⟩ := h
    exact ⟨ho, find_calls _ w⟩
  · simp only [Option.some.injEq, Prod.mk.injEq] at h
    obtain ⟨rfl, rfl, rfl⟩ := h
    exact ⟨ho, rlen_calls _ w⟩
  · cases h
noncomputable abbrev runRb (x n a e : Int) (orc : Rk.Orc) : Option (Value × Rk.Orc × Prop) :=
  Rk.fn Tryz.prog okf Rk.noKn (callB e) 60 1 35 #[.agg ⟨[.int .i64 x, .int .i64 n]⟩, .int .i64 a] orc True
abbrev pW (x n e : Int) : Prop := (0 ≤ x ∧ x < 256 ∧ wrongI x n = e) ∧ True
theorem rb_13 (x n a : Int) : runRb x n a 13 [] = some (noB 13, [], pW x n 13) := by kernel_rfl
theorem rb_10 (x n a : Int) : runRb x n a 10 [] = some (noB 10, [], pW x n 10) := by kernel_rfl
theorem rb_a0 (x n a : Int) : runRb x n a 0 [(1, true)] = some (noB 10, [], decide (a < 0) = true ∧ pW x n 0) := by kernel_rfl
theorem rb_a1 (x n a : Int) : runRb x n a 0 [(1, false), (0, true)] = some (noB 10, [], decide (a > 65535) = true ∧ decide (a < 0) = false ∧ pW x n 0) := by kernel_rfl
theorem rb_a2 (x n a : Int) : runRb x n a 0 [(1, false), (0, false), (0, true)] = some (noB 10, [], decide (IntKind.i64.wrap (a + lenM (fnd x).2) > 65536) = true ∧ decide (a > 65535) = false ∧ decide (a < 0) = false ∧ pW x n 0) := by kernel_rfl
end Go.Proofs.YtadkilofkpmpgaaGreatDoor
