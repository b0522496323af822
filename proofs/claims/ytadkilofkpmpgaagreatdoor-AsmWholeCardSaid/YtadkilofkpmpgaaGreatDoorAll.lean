/- 'opcode.All': the iterator's contract. -/
import Derived.RangeFuncNested
import Derived.RangeFuncBound
import Derived.RangeFuncCalls
import Derived.RangeFuncLeaves
import Derived.Shelf.Abstract
import Derived.WalkKit
import Derived.OwnWalkIn
import Derived.TacticsInMore
import Derived.LoopNIn
import Derived.LoopIn
import Derived.Test.YtadkilofkpmpgaaGreatDoorOps
namespace Go.Proofs.YtadkilofkpmpgaaGreatDoor
open Go Go.RowKit Go.Shelf Go.Proofs
attribute [local go_sem] Oper.semAt_some

/-- What the iterator hands on: a byte, and its row. -/
abbrev Ent := Nat
abbrev rowV (b : Nat) : Value := .agg #[.string ⟨⟨opName b⟩⟩, .int .i64 (opMode b), .int .i64 (opKind b)]
abbrev encE (b : Ent) : Array Value := #[.int .u8 (b : Int), rowV b]
def isOp (b : Nat) : Bool := !(opName b).isEmpty
/-- What has come when k rounds are over. -/
def upto (k : Nat) : List Ent := (List.range k).filter isOp
theorem upto_hit (k : Nat) (h : isOp k = true) : upto (k + 1) = upto k ++ [k] := by
  unfold upto; rw [List.range_succ, List.filter_append]; simp [h]
theorem upto_miss (k : Nat) (h : isOp k = false) : upto (k + 1) = upto k := by
  unfold upto; rw [List.range_succ, List.filter_append]; simp [h]
theorem upto_len (k : Nat) : (upto k).length ≤ k := by
  unfold upto; exact Nat.le_trans (List.length_filter_le _ _) (by simp)

theorem index_all (w : World) : (List.range 256).map (fun k => Sem.run Tryz.prog (Instr.index 117 (.agg ⟨opAll⟩) (.int .i64 (Int.ofNat k))) w) = (List.range 256).map (fun k => Result.ok (rowV k) w) := by kernel_rfl
theorem index_row (k : Nat) (h : k < 256) (w : World) : Sem.run Tryz.prog (Instr.index 117 (.agg ⟨opAll⟩) (.int .i64 (k : Int))) w = Result.ok (rowV k) w :=
  List.map_inj_left.1 (index_all w) k (List.mem_range.2 h)

set_option maxRecDepth 100000 in
set_option maxHeartbeats 2000000 in
theorem all1_in (F : Fence) (n : Nat) (hF : F = Fence.wide) (hn : 1 ≤ n) (l n₀ : Nat) (J Jx : List Ent → World → Prop)
    (W : World) (hJ : AbidesFrom W.heap.size J) 
    (hY : ∀ pre x W1, J pre W1 → pre.length < 256 → YieldAt F (n - 1) Tryz.prog l (encE x) W1 fun e W' =>
      (e = .returned (.bool true) ∧ J (pre ++ [x]) W' ∧ Below n₀ W1 W') ∨ (e = .returned (.bool false) ∧ Jx (pre ++ [x]) W'))
    (h0 : J [] W) :
    CallsIn F n Tryz.prog 86 #[.func (.yield l) #[] #[]] W fun e W' => (∃ v, e = .returned v) ∧
      ((∃ ys, ys = upto 256 ∧ J ys W') ∨ (∃ pre, (∃ k, k < 256 ∧ isOp k = true ∧ pre = upto (k + 1)) ∧ Jx pre W')) := by
  subst hF
  refine callsIn_of_wp Tryz.func86 rfl trivial ?_ rfl
  simp only [Tryz.ntmps86, List.size_toArray, List.length_cons, List.length_nil, Nat.reduceAdd, Nat.reduceSub, Array.replicate_succ, Array.replicate_zero, List.push_toArray, List.append_toArray, List.nil_append, List.cons_append]
  gi_wp2_with (refine ⟨trivial, ?_⟩; gi_at_call 65; refine (callsIn_wide.2 (ops_calls _)).mono ?_; rintro e w' ⟨rfl, hw'⟩)
  gi_loopw [5] (fun i wr => ∃ k : Nat, k ≤ 256 ∧ i = .int .i64 k ∧ J (upto k) wr ∧ W.heap.size ≤ wr.heap.size)
    (fun i _ => 256 - (intOf i).toNat)
  case atStart => exact ⟨0, Nat.zero_le _, rfl, hJ _ _ _ none h0 ⟨hw'.os, hw'.tape, hw'.output, hw'.size, fun k hk _ => hw'.block k hk⟩ (fun r e => by cases e), hw'.size⟩
  case round =>
    obtain ⟨k, hk, rfl, hJs, hsz⟩ := hrel
    by_cases hlt : k < 256
    · have hd : decide ((k : Int) < 256) = true := decide_eq_true (by omega)
      have hx := index_row k hlt wr
      cases he : (opName (k : Int)).isEmpty with
      | false =>
        have hop : isOp k = true := by unfold isOp; rw [he]; rfl
        obtain ⟨fn, tmps, assign, body, hy, hR⟩ := hY (upto k) k (wr.alloc (.cells #[.string ⟨⟨opName (k : Int)⟩⟩, .int .i64 (opMode (k : Int)), .int .i64 (opKind (k : Int))] 49)) (hJ _ _ _ none hJs (World.grownBy_alloc _ _ _) (fun r e => by cases e)) (Nat.lt_of_le_of_lt (upto_len k) hlt)
        dsimp only [encE, rowV] at hy
        gi_wp2
        refine hR.mono ?_
        rintro e W3 (⟨rfl, hJ3, hk3⟩ | ⟨rfl, hJx3⟩)
        · gi_wp2
          go_roundw
          case rel => exact ⟨k + 1, by omega, by go_num, by rw [upto_hit k hop]; exact hJ3, Nat.le_trans hsz (Nat.le_trans (by simp) hk3.size)⟩
          case measure => simp [intOf]; omega
        · gi_wp2
          refine bodyPost_ret (results_none rfl _ _ _) rfl ?_
          exact ⟨⟨_, rfl⟩, .inr ⟨_, ⟨k, hlt, hop, (upto_hit k hop).symm⟩, hJx3⟩⟩
      | true =>
        have hop : isOp k = false := by unfold isOp; rw [he]; rfl
        gi_wp2
        refine ⟨fun _ h => (by cases h), ?_⟩
        gi_wp2
        go_roundw
        case rel => exact ⟨k + 1, by omega, by go_num, by rw [upto_miss k hop]; exact hJ _ _ _ none hJs (World.grownBy_alloc _ _ _) (fun r e => by cases e), Nat.le_trans hsz (by simp)⟩
        case measure => simp [intOf]; omega
    · have hk6 : k = 256 := by omega
      subst hk6
      gi_wp2
      go_end0
      exact ⟨⟨_, rfl⟩, .inl ⟨_, rfl, hJs⟩⟩
theorem all_run : Rk.fn Tryz.prog okf Rk.noKn (Rk.ofSpec Rk.noSpec) 60 1 59 #[] [] True = some (.func (.func 86) #[] #[], [], True) := by kernel_rfl
theorem all_calls (w : World) : Calls Tryz.prog 59 #[] w fun e w' => e = .returned (.func (.func 86) #[] #[]) ∧ Below w.heap.size w w' :=
  Rk.calls_fn mixed okf_ok Rk.noSpec_good all_run w (Rk.noKn_knows w)

/-- 'opcode.All' HANDS BACK A VALUE THAT 'SeqStopsK'. -/
theorem all_stops (n : Nat) (hn : 1 ≤ n) (n₀ : Nat) (w : World) :
    SeqStopsK Fence.wide n Tryz.prog 86 #[] encE (Below n₀) (fun ys => ys = upto 256) (fun pre => ∃ k, k < 256 ∧ isOp k = true ∧ pre = upto (k + 1)) 256 w := fun l J Jx W _ hJ _ hY h0 =>
  all1_in Fence.wide n rfl hn l n₀ J Jx W hJ hY h0
end Go.Proofs.YtadkilofkpmpgaaGreatDoor
