/- 'opcode.All': the iterator's contract, each element bearing its proof that it is an opcode. -/
import Derived.Test.YtmjmcjfedpchbaaAll
namespace Go.Proofs.Ytmjmcjfedpchbaa
open Go Go.RowKit Go.Shelf Go.Proofs
attribute [local go_sem] Oper.semAt_some

abbrev EntS := { b : Nat // b < 256 ∧ isOp b = true }
abbrev encS (b : EntS) : Array Value := encE b.1
def uptoS : Nat → List EntS
  | 0 => []
  | k + 1 => if h : k < 256 ∧ isOp k = true then uptoS k ++ [⟨k, h⟩] else uptoS k
theorem uptoS_hit (k : Nat) (h : k < 256 ∧ isOp k = true) : uptoS (k + 1) = uptoS k ++ [⟨k, h⟩] := by
  rw [uptoS, dif_pos h]
theorem uptoS_miss (k : Nat) (h : isOp k = false) : uptoS (k + 1) = uptoS k := by
  rw [uptoS, dif_neg (by rw [h]; simp)]
theorem uptoS_len : ∀ k : Nat, (uptoS k).length ≤ k
  | 0 => Nat.le_refl _
  | k + 1 => by
    have := uptoS_len k
    unfold uptoS
    split
    · rw [List.length_append]; simp; exact this
    · omega

set_option maxRecDepth 100000 in
set_option maxHeartbeats 2000000 in
theorem all1S_in (F : Fence) (n : Nat) (hF : F = Fence.wide) (hn : 1 ≤ n) (l n₀ : Nat) (J Jx : List EntS → World → Prop)
    (W : World) (hJ : AbidesFrom W.heap.size J) 
    (hY : ∀ pre x W1, J pre W1 → pre.length < 256 → YieldAt F (n - 1) Try.prog l (encS x) W1 fun e W' =>
      (e = .returned (.bool true) ∧ J (pre ++ [x]) W' ∧ Below n₀ W1 W') ∨ (e = .returned (.bool false) ∧ Jx (pre ++ [x]) W'))
    (h0 : J [] W) :
    CallsIn F n Try.prog 13 #[.func (.yield l) #[] #[]] W fun e W' => (∃ v, e = .returned v) ∧
      ((∃ ys, ys = uptoS 256 ∧ J ys W') ∨ (∃ pre, (∃ (k : Nat) (h : k < 256 ∧ isOp k = true), pre = uptoS k ++ [⟨k, h⟩]) ∧ Jx pre W')) := by
  subst hF
  refine callsIn_of_wp Try.func13 rfl trivial ?_ rfl
  simp only [Try.ntmps13, List.size_toArray, List.length_cons, List.length_nil, Nat.reduceAdd, Nat.reduceSub, Array.replicate_succ, Array.replicate_zero, List.push_toArray, List.append_toArray, List.nil_append, List.cons_append]
  gi_wp2_with (refine ⟨trivial, ?_⟩; gi_at_call 14; refine (callsIn_wide.2 (ops_calls _)).mono ?_; rintro e w' ⟨rfl, hw'⟩)
  gi_loopw [5] (fun i wr => ∃ k : Nat, k ≤ 256 ∧ i = .int .i64 k ∧ J (uptoS k) wr ∧ W.heap.size ≤ wr.heap.size)
    (fun i _ => 256 - (intOf i).toNat)
  case atStart => exact ⟨0, Nat.zero_le _, rfl, hJ _ _ _ none h0 ⟨hw'.os, hw'.tape, hw'.output, hw'.size, fun k hk _ => hw'.block k hk⟩ (fun r e => by cases e), hw'.size⟩
  case round =>
    obtain ⟨k, hk, rfl, hJs, hsz⟩ := hrel
    by_cases hlt : k < 256
    · have hd : decide ((k : Int) < 256) = true := decide_eq_true (by omega)
      have hx := index_row k hlt wr
      cases he : (opName (k : Int)).isEmpty with
      | false =>
        have hop : isOp k = true := by unfold isOp; rw [he]; rfl
        obtain ⟨fn, tmps, assign, body, hy, hR⟩ := hY (uptoS k) ⟨k, hlt, hop⟩ (wr.alloc (.cells #[.string ⟨⟨opName (k : Int)⟩⟩, .int .i64 (opMode (k : Int)), .int .i64 (opKind (k : Int))] 26)) (hJ _ _ _ none hJs (World.grownBy_alloc _ _ _) (fun r e => by cases e)) (Nat.lt_of_le_of_lt (uptoS_len k) hlt)
        dsimp only [encS, rowV] at hy
        gi_wp2
        refine hR.mono ?_
        rintro e W3 (⟨rfl, hJ3, hk3⟩ | ⟨rfl, hJx3⟩)
        · gi_wp2
          go_roundw
          case rel => exact ⟨k + 1, by omega, by go_num, by rw [uptoS_hit k ⟨hlt, hop⟩]; exact hJ3, Nat.le_trans hsz (Nat.le_trans (by simp) hk3.size)⟩
          case measure => simp [intOf]; omega
        · gi_wp2
          refine bodyPost_ret (results_none rfl _ _ _) rfl ?_
          exact ⟨⟨_, rfl⟩, .inr ⟨_, ⟨k, ⟨hlt, hop⟩, rfl⟩, hJx3⟩⟩
      | true =>
        have hop : isOp k = false := by unfold isOp; rw [he]; rfl
        gi_wp2
        refine ⟨fun _ h => (by cases h), ?_⟩
        gi_wp2
        go_roundw
        case rel => exact ⟨k + 1, by omega, by go_num, by rw [uptoS_miss k hop]; exact hJ _ _ _ none hJs (World.grownBy_alloc _ _ _) (fun r e => by cases e), Nat.le_trans hsz (by simp)⟩
        case measure => simp [intOf]; omega
    · have hk6 : k = 256 := by omega
      subst hk6
      gi_wp2
      go_end0
      exact ⟨⟨_, rfl⟩, .inl ⟨_, rfl, hJs⟩⟩
/-- 'opcode.All' HANDS BACK A VALUE THAT 'SeqStopsK'. -/
theorem allS_stops (n : Nat) (hn : 1 ≤ n) (n₀ : Nat) (w : World) :
    SeqStopsK Fence.wide n Try.prog 13 #[] encS (Below n₀) (fun ys => ys = uptoS 256) (fun pre => ∃ (k : Nat) (h : k < 256 ∧ isOp k = true), pre = uptoS k ++ [⟨k, h⟩]) 256 w := fun l J Jx W _ hJ _ hY h0 =>
  all1S_in Fence.wide n rfl hn l n₀ J Jx W hJ hY h0
end Go.Proofs.Ytmjmcjfedpchbaa
