/- 'asm.check': at every byte and every number. -/
import Derived.Test.YtadkilofkpmpgaaGreatDoorFmt
import Derived.Test.YtadkilofkpmpgaaGreatDoorByW
namespace Go.Proofs.YtadkilofkpmpgaaGreatDoor
open Go Go.RowKit
set_option maxRecDepth 100000
def limL : List Int := [1, 1, 256, 256, 256, 256, 65536, 65536, 65536, 256, 256, 65536, 65536]
/-- How far a mode's number goes. -/
def limM (m : Int) : Int := limL.getD m.toNat 0
def zeroOp : Value := .agg ⟨[.string ⟨⟨[]⟩⟩, .int .i64 0, .int .i64 0]⟩
def opV (b : Int) : Value := .agg ⟨[.string ⟨⟨opName b⟩⟩, .int .i64 (opMode b), .int .i64 (opKind b)]⟩
def lineV (b n : Int) : Value := .agg ⟨[.int .u8 b, .int .i64 n]⟩
def good : List Nat := (List.range 256).filter fun b => !(opName (Int.ofNat b)).isEmpty
def bad : List Nat := (List.range 256).filter fun b => (opName (Int.ofNat b)).isEmpty
noncomputable abbrev runChk (b : Nat) (n : Int) (q : Rk.Orc) := Rk.fn Tryz.prog okf kn5 (Rk.ofSpec ofSpec) 60 2 18 #[lineV (Int.ofNat b) n] q True
theorem chk_bad (n : Int) : bad.map (fun b => runChk b n []) = bad.map (fun _ => some (.tuple ⟨[zeroOp, .int .i64 13]⟩, [], True)) := by kernel_rfl
theorem chk_neg (n : Int) : good.map (fun b => runChk b n [(1, true)]) = good.map (fun _ => some (.tuple ⟨[zeroOp, .int .i64 10]⟩, [], decide (n < 0) = true ∧ True)) := by kernel_rfl
theorem chk_far (n : Int) : good.map (fun b => runChk b n [(1, false), (1, true)]) = good.map (fun b => some (.tuple ⟨[zeroOp, .int .i64 10]⟩, [], decide (n ≥ limM (opMode (Int.ofNat b))) = true ∧ decide (n < 0) = false ∧ True)) := by kernel_rfl
theorem chk_in (n : Int) : good.map (fun b => runChk b n [(1, false), (1, false)]) = good.map (fun b => some (.tuple ⟨[opV (Int.ofNat b), .int .i64 0]⟩, [], decide (n ≥ limM (opMode (Int.ofNat b))) = false ∧ decide (n < 0) = false ∧ True)) := by kernel_rfl

theorem mem_good (b : Nat) (h : b < 256) (ho : (opName (Int.ofNat b)).isEmpty = false) : b ∈ good := List.mem_filter.2 ⟨List.mem_range.2 h, by rw [ho]; rfl⟩
theorem mem_bad (b : Nat) (h : b < 256) (ho : (opName (Int.ofNat b)).isEmpty = true) : b ∈ bad := List.mem_filter.2 ⟨List.mem_range.2 h, ho⟩
theorem chk_calls_bad (b : Nat) (n : Int) (h : b < 256) (ho : (opName (Int.ofNat b)).isEmpty = true) (w : World) (hk : Rk.Knows kn5 w) :
    Calls Tryz.prog 18 #[lineV (Int.ofNat b) n] w fun e w' => e = .returned (.tuple ⟨[zeroOp, .int .i64 13]⟩) ∧ Below w.heap.size w w' :=
  Rk.calls_fn mixed okf_ok (ofSpec_good _) (List.map_inj_left.1 (chk_bad n) b (mem_bad b h ho)) w hk
theorem chk_calls_out (b : Nat) (n : Int) (h : b < 256) (ho : (opName (Int.ofNat b)).isEmpty = false) (hn : n < 0 ∨ limM (opMode (Int.ofNat b)) ≤ n) (w : World) (hk : Rk.Knows kn5 w) :
    Calls Tryz.prog 18 #[lineV (Int.ofNat b) n] w fun e w' => e = .returned (.tuple ⟨[zeroOp, .int .i64 10]⟩) ∧ Below w.heap.size w w' := by
  by_cases h0 : n < 0
  · exact Rk.calls_owed mixed okf_ok (ofSpec_good _) (List.map_inj_left.1 (chk_neg n) b (mem_good b h ho)) ⟨decide_eq_true h0, trivial⟩ w hk
  · have h1 : limM (opMode (Int.ofNat b)) ≤ n := hn.resolve_left h0
    exact Rk.calls_owed mixed okf_ok (ofSpec_good _) (List.map_inj_left.1 (chk_far n) b (mem_good b h ho)) ⟨decide_eq_true h1, decide_eq_false h0, trivial⟩ w hk
theorem chk_calls_in (b : Nat) (n : Int) (h : b < 256) (ho : (opName (Int.ofNat b)).isEmpty = false) (h0 : 0 ≤ n) (h1 : n < limM (opMode (Int.ofNat b))) (w : World) (hk : Rk.Knows kn5 w) :
    Calls Tryz.prog 18 #[lineV (Int.ofNat b) n] w fun e w' => e = .returned (.tuple ⟨[opV (Int.ofNat b), .int .i64 0]⟩) ∧ Below w.heap.size w w' :=
  Rk.calls_owed mixed okf_ok (ofSpec_good _) (List.map_inj_left.1 (chk_in n) b (mem_good b h ho)) ⟨decide_eq_false (by omega), decide_eq_false (by omega), trivial⟩ w hk
end Go.Proofs.YtadkilofkpmpgaaGreatDoor
