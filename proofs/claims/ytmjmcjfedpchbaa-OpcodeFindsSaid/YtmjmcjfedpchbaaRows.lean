/-
  No cell of these rows narrows 'for every input' (looked for: loops, veiled, ifaces, maps, wideKeys, modest, calm, conditions, laid).
  DERIVED. THE GIVEN ROWS OF THIS SEAT. 2 by the template 'for every input the law returns true; each argument reads behind the call as it read before'; 0 by the template 'total and deterministic' (their statements: YtmjmcjfedpchbaaTotals.lean).
  GIVEN WITH THE SEED: the statements are not yours to turn. If you find one false, say at which input.
  Laid BY PROGRAM, IN A SANDBOX (cutbox-rows.mjs): the forced cells as the released guide's own fill.sh prints them over the translation 543e662ba02874b6… (all of the seat's roots in one cut). By AI agents, Wed Nov 11 2026. No macro, syntax, notation, axiom, sorry.
-/
import Derived.Test.YtmjmcjfedpchbaaChecked
import GoSem.Claim
import GoSem.ClaimJoined
import GoSem.ClaimMapViews
import Derived.JoinedTies
import Derived.KernelRfl
namespace Go.Proofs.Ytmjmcjfedpchbaa
/- THE CELL 'sum', in the pinned program and in every row, IS THE sha256 OF THE DUMP (.gsa) THAT YtmjmcjfedpchbaaProg.lean LOADS. Nothing in Lean hashes anything: it is a label: what it is worth is what the hold of that sum in a sandbox is worth. -/
noncomputable def Try.pinned : Pinned := { name := "ytmjmcjfedpchbaa", sum := "543e662ba02874b6b61148b1603654c76d810a634e34483dbaf0eb602209ddae", checked := Try.checked }
namespace Rows
def none {H : Type} : Left H := { results := [], args := [] }

/-- 'cochineallaw04.OpcodeAll': WHATEVER THE INPUT: true; the input reads as it did. -/
def opcodeAllSpec : ChangeSpec := { name := "opcodeAll", fn := fun _ => fun
  | [d] => { results := [.lit (.bool true)], args := [d] }
  | _ => none }
def opcodeAllRow : OpenClaim := { program := "ytmjmcjfedpchbaa", sum := "543e662ba02874b6b61148b1603654c76d810a634e34483dbaf0eb602209ddae", func := "cochineal/cochineallaw04.OpcodeAll", spec := "opcodeAll", unfollowed := true, recurses := true, apart := false }
def OpcodeAllSaid : Prop := opcodeAllRow.holds Try.pinned (OpenSpec.ofChange opcodeAllSpec)

/-- ITS FALSE NEIGHBOUR: 'it returns false'. Refute it at one input. -/
def opcodeAllWrong : ChangeSpec := { name := "opcodeAll", fn := fun _ => fun
  | [d] => { results := [.lit (.bool false)], args := [d] }
  | _ => none }
def OpcodeAllWrongFalsely : Prop := opcodeAllRow.holds Try.pinned (OpenSpec.ofChange opcodeAllWrong)

/-- 'cochineallaw04.OpcodeFinds': WHATEVER THE INPUT: true; the input reads as it did. -/
def opcodeFindsSpec : ChangeSpec := { name := "opcodeFinds", fn := fun _ => fun
  | [d1, d2] => { results := [.lit (.bool true)], args := [d1, d2] }
  | _ => none }
def opcodeFindsRow : OpenClaim := { program := "ytmjmcjfedpchbaa", sum := "543e662ba02874b6b61148b1603654c76d810a634e34483dbaf0eb602209ddae", func := "cochineal/cochineallaw04.OpcodeFinds", spec := "opcodeFinds", unfollowed := true, recurses := true, apart := false }
def OpcodeFindsSaid : Prop := opcodeFindsRow.holds Try.pinned (OpenSpec.ofChange opcodeFindsSpec)

/-- ITS FALSE NEIGHBOUR: 'it returns false'. Refute it at one input. -/
def opcodeFindsWrong : ChangeSpec := { name := "opcodeFinds", fn := fun _ => fun
  | [d1, d2] => { results := [.lit (.bool false)], args := [d1, d2] }
  | _ => none }
def OpcodeFindsWrongFalsely : Prop := opcodeFindsRow.holds Try.pinned (OpenSpec.ofChange opcodeFindsWrong)

/- THE SECOND FORM. 'bulk': how many values and letters a reading holds, each counted each time it is reached (what is shared counts as often as it is met; a slice's spare places count too). A statement '..UptoSaid' is the law's where the arguments, and the package variables that the reading takes, are together of bulk at most 1048576: NARROWER than '..Said'. Prove '..Said' where nothing that the law and all that it calls make is longer than what came in: it says more and counts as full. Else prove '..UptoSaid'. A law counts once. -/
mutual
def uptoBulk {H : Type} : DataW H → Nat
  | .lit (.string bytes) => bytes.length + 1
  | .lit _ => 1
  | .nil => 1
  | .ptr d => uptoBulk d + 1
  | .slice elems spare => uptoBulkAll elems + uptoBulkAll spare + 1
  | .agg parts => uptoBulkAll parts + 1
  | .iface _ d => uptoBulk d + 1
  | .map entries => uptoBulkEntries entries + 1
  | .held _ => 1
def uptoBulkAll {H : Type} : List (DataW H) → Nat
  | [] => 0
  | d :: r => uptoBulk d + uptoBulkAll r
def uptoBulkEntries {H : Type} : List (Lit × DataW H) → Nat
  | [] => 0
  | x :: r => uptoBulkEntry x + uptoBulkEntries r
def uptoBulkEntry {H : Type} : Lit × DataW H → Nat
  | (.string bytes, d) => bytes.length + uptoBulk d + 1
  | (_, d) => uptoBulk d + 1
 end
def uptoSmall : (H : Type) → List (DataW H) → Bool := fun _ ds => decide (uptoBulkAll ds ≤ 1048576)
def OpenSpec.upto (s : _root_.Go.ChangeSpec) : _root_.Go.OpenSpec := { _root_.Go.OpenSpec.ofChange s with cond := some uptoSmall }

/-- 'cochineallaw04.OpcodeAll', WHERE WHAT IT READS IS OF BULK AT MOST 1048576: true; the input reads as it did. -/
def opcodeAllUptoRow : OpenClaim := { program := "ytmjmcjfedpchbaa", sum := "543e662ba02874b6b61148b1603654c76d810a634e34483dbaf0eb602209ddae", func := "cochineal/cochineallaw04.OpcodeAll", spec := "opcodeAll", unfollowed := true, recurses := true, apart := false, narrowed := true }
def OpcodeAllUptoSaid : Prop := opcodeAllUptoRow.holds Try.pinned (OpenSpec.upto opcodeAllSpec)

/-- 'cochineallaw04.OpcodeFinds', WHERE WHAT IT READS IS OF BULK AT MOST 1048576: true; the input reads as it did. -/
def opcodeFindsUptoRow : OpenClaim := { program := "ytmjmcjfedpchbaa", sum := "543e662ba02874b6b61148b1603654c76d810a634e34483dbaf0eb602209ddae", func := "cochineal/cochineallaw04.OpcodeFinds", spec := "opcodeFinds", unfollowed := true, recurses := true, apart := false, narrowed := true }
def OpcodeFindsUptoSaid : Prop := opcodeFindsUptoRow.holds Try.pinned (OpenSpec.upto opcodeFindsSpec)

end Rows
end Go.Proofs.Ytmjmcjfedpchbaa
