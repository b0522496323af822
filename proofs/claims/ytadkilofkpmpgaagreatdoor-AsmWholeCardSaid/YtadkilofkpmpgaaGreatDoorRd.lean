/- 'asm.Read' by the reckoner: the bytes lie behind a symbolic address. -/
import Derived.Test.YtadkilofkpmpgaaGreatDoorMovP
namespace Go.Proofs.YtadkilofkpmpgaaGreatDoor
open Go Go.RowKit
set_option maxRecDepth 100000
/-- What is known: behind an address bytes lie. -/
def knA (B : Nat) (X : Nat → Int) (ok : Nat → Prop) : Rk.Kn := fun a => match a.spot with
  | none => some (.int .u8 (X a.off), some (a.block = B ∧ ok a.off))
  | some _ => none
theorem knA_knows {B : Nat} {X : Nat → Int} {ok : Nat → Prop} {w : World} (h : ∀ i, ok i → w.cell? ⟨B, i, none⟩ = some (.int .u8 (X i))) : Rk.Knows (knA B X ok) w := by
  intro a v o hk ho
  unfold knA at hk
  split at hk
  · rename_i hs
    simp only [Option.some.injEq, Prod.mk.injEq] at hk
    obtain ⟨rfl, rfl⟩ := hk
    obtain ⟨h1, h2⟩ := ho _ rfl
    obtain ⟨ab, ao, asp⟩ := a
    simp only at hs h1 h2
    subst hs; subst h1
    exact h _ h2
  · cases hk
def callR (bad : Bool) : Rk.Call := fun f args q ob => match f, args with
  | 40, ⟨[.int .u8 x]⟩ => match bad with
    | false => some (.tuple ⟨[.agg ⟨[.string ⟨⟨opName x⟩⟩, .int .i64 (opMode x), .int .i64 (opKind x)]⟩, .int .i64 0]⟩, q, (0 ≤ x ∧ x < 256 ∧ (opName x).isEmpty = false) ∧ ob)
    | true => some (.tuple ⟨[.agg ⟨[.string ⟨⟨[]⟩⟩, .int .i64 0, .int .i64 0]⟩, .int .i64 13]⟩, q, (0 ≤ x ∧ x < 256 ∧ (opName x).isEmpty = true) ∧ ob)
  | 39, ⟨[.int .i64 m]⟩ => some (.int .i64 (lenM m), q, ob)
  | _, _ => none
noncomputable abbrev runRd (B o L c : Nat) (X : Nat → Int) (ok : Nat → Prop) (a : Int) (bad : Bool) (orc : Rk.Orc) : Option (Value × Rk.Orc × Prop) :=
  Rk.fn Tryz.prog okf (knA B X ok) (callR bad) 100 1 36 #[.slice (some ⟨B, o, none⟩) L c, .int .i64 a] orc True
/-- What 'Read' answers. -/
def rdV (b n z e : Int) : Value := .tuple ⟨[.agg ⟨[.int .u8 b, .int .i64 n]⟩, .int .i64 z, .int .i64 e]⟩
def or64 (a b : Int) : Int := IntKind.i64.wrap ↑(BitVec.ofInt 64 a ||| BitVec.ofInt 64 b).toNat
def shl64 (x : Int) (k : Nat) : Int := IntKind.i64.wrap (IntKind.i64.wrap x * 2 ^ k)
def nb2 (x : Int) : Int := or64 0 (shl64 x 0)
def nb3 (x y : Int) : Int := or64 (nb2 x) (shl64 y 8)
def relB (a z x : Int) : Int := IntKind.i64.wrap (IntKind.i64.wrap (a + z) + IntKind.i64.wrap (IntKind.i8.wrap (nb2 x)))
section
variable (B o L c : Nat) (X : Nat → Int) (ok : Nat → Prop) (a : Int)
abbrev zR (X : Nat → Int) (o : Nat) : Int := lenM (opMode (X o))
abbrev pA (a : Int) : Prop := decide (a > 65535) = false ∧ decide (a < 0) = false ∧ True
abbrev pE (L : Nat) (a : Int) : Prop := decide ((L : Int) = 0) = false ∧ pA a
abbrev pI (i : Int) (L : Nat) : Prop := decide (0 ≤ i ∧ i < (L : Int)) = true
abbrev pO (B o L : Nat) (X : Nat → Int) (ok : Nat → Prop) (a : Int) (t : Bool) : Prop := (0 ≤ X o ∧ X o < 256 ∧ (opName (X o)).isEmpty = t) ∧ (B = B ∧ ok o) ∧ pI 0 L ∧ pE L a
abbrev pS (B o L : Nat) (X : Nat → Int) (ok : Nat → Prop) (a : Int) : Prop := decide ((L : Int) < zR X o) = false ∧ pO B o L X ok a false
/-- One round of the loop, or its end. -/
abbrev pL (i : Int) (X : Nat → Int) (o : Nat) (t : Bool) : Prop := decide (i < IntKind.i64.wrap (zR X o - 1)) = t
abbrev pM (X : Nat → Int) (o : Nat) (t : Bool) : Prop := decide (opMode (X o) = 12) = t
abbrev pZ (X : Nat → Int) (o : Nat) (a : Int) (t : Bool) : Prop := decide (IntKind.i64.wrap (a + zR X o) > 65536) = t
theorem rd_a0 : runRd B o L c X ok a false [(0, true)] = some (rdV 0 0 0 10, [], decide (a < 0) = true ∧ True) := by kernel_rfl
theorem rd_a1 : runRd B o L c X ok a false [(0, false), (0, true)] = some (rdV 0 0 0 10, [], decide (a > 65535) = true ∧ decide (a < 0) = false ∧ True) := by kernel_rfl
theorem rd_e : runRd B o L c X ok a false [(0, false), (0, false), (0, true)] = some (rdV 0 0 0 11, [], decide ((L : Int) = 0) = true ∧ pA a) := by kernel_rfl
theorem rd_o : runRd B o L c X ok a true [(0, false), (0, false), (0, false), (0, true)] = some (rdV 0 0 0 13, [], pO B o L X ok a true) := by kernel_rfl
theorem rd_s : runRd B o L c X ok a false [(0, false), (0, false), (0, false), (0, true), (1, true)] = some (rdV 0 0 0 11, [], decide ((L : Int) < zR X o) = true ∧ pO B o L X ok a false) := by kernel_rfl
abbrev o5 (l : Rk.Orc) : Rk.Orc := (0, false) :: (0, false) :: (0, false) :: (0, true) :: (1, false) :: l
abbrev pB (B i : Nat) (ok : Nat → Prop) : Prop := B = B ∧ ok i
-- one byte
abbrev q1 (B o L : Nat) (X : Nat → Int) (ok : Nat → Prop) (a : Int) : Prop := pM X o false ∧ pL 0 X o false ∧ pS B o L X ok a
theorem rd_1z : runRd B o L c X ok a false (o5 [(0, false), (0, false), (0, true)]) = some (rdV 0 0 0 10, [], pZ X o a true ∧ q1 B o L X ok a) := by kernel_rfl
theorem rd_1 : runRd B o L c X ok a false (o5 [(0, false), (0, false), (0, false), (2, true)]) = some (rdV (X o) 0 (zR X o) 0, [], pB B o ok ∧ pI 0 L ∧ pZ X o a false ∧ q1 B o L X ok a) := by kernel_rfl
-- two bytes
abbrev u2 (B o L : Nat) (X : Nat → Int) (ok : Nat → Prop) (a : Int) : Prop := pL 1 X o false ∧ pB B (o + 1) ok ∧ pI 1 L ∧ pL 0 X o true ∧ pS B o L X ok a
abbrev q2 (B o L : Nat) (X : Nat → Int) (ok : Nat → Prop) (a : Int) : Prop := pM X o false ∧ u2 B o L X ok a
abbrev n2 (X : Nat → Int) (o : Nat) : Int := nb2 (X (o + 1))
theorem rd_2z : runRd B o L c X ok a false (o5 [(0, true), (0, true), (0, false), (0, false), (0, true)]) = some (rdV 0 0 0 10, [], pZ X o a true ∧ q2 B o L X ok a) := by kernel_rfl
theorem rd_2n : runRd B o L c X ok a false (o5 [(0, true), (0, true), (0, false), (0, false), (0, false), (0, true)]) = some (rdV 0 0 0 10, [], decide (n2 X o < 0) = true ∧ pZ X o a false ∧ q2 B o L X ok a) := by kernel_rfl
theorem rd_2 : runRd B o L c X ok a false (o5 [(0, true), (0, true), (0, false), (0, false), (0, false), (0, false), (0, false), (0, true)]) =
  some (rdV (X o) (n2 X o) (zR X o) 0, [], pB B o ok ∧ pI 0 L ∧ decide (n2 X o > 65535) = false ∧ decide (n2 X o < 0) = false ∧ pZ X o a false ∧ q2 B o L X ok a) := by kernel_rfl
-- three bytes
abbrev n3 (X : Nat → Int) (o : Nat) : Int := nb3 (X (o + 1)) (X (o + 2))
abbrev q3 (B o L : Nat) (X : Nat → Int) (ok : Nat → Prop) (a : Int) : Prop := pM X o false ∧ pL 2 X o false ∧ pB B (o + 2) ok ∧ pI 2 L ∧ pL 1 X o true ∧ pB B (o + 1) ok ∧ pI 1 L ∧ pL 0 X o true ∧ pS B o L X ok a
theorem rd_3z : runRd B o L c X ok a false (o5 [(0, true), (0, true), (0, true), (0, true), (0, false), (0, false), (0, true)]) = some (rdV 0 0 0 10, [], pZ X o a true ∧ q3 B o L X ok a) := by kernel_rfl
theorem rd_3 : runRd B o L c X ok a false (o5 [(0, true), (0, true), (0, true), (0, true), (0, false), (0, false), (0, false), (0, false), (0, false), (0, true)]) =
  some (rdV (X o) (n3 X o) (zR X o) 0, [], pB B o ok ∧ pI 0 L ∧ decide (n3 X o > 65535) = false ∧ decide (n3 X o < 0) = false ∧ pZ X o a false ∧ q3 B o L X ok a) := by kernel_rfl
-- a branch
abbrev nr (X : Nat → Int) (o : Nat) (a : Int) : Int := relB a (zR X o) (X (o + 1))
abbrev qr (B o L : Nat) (X : Nat → Int) (ok : Nat → Prop) (a : Int) : Prop := pM X o true ∧ u2 B o L X ok a
theorem rd_rz : runRd B o L c X ok a false (o5 [(0, true), (0, true), (0, false), (0, true), (0, true)]) = some (rdV 0 0 0 10, [], pZ X o a true ∧ qr B o L X ok a) := by kernel_rfl
theorem rd_rn : runRd B o L c X ok a false (o5 [(0, true), (0, true), (0, false), (0, true), (0, false), (0, true)]) = some (rdV 0 0 0 10, [], decide (nr X o a < 0) = true ∧ pZ X o a false ∧ qr B o L X ok a) := by kernel_rfl
theorem rd_rf : runRd B o L c X ok a false (o5 [(0, true), (0, true), (0, false), (0, true), (0, false), (0, false), (0, true)]) = some (rdV 0 0 0 10, [], decide (nr X o a > 65535) = true ∧ decide (nr X o a < 0) = false ∧ pZ X o a false ∧ qr B o L X ok a) := by kernel_rfl
theorem rd_r : runRd B o L c X ok a false (o5 [(0, true), (0, true), (0, false), (0, true), (0, false), (0, false), (0, false), (0, true)]) =
  some (rdV (X o) (nr X o a) (zR X o) 0, [], pB B o ok ∧ pI 0 L ∧ decide (nr X o a > 65535) = false ∧ decide (nr X o a < 0) = false ∧ pZ X o a false ∧ qr B o L X ok a) := by kernel_rfl
end
end Go.Proofs.YtadkilofkpmpgaaGreatDoor
