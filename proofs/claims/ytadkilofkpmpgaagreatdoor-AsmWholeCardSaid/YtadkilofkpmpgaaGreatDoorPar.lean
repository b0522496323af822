/- 'asm.Parse': its walk. -/
import Derived.Test.YtadkilofkpmpgaaGreatDoorShR
import Derived.Test.YtadkilofkpmpgaaGreatDoorFmt
import Derived.Test.YtadkilofkpmpgaaGreatDoorChk
import Derived.Test.YtadkilofkpmpgaaGreatDoorPrt
import Derived.Test.YtadkilofkpmpgaaGreatDoorByW
import Derived.StillTailTactics
import Derived.Deep.Cut
namespace Go.Proofs.YtadkilofkpmpgaaGreatDoor
open Go Go.RowKit
set_option maxRecDepth 100000
/-- The number that is written so in a mode; -1: it is not. -/
def wrM (m : Nat) (t : List UInt8) : Int := wrL (shp (m : Int)).1 (shp (m : Int)).2.2 (shp (m : Int)).2.1.toNat t
/-- From a mode on, the first that goes with the name; what was wrong last. -/
def prsA (nm rest : List UInt8) : Nat → Nat → Int → Int × Int × Int
  | 0, _, e => (0, 0, e)
  | f + 1, m, e => if wrM m rest < 0 then prsA nm rest f (m + 1) e else
    if (byteW nm (m : Int) opTab 0 14).2 = 0 then ((byteW nm (m : Int) opTab 0 14).1, wrM m rest, 0) else prsA nm rest f (m + 1) (byteW nm (m : Int) opTab 0 14).2
def isAZ (c : UInt8) : Bool := decide (65 ≤ c.toNat ∧ c.toNat ≤ 90)
/-- A text's line, and what is wrong. -/
def parseW (s : List UInt8) : Int × Int × Int :=
  if s.length < 3 ∨ (s.take 3).all isAZ = false then (0, 0, 11) else prsA (s.take 3) (s.drop 3) 13 0 11
def azL : List UInt8 := [65, 66, 67, 68, 69, 70, 71, 72, 73, 74, 75, 76, 77, 78, 79, 80, 81, 82, 83, 84, 85, 86, 87, 88, 89, 90]
theorem az_all : ((List.range 256).all fun c => azL.contains (UInt8.ofNat c) == isAZ (UInt8.ofNat c)) = true := by decide +kernel
theorem az_is (c : UInt8) : azL.contains c = isAZ c := by
  have h := List.all_eq_true.1 az_all c.toNat (List.mem_range.2 c.toNat_lt)
  simp only [UInt8.ofNat_toNat, beq_iff_eq] at h
  exact h
theorem dropWhile_nil {α : Type} (p : α → Bool) : ∀ l : List α, (l.dropWhile p = []) ↔ l.all p = true
  | [] => by simp
  | x :: l => by
    rw [List.dropWhile_cons, List.all_cons]
    cases hx : p x with
    | true => simpa using dropWhile_nil p l
    | false => simp
theorem dropWhile_keeps {α : Type} (p : α → Bool) : ∀ l : List α, (l.dropWhile p).all p = true → l.all p = true
  | [], h => h
  | x :: l, h => by
    rw [List.dropWhile_cons] at h
    cases hx : p x with
    | true =>
      rw [hx, if_pos rfl] at h
      rw [List.all_cons, hx, dropWhile_keeps p l h]; rfl
    | false =>
      rw [hx] at h
      simp only [Bool.false_eq_true, if_false, List.all_cons, hx, Bool.false_and] at h
theorem trimS_nil (l : List UInt8) : (Lib.trimS l azL = []) ↔ l.all isAZ = true := by
  have e : (fun c => azL.contains c) = isAZ := funext az_is
  unfold Lib.trimS Lib.trimLeftS Lib.trimRightS
  rw [e, dropWhile_nil]
  constructor
  · intro h
    rw [List.all_reverse] at h
    have := dropWhile_keeps isAZ _ h
    rwa [List.all_reverse] at this
  · intro h
    have : (l.reverse.dropWhile isAZ) = [] := (dropWhile_nil _ _).2 (by rw [List.all_reverse]; exact h)
    rw [this]; rfl
/-- The shapes, as they are loaded. -/
theorem shapes_cells {W : World} (hk : Rk.Knows kn5 W) (j : Nat) (v : Value) (h : shpCells[j]? = some v) : W.cell? ⟨0, j, none⟩ = some v :=
  hk ⟨0, j, none⟩ v none (by unfold kn5; simp only [h]) (fun p hp => by cases hp)
end Go.Proofs.YtadkilofkpmpgaaGreatDoor
