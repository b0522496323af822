/- 'cochinealref05.Read' by the reckoner: the bytes lie behind a symbolic address. -/
import Derived.Test.YtadkilofkpmpgaaDoorRdC
import Derived.Test.YtadkilofkpmpgaaDoorFind
namespace Go.Proofs.YtadkilofkpmpgaaDoor
open Go Go.RowKit
set_option maxRecDepth 100000
theorem fnd_all : ((List.range 256).all fun b => if (opName (Int.ofNat b)).isEmpty = true then (fnd (Int.ofNat b) == (-1, -1)) else (decide (0 ≤ (fnd (Int.ofNat b)).1) && decide ((fnd (Int.ofNat b)).1 < 56) && (fnd (Int.ofNat b)).2 == opMode (Int.ofNat b) && refName (fnd (Int.ofNat b)).1 == opName (Int.ofNat b))) = true := by decide +kernel
theorem fnd_bad (b : Int) (h0 : 0 ≤ b) (h1 : b < 256) (ho : (opName b).isEmpty = true) : fnd b = (-1, -1) := by
  obtain ⟨k, rfl⟩ := Int.eq_ofNat_of_zero_le h0
  have h := List.all_eq_true.1 fnd_all k (List.mem_range.2 (by omega))
  have ho' : (opName (Int.ofNat k)).isEmpty = true := ho
  rw [if_pos ho'] at h
  exact beq_iff_eq.1 h
theorem fnd_good (b : Int) (h0 : 0 ≤ b) (h1 : b < 256) (ho : (opName b).isEmpty = false) : 0 ≤ (fnd b).1 ∧ (fnd b).1 < 56 ∧ (fnd b).2 = opMode b ∧ refName (fnd b).1 = opName b := by
  obtain ⟨k, rfl⟩ := Int.eq_ofNat_of_zero_le h0
  have h := List.all_eq_true.1 fnd_all k (List.mem_range.2 (by omega))
  have ho' : (opName (Int.ofNat k)).isEmpty = false := ho
  rw [ho'] at h
  simp only [Bool.false_eq_true, if_false, Bool.and_eq_true, decide_eq_true_eq, beq_iff_eq] at h
  exact ⟨h.1.1.1, h.1.1.2, h.1.2, h.2⟩
def callF : Rk.Call := fun f args q ob => match f, args with
  | 23, ⟨[.int .i64 x]⟩ => some (.tuple ⟨[.int .i64 (fnd x).1, .int .i64 (fnd x).2]⟩, q, ob)
  | 24, ⟨[.int .i64 m]⟩ => some (.int .i64 (lenM m), q, ob)
  | _, _ => none
theorem callF_good (kn : Rk.Kn) : Rk.Good Tryd.prog kn callF := by
  intro f args q ob v q' ob' h w hk ho
  unfold callF at h
  split at h
  · simp only [Option.some.injEq, Prod.mk.injEq] at h
    obtain ⟨rfl, rfl, rfl⟩ := h
    exact ⟨ho, find_calls _ w⟩
  · simp only [Option.some.injEq, Prod.mk.injEq] at h
    obtain ⟨rfl, rfl, rfl⟩ := h
    exact ⟨ho, rlen_calls _ w⟩
  · cases h
noncomputable abbrev runRf (B o L c : Nat) (X : Nat → Int) (ok : Nat → Prop) (a : Int) (orc : Rk.Orc) : Option (Value × Rk.Orc × Prop) :=
  Rk.fn Tryd.prog okf (knA B X ok) callF 100 1 15 #[.slice (some ⟨B, o, none⟩) L c, .int .i64 a] orc True
/-- What it answers. -/
def rfV (b n z e : Int) : Value := .tuple ⟨[.agg ⟨[.int .i64 b, .int .i64 n]⟩, .int .i64 z, .int .i64 e]⟩
section
variable (B o L c : Nat) (X : Nat → Int) (ok : Nat → Prop) (a : Int)
abbrev W (x : Int) : Int := IntKind.i64.wrap x
abbrev mF (X : Nat → Int) (o : Nat) : Int := (fnd (W (X o))).2
abbrev zF (X : Nat → Int) (o : Nat) : Int := lenM (mF X o)
abbrev rO (B o L : Nat) (X : Nat → Int) (ok : Nat → Prop) (a : Int) (t : Bool) : Prop := decide ((fnd (W (X o))).1 < 0) = t ∧ (B = B ∧ ok o) ∧ pI 0 L ∧ pE L a
abbrev rS (B o L : Nat) (X : Nat → Int) (ok : Nat → Prop) (a : Int) : Prop := pB B o ok ∧ pI 0 L ∧ decide ((L : Int) < zF X o) = false ∧ rO B o L X ok a false
abbrev rZ (X : Nat → Int) (o : Nat) (a : Int) (t : Bool) : Prop := decide (W (a + zF X o) > 65536) = t
abbrev rM (X : Nat → Int) (o : Nat) (t : Bool) : Prop := decide (mF X o = 12) = t
abbrev r1 (B o L : Nat) (X : Nat → Int) (ok : Nat → Prop) (a : Int) : Prop := rM X o false ∧ decide (zF X o > 2) = false ∧ decide (zF X o > 1) = false ∧ rS B o L X ok a
abbrev v2 (B o L : Nat) (X : Nat → Int) (ok : Nat → Prop) (a : Int) : Prop := decide (zF X o > 2) = false ∧ pB B (o + 1) ok ∧ pI 1 L ∧ decide (zF X o > 1) = true ∧ rS B o L X ok a
abbrev r2 (B o L : Nat) (X : Nat → Int) (ok : Nat → Prop) (a : Int) : Prop := rM X o false ∧ v2 B o L X ok a
abbrev rr (B o L : Nat) (X : Nat → Int) (ok : Nat → Prop) (a : Int) (t : Bool) : Prop := decide (W (X (o + 1)) > 127) = t ∧ rM X o true ∧ v2 B o L X ok a
abbrev nF (X : Nat → Int) (o : Nat) (a : Int) (t : Bool) : Int := W (W (a + 2) + (if t then W (W (X (o + 1)) - 256) else W (X (o + 1))))
theorem rf_a0 : runRf B o L c X ok a [(0, true)] = some (rfV 0 0 0 10, [], decide (a < 0) = true ∧ True) := by kernel_rfl
theorem rf_a1 : runRf B o L c X ok a [(0, false), (0, true)] = some (rfV 0 0 0 10, [], decide (a > 65535) = true ∧ decide (a < 0) = false ∧ True) := by kernel_rfl
theorem rf_e : runRf B o L c X ok a [(0, false), (0, false), (0, true)] = some (rfV 0 0 0 11, [], decide ((L : Int) = 0) = true ∧ pA a) := by kernel_rfl
theorem rf_o : runRf B o L c X ok a [(0, false), (0, false), (0, false), (0, true), (0, true)] = some (rfV 0 0 0 13, [], rO B o L X ok a true) := by kernel_rfl
theorem rf_s : runRf B o L c X ok a [(0, false), (0, false), (0, false), (0, true), (0, false), (0, true)] = some (rfV 0 0 0 11, [], decide ((L : Int) < zF X o) = true ∧ rO B o L X ok a false) := by kernel_rfl
theorem rf_1z : runRf B o L c X ok a [(0, false), (0, false), (0, false), (0, true), (0, false), (0, false), (0, true), (0, false), (0, false), (0, false), (0, true)] = some (rfV 0 0 0 10, [], rZ X o a true ∧ r1 B o L X ok a) := by kernel_rfl
theorem rf_1 : runRf B o L c X ok a [(0, false), (0, false), (0, false), (0, true), (0, false), (0, false), (0, true), (0, false), (0, false), (0, false), (0, false)] = some (rfV (W (X o)) 0 (zF X o) 0, [], rZ X o a false ∧ r1 B o L X ok a) := by kernel_rfl
theorem rf_2z : runRf B o L c X ok a [(0, false), (0, false), (0, false), (0, true), (0, false), (0, false), (0, true), (0, true), (0, true), (0, false), (0, false), (0, true)] = some (rfV 0 0 0 10, [], rZ X o a true ∧ r2 B o L X ok a) := by kernel_rfl
theorem rf_2 : runRf B o L c X ok a [(0, false), (0, false), (0, false), (0, true), (0, false), (0, false), (0, true), (0, true), (0, true), (0, false), (0, false), (0, false), (0, false), (0, false)] = some (rfV (W (X o)) (W (X (o + 1))) (zF X o) 0, [], decide (W (X (o + 1)) > 65535) = false ∧ decide (W (X (o + 1)) < 0) = false ∧ rZ X o a false ∧ r2 B o L X ok a) := by kernel_rfl
theorem rf_rz0 : runRf B o L c X ok a [(0, false), (0, false), (0, false), (0, true), (0, false), (0, false), (0, true), (0, true), (0, true), (0, false), (0, true), (0, false), (0, true)] = some (rfV 0 0 0 10, [], rZ X o a true ∧ rr B o L X ok a false) := by kernel_rfl
theorem rf_rn0 : runRf B o L c X ok a [(0, false), (0, false), (0, false), (0, true), (0, false), (0, false), (0, true), (0, true), (0, true), (0, false), (0, true), (0, false), (0, false), (0, true)] = some (rfV 0 0 0 10, [], decide (nF X o a false < 0) = true ∧ rZ X o a false ∧ rr B o L X ok a false) := by kernel_rfl
theorem rf_rf0 : runRf B o L c X ok a [(0, false), (0, false), (0, false), (0, true), (0, false), (0, false), (0, true), (0, true), (0, true), (0, false), (0, true), (0, false), (0, false), (0, false), (0, true)] = some (rfV 0 0 0 10, [], decide (nF X o a false > 65535) = true ∧ decide (nF X o a false < 0) = false ∧ rZ X o a false ∧ rr B o L X ok a false) := by kernel_rfl
theorem rf_r0 : runRf B o L c X ok a [(0, false), (0, false), (0, false), (0, true), (0, false), (0, false), (0, true), (0, true), (0, true), (0, false), (0, true), (0, false), (0, false), (0, false), (0, false)] = some (rfV (W (X o)) (nF X o a false) (zF X o) 0, [], decide (nF X o a false > 65535) = false ∧ decide (nF X o a false < 0) = false ∧ rZ X o a false ∧ rr B o L X ok a false) := by kernel_rfl
theorem rf_rz1 : runRf B o L c X ok a [(0, false), (0, false), (0, false), (0, true), (0, false), (0, false), (0, true), (0, true), (0, true), (0, false), (0, true), (0, true), (0, true)] = some (rfV 0 0 0 10, [], rZ X o a true ∧ rr B o L X ok a true) := by kernel_rfl
theorem rf_rn1 : runRf B o L c X ok a [(0, false), (0, false), (0, false), (0, true), (0, false), (0, false), (0, true), (0, true), (0, true), (0, false), (0, true), (0, true), (0, false), (0, true)] = some (rfV 0 0 0 10, [], decide (nF X o a true < 0) = true ∧ rZ X o a false ∧ rr B o L X ok a true) := by kernel_rfl
theorem rf_rf1 : runRf B o L c X ok a [(0, false), (0, false), (0, false), (0, true), (0, false), (0, false), (0, true), (0, true), (0, true), (0, false), (0, true), (0, true), (0, false), (0, false), (0, true)] = some (rfV 0 0 0 10, [], decide (nF X o a true > 65535) = true ∧ decide (nF X o a true < 0) = false ∧ rZ X o a false ∧ rr B o L X ok a true) := by kernel_rfl
theorem rf_r1 : runRf B o L c X ok a [(0, false), (0, false), (0, false), (0, true), (0, false), (0, false), (0, true), (0, true), (0, true), (0, false), (0, true), (0, true), (0, false), (0, false), (0, false)] = some (rfV (W (X o)) (nF X o a true) (zF X o) 0, [], decide (nF X o a true > 65535) = false ∧ decide (nF X o a true < 0) = false ∧ rZ X o a false ∧ rr B o L X ok a true) := by kernel_rfl
end
end Go.Proofs.YtadkilofkpmpgaaDoor
