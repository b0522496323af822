/- A reckoner with memory, part 9: a region whose order is open: what holds behind each set of operations that may have come. -/
import Derived.Test.YtpophgfjdlkgiaaGreatDoorRm8
import Derived.Orders
namespace Go.Proofs.YtpophgfjdlkgiaaGreatDoor
namespace Rm
open Go Go.RowKit

section
variable {P : Program} {ops : Array Oper} {Q : Exit → Act → World → Prop}
abbrev Set' := Nat → Bool
def addS (L : Set') (i : Nat) : Set' := fun j => if j = i then true else L j
/-- What an operation waits for has come. -/
def Waits (ops : Array Oper) (L : Set') (i : Nat) : Prop := ∀ o, ops[i]? = some o → ∀ e ∈ o.after, Region.binds .any e = true → L e.on = true
def Shut (ops : Array Oper) (L : Set') : Prop := ∀ i, L i = true → i < ops.size ∧ Waits ops L i
def asS (l : Array Bool) : Set' := fun j => l.getD j false

theorem asS_set (l : Array Bool) (i : Nat) (h : i < l.size) : asS (l.setIfInBounds i true) = addS (asS l) i := by
  funext j
  unfold asS addS
  by_cases e : j = i
  · subst e; simp [Array.getD, h]
  · rw [if_neg e]
    by_cases hj : j < l.size
    · simp [Array.getD, hj, Ne.symm e]
    · simp [Array.getD, hj]

theorem shut_add {L : Set'} (h : Shut ops L) {i : Nat} (hi : i < ops.size) (hw : Waits ops L i) : Shut ops (addS L i) := fun j hj => by
  unfold addS at hj
  split at hj
  · rename_i e; subst e
    refine ⟨hi, fun o ho e he hb => ?_⟩
    have := hw o ho e he hb
    simp only [addS]; split
    · rfl
    · exact this
  · obtain ⟨h1, h2⟩ := h j hj
    refine ⟨h1, fun o ho e he hb => ?_⟩
    have := h2 o ho e he hb
    simp only [addS]; split
    · rfl
    · exact this

theorem wpAny_inv {I : Set' → Act → World → Prop} (hback : ∀ i o, ops[i]? = some o → ∀ e ∈ o.after, Region.binds .any e = true → e.on < i)
    (hstep : ∀ L i a w, Shut ops L → i < ops.size → L i = false → Waits ops L i → I L a w → wpOp P ops Q i (I (addS L i)) a w)
    (hend : ∀ L a w, (∀ i, i < ops.size → L i = true) → I L a w → Q .normal a w) :
    ∀ (fuel : Nat) (listed : Array Bool) (a : Act) (w : World), listed.size = ops.size → Shut ops (asS listed) → listed.toList.count false ≤ fuel → I (asS listed) a w → wpAny P .any ops Q fuel listed a w := by
  have hfull : ∀ (listed : Array Bool), listed.size = ops.size → Region.ready .any ops listed = [] → ∀ i, i < ops.size → asS listed i = true := by
    intro listed hs hr i
    induction i using Nat.strongRecOn with
    | _ i ih =>
      intro hi
      cases hl : asS listed i with
      | true => rfl
      | false =>
        have : i ∈ Region.ready .any ops listed := mem_ready.2 ⟨by
          unfold asS at hl
          simpa [Array.getD, show i < listed.size by omega] using hl, ops[i], Array.getElem?_eq_getElem hi, fun e he hb => by
            have hlt := hback i ops[i] (Array.getElem?_eq_getElem hi) e he hb
            exact ih e.on hlt (by omega)⟩
        rw [hr] at this
        cases this
  intro fuel
  induction fuel with
  | zero =>
    intro listed a w hs hsh hc hI
    have hall : ∀ i, i < ops.size → asS listed i = true := fun i hi => by
      cases hl : asS listed i with
      | true => rfl
      | false =>
        have hm : false ∈ listed.toList := by
          unfold asS at hl
          have e : listed[i]'(by omega) = false := by simpa [Array.getD, show i < listed.size by omega] using hl
          rw [← e]; simp
        have := List.count_pos_iff.2 hm
        omega
    refine ⟨?_, hend _ a w hall hI⟩
    refine List.eq_nil_iff_forall_not_mem.2 fun j hj => ?_
    obtain ⟨h1, o, h2, _⟩ := mem_ready.1 hj
    have hlt : j < ops.size := (Array.getElem?_eq_some_iff.1 h2).1
    have h3 := hall j hlt
    unfold asS at h3
    simp [Array.getD, show j < listed.size by omega] at h1 h3
    rw [h1] at h3; cases h3
  | succ fuel ih =>
    intro listed a w hs hsh hc hI
    refine ⟨fun hr => hend _ a w (hfull listed hs hr) hI, fun i hi => ?_⟩
    obtain ⟨h1, o, h2, h3⟩ := mem_ready.1 hi
    have hlt : i < ops.size := (Array.getElem?_eq_some_iff.1 h2).1
    have hli : i < listed.size := by omega
    have hw : Waits ops (asS listed) i := fun o' ho' e he hb => by
      rw [h2] at ho'; cases ho'
      exact h3 e he hb
    have hf : listed[i] = false := by simpa [Array.getD, hli] using h1
    refine wpOp_mono ?_ (hstep (asS listed) i a w hsh hlt (by unfold asS; simp [Array.getD, hli, hf]) hw hI)
    intro a' w' hI'
    rw [← asS_set listed i hli] at hI'
    refine ih _ a' w' (by simp [hs]) ?_ ?_ hI'
    · rw [asS_set listed i hli]; exact shut_add hsh hlt hw
    · have e3 : listed.toList[i]'(by simpa using hli) = false := by simpa using hf
      rw [Array.toList_setIfInBounds, List.count_set (by simpa using hli), e3]
      rw [if_pos (show (false == false) = true from rfl), if_neg (show ¬ (true == false) = true by decide)]
      omega
end
end Rm
end Go.Proofs.YtpophgfjdlkgiaaGreatDoor
