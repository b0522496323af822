/- Where the table of cycles reads as the program's text lays it, its cells are known; one start at which it does. -/
import Derived.Test.YtmjmcjfedpchbaaDoorCyc
import Derived.Test.YtmjmcjfedpchbaaDoorLaid
namespace Go.Proofs.YtmjmcjfedpchbaaDoor
open Go Go.ChangeShapes Go.WideShapes Go.ChangeAt Go.RowKit
theorem own : ownKnob Tryd.prog.godebug = none := by kernel_rfl
abbrev laidC : List (String × DataW Unit) := [("cochineal/opcode.cycles", Rows.laid_cochineal_opcode_cycles)]
theorem gC : Tryd.prog.globalNamed "cochineal/opcode.cycles" = some 0 := by kernel_rfl
theorem layC : layB Tryd.prog 4 ((Tryd.prog.globals[0]?).map (·.type)).get! = true := by kernel_rfl
theorem flatC : flat Rows.laid_cochineal_opcode_cycles = cycCells := by kernel_rfl

set_option maxRecDepth 100000 in
theorem door_met (os : Os) (args : Array Value) : laidMetH Tryd.prog laidC ((World.doorLaid Tryd.prog 200 os).forCall (fun _ _ => 0) ⟨#[], args, []⟩).memory :=
  laidMetH_of_parts3 (fuel := 8) (laidMet_of_run' 8 (by kernel_rfl) (by kernel_rfl)) (by kernel_rfl) (by kernel_rfl)

/-- What the condition gives: the table's cells. -/
theorem knows_of {W : World} (h : laidMetH Tryd.prog laidC W) : Rk.Knows knC W := by
  rw [MakeChecks.laidMetH_plain _ _ _ (by kernel_rfl)] at h
  obtain ⟨ps, ⟨g, t, cs, fuel, p, q, hg, ht, hv, hd, _, _⟩, _, _⟩ := h
  obtain rfl := Option.some.inj (gC.symm.trans hg)
  have hl := layC
  rw [ht] at hl
  have hc := flat_of 4 t hl fuel cs.toList _ hd
  simp only [flatC] at hc
  intro a v o hk _
  unfold knC at hk
  split at hk
  · rename_i hs hb
    split at hk
    · rename_i u hu
      simp only [Option.some.injEq, Prod.mk.injEq] at hk
      obtain ⟨rfl, _⟩ := hk
      have := World.var?_cell hg hv a.off
      obtain ⟨ab, ao, asp⟩ := a
      simp only at hs hb hu
      subst hs; subst hb
      rw [this, ← Array.getElem?_toList, hc]
      exact hu
    · cases hk
  · cases hk

end Go.Proofs.YtmjmcjfedpchbaaDoor
