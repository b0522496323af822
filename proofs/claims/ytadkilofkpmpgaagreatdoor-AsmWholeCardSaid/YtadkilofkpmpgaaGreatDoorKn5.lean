/- Where the listed variables read as the program's text lays them, the cells of 'asm.shapes' and of the table of trailing zeros are known. -/
import Derived.Test.YtadkilofkpmpgaaGreatDoorFmt
import Derived.Test.YtadkilofkpmpgaaGreatDoorLaid
import Derived.Lay
namespace Go.Proofs.YtadkilofkpmpgaaGreatDoor
open Go Go.ChangeShapes Go.WideShapes Go.ChangeAt Go.RowKit
set_option maxRecDepth 100000
theorem own : ownKnob Tryz.prog.godebug = none := by kernel_rfl
theorem laidVars_mem {P : Program} {w : World} : ∀ {l : List (String × DataW Unit)} {ps : List MemPlace}, DataW.LaidVars P w l ps → ∀ x ∈ l,
    ∃ g t cs fuel p, P.globalNamed x.1 = some g ∧ (P.globals[g]?).map (·.type) = some t ∧ w.var? P x.1 = some cs ∧ DataW.trod (fun _ => ()) P w 0 (fun _ => true) false fuel t cs.toList = some (x.2, p)
  | [], _, _, x, hx => by cases hx
  | (n, d) :: r, ps, h, x, hx => by
    obtain ⟨g, t, cs, fuel, p, q, hg, ht, hv, hd, hr, _⟩ := h
    rcases List.mem_cons.1 hx with rfl | hx
    · exact ⟨g, t, cs, fuel, p, hg, ht, hv, hd⟩
    · exact laidVars_mem hr x hx
theorem var_cells {P : Program} {W : World} {laid : List (String × DataW Unit)} (h : laidMet P laid W) (n : String) (d : DataW Unit) (g m i : Nat) (hx : laid[i]? = some (n, d)) (hg : P.globalNamed n = some g)
    (hl : layB P m ((P.globals[g]?).map (·.type)).get! = true) (j : Nat) (v : Value) (hv : (flat d)[j]? = some v) : W.cell? ⟨g, j, none⟩ = some v := by
  obtain ⟨ps, hp, _⟩ := h
  obtain ⟨g', t, cs, fuel, p, hg', ht, hvar, hd⟩ := laidVars_mem hp _ (List.mem_of_getElem? hx)
  obtain rfl := Option.some.inj (hg.symm.trans hg')
  rw [ht] at hl
  have hc := flat_of m t hl fuel cs.toList _ hd
  have := World.var?_cell hg hvar j
  rw [this, ← Array.getElem?_toList, hc]
  exact hv
theorem gShp : Tryz.prog.globalNamed "cochineal/asm.shapes" = some 0 := by kernel_rfl
theorem gDb : Tryz.prog.globalNamed "math/bits.deBruijn64tab" = some 9 := by kernel_rfl
theorem layShp : layB Tryz.prog 4 ((Tryz.prog.globals[0]?).map (·.type)).get! = true := by kernel_rfl
theorem layDb : layB Tryz.prog 4 ((Tryz.prog.globals[9]?).map (·.type)).get! = true := by kernel_rfl
theorem flatShp : flat Rows.laid_cochineal_asm_shapes = shpCells := by kernel_rfl
theorem flatDb : flat Rows.laid_math_bits_deBruijn64tab = dbCells := by kernel_rfl
/-- What the condition gives. -/
theorem knows5_of {W : World} {laid : List (String × DataW Unit)} (h : laidMetH Tryz.prog laid W) (hh : (laid.all fun x => x.2.handleName?.isNone) = true) (i j : Nat)
    (hi : laid[i]? = some ("cochineal/asm.shapes", Rows.laid_cochineal_asm_shapes)) (hj : laid[j]? = some ("math/bits.deBruijn64tab", Rows.laid_math_bits_deBruijn64tab)) : Rk.Knows kn5 W := by
  rw [MakeChecks.laidMetH_plain _ _ _ hh] at h
  intro a v o hk _
  unfold kn5 at hk
  obtain ⟨ab, ao, asp⟩ := a
  split at hk
  · rename_i hs hb
    split at hk
    · rename_i u hu
      simp only [Option.some.injEq, Prod.mk.injEq] at hk
      obtain ⟨rfl, _⟩ := hk
      simp only at hs hb hu
      subst hs; subst hb
      exact var_cells h _ _ _ 4 i hi gShp layShp ao u (by rw [flatShp]; exact hu)
    · cases hk
  · rename_i hs hb
    split at hk
    · rename_i u hu
      simp only [Option.some.injEq, Prod.mk.injEq] at hk
      obtain ⟨rfl, _⟩ := hk
      simp only at hs hb hu
      subst hs; subst hb
      exact var_cells h _ _ _ 4 j hj gDb layDb ao u (by rw [flatDb]; exact hu)
    · cases hk
  · cases hk
end Go.Proofs.YtadkilofkpmpgaaGreatDoor
