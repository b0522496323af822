/- 'strings.Repeat' of "0", up to three times. -/
import Derived.Test.YtadkilofkpmpgaaGreatDoorFmt
namespace Go.Proofs.YtadkilofkpmpgaaGreatDoor
open Go Go.RowKit
set_option maxRecDepth 100000
def okR : List Nat := [21, 46, 77, 47, 78]
def okfR (g : FuncId) : Bool := okR.contains g
theorem okR_all : (okR.all fun g => match Tryz.prog.funcs[g]? with
    | some fn => !(fn.name == "runtime.NumGoroutine") && !fn.body.isNone
    | none => false) = true := by kernel_rfl
theorem okfR_ok : Rk.OkF Tryz.prog okfR := by
  intro g hg
  have h := List.all_eq_true.1 okR_all g (by simpa [okfR] using hg)
  split at h
  · rename_i fn hfn
    simp only [Bool.and_eq_true, Bool.not_eq_true'] at h
    exact ⟨fn, hfn, h.1, h.2⟩
  · cases h
theorem rep_run : (List.range 4).map (fun k => Rk.fn Tryz.prog okfR Rk.noKn (Rk.ofSpec Rk.noSpec) 100 6 21 #[.string ⟨⟨[48]⟩⟩, .int .i64 (Int.ofNat k)] [] True) = (List.range 4).map (fun k => some (.string ⟨⟨List.replicate k 48⟩⟩, [], True)) := by kernel_rfl
theorem rep_calls (k : Nat) (h : k < 4) (w : World) : Calls Tryz.prog 21 #[.string ⟨⟨[48]⟩⟩, .int .i64 (Int.ofNat k)] w fun e w' => e = .returned (.string ⟨⟨List.replicate k 48⟩⟩) ∧ Below w.heap.size w w' :=
  Rk.calls_fn mixed okfR_ok Rk.noSpec_good (List.map_inj_left.1 rep_run k (List.mem_range.2 h)) w (Rk.noKn_knows w)
end Go.Proofs.YtadkilofkpmpgaaGreatDoor
