/- 'cochineallaw19.awake' answers true where memory.kinds and micro.jumps read as laid. -/
import Derived.Test.YtpophgfjdlkgiaaGreatDoorRmP1
import Derived.Test.YtpophgfjdlkgiaaGreatDoorRmP2
import Derived.Test.YtpophgfjdlkgiaaGreatDoorRmP3
namespace Go.Proofs.YtpophgfjdlkgiaaGreatDoor
namespace Rm
open Go Go.RowKit
open Rk (Orc Kn)
set_option maxRecDepth 100000
def pcs : List Pc := [pMade, pTab, pNew, pS0, pS1, pS2, pS3, pS4, pS5, pS6, pS7, pS8, pS9, pRep]
theorem pcs_ok {W : World} {j : Js} {B : Nat} (hs : Good Tryz.prog B (knA W j) (sumA j)) : ∀ p ∈ pcs, PcOk Tryz.prog B (knA W j) p := by
  intro p hp
  simp only [pcs, List.mem_cons, List.not_mem_nil, or_false] at hp
  rcases hp with rfl | rfl | rfl | rfl | rfl | rfl | rfl | rfl | rfl | rfl | rfl | rfl | rfl | rfl
  · exact pMade_ok hs
  · exact pTab_ok hs
  · exact pNew_ok hs
  · exact pS0_ok hs
  · exact pS1_ok hs
  · exact pS2_ok hs
  · exact pS3_ok hs
  · exact pS4_ok hs
  · exact pS5_ok hs
  · exact pS6_ok hs
  · exact pS7_ok hs
  · exact pS8_ok hs
  · exact pS9_ok hs
  · exact pRep_ok hs
def okV (r : Option Res) (K : Value → Prop → Prop) : Prop := match r with
  | some r => K r.v r.ob
  | none => False
theorem okV_eq {r : Option Res} {v : Value} {ob : Prop} (h : ∀ K, okV r K = K v ob) : ∃ s, r = some s ∧ s.v = v ∧ s.ob = ob := by
  cases r with
  | none =>
    have := h (fun _ _ => True)
    exact absurd (this.symm ▸ trivial : okV none fun _ _ => True) id
  | some s =>
    have := h (fun v' ob' => v' = v ∧ ob' = ob)
    have h2 : okV (some s) (fun v' ob' => v' = v ∧ ob' = ob) := by rw [this]; exact ⟨rfl, rfl⟩
    exact ⟨s, rfl, h2⟩
/-- What is owed at a call that is cut. -/
def obP (p : Pc) (ob : Prop) : Prop := (p.A = p.A ∧ p.H = p.H ∧ p.nx = p.nx) ∧ ob
theorem obP_mk {p : Pc} {ob : Prop} (h : ob) : obP p ob := ⟨⟨rfl, rfl, rfl⟩, h⟩
theorem awk_run (W : World) (j : Js) (K : Value → Prop → Prop) : okV (fn Tryz.prog okf (knA W j) bz (sumP pcs (sumA j)) 400 30 6 [] [] 0 [] True) K =
    K (.bool true) (obP pRep (obP pS9 (obP pS8 (obP pS7 (obP pS6 (obP pS5 (obP pS4 (obP pS3 (obP pS2 (obP pS1 (obP pS0 (obP pNew (obP pTab (obP pMade True)))))))))))))) := by kernel_rfl
/-- Where the laid variables read as they are laid: awake answers true, nothing else turns. -/
theorem awake_calls (W : World) (j : Js) (h : LitOk W j) (h0 : W.cell? ⟨j.b 0, j.o 0, none⟩ = some (.int .i64 1)) (h1 : W.cell? ⟨j.b 0, j.o 0 + 1, none⟩ = some (.int .i64 24)) (w : World) (hk : KnB w.heap.size (knA W j) w) :
    Calls Tryz.prog 6 #[] w fun e w' => e = .returned (.bool true) ∧ Below w.heap.size w w' := by
  obtain ⟨s, hr, e1, e2⟩ := okV_eq (awk_run W j)
  have hs : Good Tryz.prog w.heap.size (knA W j) (sumP pcs (sumA j)) := sumP_good (sumA_good h h0 h1) (pcs_ok (sumA_good h h0 h1))
  exact calls_fn mixed bz_ok okf_ok hs hr (by rw [e2]; exact obP_mk (obP_mk (obP_mk (obP_mk (obP_mk (obP_mk (obP_mk (obP_mk (obP_mk (obP_mk (obP_mk (obP_mk (obP_mk (obP_mk trivial)))))))))))))) e1 rfl rfl hk
#print axioms awake_calls
end Rm
end Go.Proofs.YtpophgfjdlkgiaaGreatDoor
