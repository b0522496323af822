/- A reckoner with memory: rows of operations within a round of a range over a function. -/
import Derived.Test.YtpophgfjdlkgiaaGreatDoorRmF
import Derived.RangeFuncRecord
import Derived.TacticsIn
namespace Go.Proofs.YtpophgfjdlkgiaaGreatDoor
namespace Rm
open Go Go.RowKit
open Rk (Orc Kn)

theorem calls_round {P : Program} {n l : Nat} {f : FuncId} {args : Array Value} {w : World} {Rr : Ending → World → Prop} (h : Calls P f args w Rr) : CallsIn (Fence.wide.inRound l) n P f args w Rr :=
  (callsIn_wide (n := n)).2 h

def isDef : Op → Bool
  | .defer _ => true
  | _ => false
/-- An operation that defers nothing, within a round. -/
theorem op_round {P : Program} {n l : Nat} {o : Oper} {a : Act} {w : World} {K : Act → World → Prop} {Q : Exit → Act → World → Prop} (hd : isDef o.op = false) (h : o.wp P a w K Q) : o.wpIn (Fence.wide.inRound l) n P a w K Q := by
  refine ⟨fun _ _ => trivial, ?_⟩
  rw [show (Fence.wide.inRound l).round = some l from rfl, Oper.semAt_some l a.eval o (fun c e => by rw [e] at hd; cases hd)]
  unfold Oper.wp at h
  cases hr : (execOp a.eval o).run P w with
  | halt s w' =>
    rw [hr] at h
    cases s <;> exact h
  | ok v w' =>
    rw [hr] at h
    cases v with
    | value v => exact h
    | skip => exact h
    | defer d => exact h
    | enter f args => exact ⟨fun q => (by cases q), calls_round h⟩
    | row r args => exact ⟨fun q => (by cases q), fun c cs _ => let ⟨v, w2, r2, s2⟩ := h c cs; ⟨v, w2, r2, stepsIn_wide.2 s2⟩⟩
    | _ => exact h.elim

section
variable {P : Program} {B : Nat} {kn : Kn} {okf : FuncId → Bool} {bz : BZ} {call : Call}
theorem opsL_round {rl rn : Nat} (hbz : BZOk P bz) (hg : Good P B kn call) (hf : Rk.OkF P okf) {all : Array Oper} : ∀ (l : List Oper) {s s' : St}, (∀ o ∈ l, isDef o.op = false) → opsL P okf kn bz call all l s = some s' →
    Go1 s s' ∧ (s'.ob → ∀ ρ w, R B ρ s.H s.nx w → KnB B kn w → ScS s → ∀ (Q : Exit → Act → World → Prop), Post B s ρ w s' (Q .normal) → wpListIn (Fence.wide.inRound rl) rn P all Q l (act ρ s) w)
  | [], s, s', _, h => by
    simp only [opsL, Option.some.injEq] at h
    subst h
    exact ⟨Go1.refl _, fun _ ρ w hR hk hs Q hQ => hQ ρ w hR (Ext.refl _ _ _ _) hs⟩
  | o :: rest, s, s', hdf, h => by
    simp only [opsL] at h
    split at h
    · rename_i hw
      split at h
      · rename_i s1 h1
        obtain ⟨a1, a2⟩ := step1_ok (B := B) hbz hg hf h1
        obtain ⟨b1, b2⟩ := opsL_round (rl := rl) (rn := rn) hbz hg hf rest (fun o ho => hdf o (by simp [ho])) h
        refine ⟨a1.trans b1, fun hob ρ w hR hk hs Q hQ => ?_⟩
        unfold wpListIn
        rw [wanted_act (.inl hw), hw]
        simp only [if_true]
        refine op_round (hdf o (by simp)) (a2 (b1.ob hob) ρ w hR hk hs _ _ fun ρ' w' hR' hE' hs' => ?_)
        exact b2 hob ρ' w' hR' (hk.ext hR hE') hs' Q fun ρ2 w2 hR2 hE2 hs2 => hQ ρ2 w2 hR2 (hE'.trans hE2) hs2
      · cases h
    · rename_i hw
      split at h
      · rename_i hgk
        obtain ⟨b1, b2⟩ := opsL_round (rl := rl) (rn := rn) hbz hg hf rest (fun o ho => hdf o (by simp [ho])) h
        have e1 : ∀ ρ, (act ρ s).put o.dst undef = act ρ { s with t := Rk.putF s.t o.dst undef } := fun ρ => by
          simp only [act, Rk.putF_arr, Rk.put_act]
          rw [← put_map]; rfl
        refine ⟨⟨b1.ob, b1.nx, b1.lo, b1.low⟩, fun hob ρ w hR hk hs Q hQ => ?_⟩
        unfold wpListIn
        rw [wanted_act (.inr hgk), if_neg hw, e1]
        refine ⟨fun _ _ => trivial, ?_⟩
        exact b2 hob ρ w hR hk ⟨fun i => by
          show sc s.nx ((Rk.putF s.t o.dst undef).arr.getD i undef)
          rw [Rk.putF_arr]; exact sc_put hs.1 (v := undef) (by show sc _ (.tuple ⟨[]⟩); trivial) _ i, hs.2⟩ Q fun ρ2 w2 hR2 hE2 hs2 => hQ ρ2 w2 hR2 hE2 hs2
      · cases h

end
end Rm
end Go.Proofs.YtpophgfjdlkgiaaGreatDoor
