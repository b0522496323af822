/- A reckoner with memory: a round's code. -/
import Derived.Test.YtpophgfjdlkgiaaGreatDoorRmG0
import Derived.Test.YtpophgfjdlkgiaaGreatDoorRmI
namespace Go.Proofs.YtpophgfjdlkgiaaGreatDoor
namespace Rm
open Go Go.RowKit
open Rk (Orc Kn)

def codeR (P : Program) (okf : FuncId → Bool) (kn : Kn) (bz : BZ) (call : Call) : Code → St → Option (Ex × St)
  | .skip, s => some (.nrm, s)
  | .region _ os draw, s => if draw = false ∧ os.toList.all (fun o => !isDef o.op) = true then
      match opsL P okf kn bz call os os.toList s with
      | some s' => some (.nrm, s')
      | none => none
    else none
  | .seq x y, s => match codeR P okf kn bz call x s with
    | some (.nrm, s') => codeR P okf kn bz call y s'
    | _ => none
  | .block _ x, s => match codeR P okf kn bz call x s with
    | some (.nrm, s') => some (.nrm, s')
    | _ => none
  | _, _ => none

section
variable {P : Program} {B : Nat} {kn : Kn} {okf : FuncId → Bool} {bz : BZ} {call : Call}
theorem codeR_ok {rl rn : Nat} (hbz : BZOk P bz) (hg : Good P B kn call) (hf : Rk.OkF P okf) : ∀ (c : Code) {s s' : St} {x : Ex}, codeR P okf kn bz call c s = some (x, s') →
    x = .nrm ∧ Go1 s s' ∧ (s'.ob → ∀ ρ w, R B ρ s.H s.nx w → KnB B kn w → ScS s → ∀ (Q : Exit → Act → World → Prop), Post B s ρ w s' (Q .normal) → c.wpIn (Fence.wide.inRound rl) rn P Q (act ρ s) w) := by
  intro c
  induction c with
  | skip =>
    intro s s' x h
    simp only [codeR, Option.some.injEq, Prod.mk.injEq] at h
    obtain ⟨rfl, rfl⟩ := h
    exact ⟨rfl, Go1.refl _, fun _ ρ w hR _ hs Q hQ => wpIn_skip (hQ ρ w hR (Ext.refl _ _ _ _) hs)⟩
  | region id os draw =>
    intro s s' x h
    simp only [codeR] at h
    split at h
    · rename_i hc
      obtain ⟨rfl, hc⟩ := hc
      split at h
      · rename_i s1 h1
        simp only [Option.some.injEq, Prod.mk.injEq] at h
        obtain ⟨rfl, rfl⟩ := h
        obtain ⟨a1, a2⟩ := opsL_round (B := B) (rl := rl) (rn := rn) hbz hg hf os.toList (fun o ho => by simpa using List.all_eq_true.1 hc o ho) h1
        exact ⟨rfl, a1, fun hob ρ w hR hk hs Q hQ => wpIn_region_list (a2 hob ρ w hR hk hs Q hQ)⟩
      · cases h
    · cases h
  | seq y z ihy ihz =>
    intro s s' x h
    simp only [codeR] at h
    split at h
    · rename_i s1 h1
      obtain ⟨_, a1, a2⟩ := ihy h1
      obtain ⟨e, b1, b2⟩ := ihz h
      refine ⟨e, a1.trans b1, fun hob ρ w hR hk hs Q hQ => wpIn_seq ?_⟩
      refine a2 (b1.ob hob) ρ w hR hk hs _ fun ρ1 w1 hR1 hE1 hs1 => ?_
      exact b2 hob ρ1 w1 hR1 (hk.ext hR hE1) hs1 Q (hQ.ext hE1)
    · cases h
  | block id y ih =>
    intro s s' x h
    simp only [codeR] at h
    split at h
    · rename_i s1 h1
      simp only [Option.some.injEq, Prod.mk.injEq] at h
      obtain ⟨rfl, rfl⟩ := h
      obtain ⟨_, a1, a2⟩ := ih h1
      exact ⟨rfl, a1, fun hob ρ w hR hk hs Q hQ => wpIn_block (a2 hob ρ w hR hk hs _ fun ρ1 w1 hR1 hE1 hs1 => hQ ρ1 w1 hR1 hE1 hs1)⟩
    · cases h
  | _ => intro s s' x h; simp [codeR] at h
end
end Rm
end Go.Proofs.YtpophgfjdlkgiaaGreatDoor
