/- A reckoner with memory: an iterator's code. -/
import Derived.Test.YtpophgfjdlkgiaaGreatDoorRmM
namespace Go.Proofs.YtpophgfjdlkgiaaGreatDoor
namespace Rm
open Go Go.RowKit
open Rk (Orc Kn)

/-- What stands while the iterator runs, and how far the range's frame reaches. -/
structure YC (g : Rng) (ρ0 : Env) (fn : FuncId) (L D ky n0 : Nat) (ρ : Env) (w : World) (nx : Nat) : Prop where
  y : YAt g ρ0 fn L D ky ρ w
  lt : ky < nx
  le : n0 ≤ nx
  same : Same n0 ρ0 ρ
  scf : ∀ i, sc n0 (g.fr.arr.getD i undef)
theorem YC.ext {g : Rng} {ρ0 ρ ρ' : Env} {fn : FuncId} {L D ky n0 B : Nat} {H H' : Heap} {nx nx' : Nat} {w w' : World} (h : YC g ρ0 fn L D ky n0 ρ w nx) (hR : R B ρ H nx w) (hE : Ext w ρ H nx w' ρ' H' nx') : YC g ρ0 fn L D ky n0 ρ' w' nx' :=
  ⟨h.y.ext hR h.lt hE, Nat.lt_of_lt_of_le h.lt hE.nxle, Nat.le_trans h.le hE.nxle, fun k hk => (h.same k hk).trans (hE.env k (Nat.lt_of_lt_of_le hk h.le)), h.scf⟩

def opsY (P : Program) (okf : FuncId → Bool) (kn : Kn) (bz : BZ) (call : Call) (g : Rng) (ky : Nat) (all : Array Oper) : List Oper → St → Option St
  | [], s => some s
  | o :: rest, s => if Region.wanted o (Rk.yieldedF all s.t) = true then
      match stepY P okf kn bz call g ky o s with
      | some s' => opsY P okf kn bz call g ky all rest s'
      | none => none
    else if gOk all s.t o = true then opsY P okf kn bz call g ky all rest { s with t := Rk.putF s.t o.dst undef } else none

def codeY (P : Program) (okf : FuncId → Bool) (kn : Kn) (bz : BZ) (call : Call) (g : Rng) (ky : Nat) : Nat → Code → St → Option (Ex × St)
  | 0, _, _ => none
  | n + 1, c, s => match c with
    | .skip => some (.nrm, s)
    | .region _ os draw => if draw = false then
        match opsY P okf kn bz call g ky os os.toList s with
        | some s' => some (.nrm, s')
        | none => none
      else none
    | .seq x y => match codeY P okf kn bz call g ky n x s with
      | some (.nrm, s') => codeY P okf kn bz call g ky n y s'
      | r => r
    | .cond b x y => if okc b = true then
        match Rk.evF s.t b with
        | .bool b => codeY P okf kn bz call g ky n (if b then x else y) s
        | _ => none
      else none
    | .block id x => match codeY P okf kn bz call g ky n x s with
      | some (.ex i, s') => if i = id then some (.nrm, s') else some (.ex i, s')
      | r => r
    | .loop x => match codeY P okf kn bz call g ky n x s with
      | some (.nrm, s') => codeY P okf kn bz call g ky n (.loop x) s'
      | r => r
    | .exit id => some (.ex id, s)
    | .ret => some (.rt, s)
    | _ => none

section
variable {P : Program} {B : Nat} {kn : Kn} {okf : FuncId → Bool} {bz : BZ} {call : Call} {g : Rng} {ky n0 : Nat}
theorem opsY_ok {rn : Nat} (hbz : BZOk P bz) (hg : Good P B kn call) (hf : Rk.OkF P okf) {all : Array Oper} : ∀ (l : List Oper) {s s' : St}, opsY P okf kn bz call g ky all l s = some s' →
    Go1 s s' ∧ (s'.ob → ∀ ρ w, R B ρ s.H s.nx w → KnB B kn w → ScS s → ∀ (ρ0 : Env) (fn : FuncId) (L D : Nat), YC g ρ0 fn L D ky n0 ρ w s.nx → ∀ (Q : Exit → Act → World → Prop), Post B s ρ w s' (Q .normal) → wpListIn Fence.wide rn P all Q l (act ρ s) w)
  | [], s, s', h => by
    simp only [opsY, Option.some.injEq] at h
    subst h
    exact ⟨Go1.refl _, fun _ ρ w hR hk hs _ _ _ _ _ Q hQ => hQ ρ w hR (Ext.refl _ _ _ _) hs⟩
  | o :: rest, s, s', h => by
    simp only [opsY] at h
    split at h
    · rename_i hw
      split at h
      · rename_i s1 h1
        obtain ⟨a1, a2⟩ := stepY_ok (B := B) (n := rn) (n0 := n0) hbz hg hf h1
        obtain ⟨b1, b2⟩ := opsY_ok (rn := rn) hbz hg hf rest h
        refine ⟨a1.trans b1, fun hob ρ w hR hk hs ρ0 fn L D hY Q hQ => ?_⟩
        unfold wpListIn
        rw [wanted_act (.inl hw), hw]
        simp only [if_true]
        refine a2 (b1.ob hob) ρ w hR hk hs ρ0 fn L D hY.y hY.lt hY.le hY.same hY.scf _ _ fun ρ' w' hR' hE' hs' => ?_
        exact b2 hob ρ' w' hR' (hk.ext hR hE') hs' ρ0 fn L D (hY.ext hR hE') Q fun ρ2 w2 hR2 hE2 hs2 => hQ ρ2 w2 hR2 (hE'.trans hE2) hs2
      · cases h
    · rename_i hw
      split at h
      · rename_i hgk
        obtain ⟨b1, b2⟩ := opsY_ok (rn := rn) hbz hg hf rest h
        have e1 : ∀ ρ, (act ρ s).put o.dst undef = act ρ { s with t := Rk.putF s.t o.dst undef } := fun ρ => by
          simp only [act, Rk.putF_arr, Rk.put_act]
          rw [← put_map]; rfl
        refine ⟨⟨b1.ob, b1.nx, b1.lo, b1.low⟩, fun hob ρ w hR hk hs ρ0 fn L D hY Q hQ => ?_⟩
        unfold wpListIn
        rw [wanted_act (.inr hgk), if_neg hw, e1]
        refine ⟨fun _ _ => trivial, ?_⟩
        exact b2 hob ρ w hR hk ⟨fun i => by
          show Rm.sc s.nx ((Rk.putF s.t o.dst undef).arr.getD i undef)
          rw [Rk.putF_arr]; exact sc_put hs.1 (v := undef) (by show Rm.sc _ (.tuple ⟨[]⟩); trivial) _ i, hs.2⟩ ρ0 fn L D hY Q fun ρ2 w2 hR2 hE2 hs2 => hQ ρ2 w2 hR2 hE2 hs2
      · cases h

def HoldsY (B : Nat) (kn : Kn) (g : Rng) (ky n0 : Nat) (s s' : St) (x : Ex) (W : (Exit → Act → World → Prop) → Act → World → Prop) : Prop :=
  Go1 s s' ∧ (s'.ob → ∀ ρ w, R B ρ s.H s.nx w → KnB B kn w → ScS s → ∀ (ρ0 : Env) (fn : FuncId) (L D : Nat), YC g ρ0 fn L D ky n0 ρ w s.nx → ∀ (Q : Exit → Act → World → Prop), Post B s ρ w s' (Q x.up) → W Q (act ρ s) w)

theorem codeY_all {rn : Nat} (hbz : BZOk P bz) (hg : Good P B kn call) (hf : Rk.OkF P okf) : ∀ (n : Nat),
    (∀ (c : Code) (s s' : St) (x : Ex), codeY P okf kn bz call g ky n c s = some (x, s') → HoldsY B kn g ky n0 s s' x (fun Q a w => c.wpIn Fence.wide rn P Q a w)) ∧
    (∀ (c : Code) (s s' : St) (x : Ex), codeY P okf kn bz call g ky n (.loop c) s = some (x, s') → HoldsY B kn g ky n0 s s' x (fun Q a w => Code.roundsIn Fence.wide rn P c Q n a w)) := by
  intro n
  induction n with
  | zero => exact ⟨fun c s s' x h => by simp [codeY] at h, fun c s s' x h => by simp [codeY] at h⟩
  | succ n ih =>
    obtain ⟨ihA, ihB⟩ := ih
    have hB : ∀ (c : Code) (s s' : St) (x : Ex), codeY P okf kn bz call g ky (n + 1) (.loop c) s = some (x, s') → HoldsY B kn g ky n0 s s' x (fun Q a w => Code.roundsIn Fence.wide rn P c Q (n + 1) a w) := by
      intro c s s' x h
      simp only [codeY] at h
      split at h
      · rename_i s1 h1
        obtain ⟨a1, a2⟩ := ihA c s s1 .nrm h1
        obtain ⟨b1, b2⟩ := ihB c s1 s' x h
        refine ⟨a1.trans b1, fun hob ρ w hR hk hs ρ0 fn L D hY Q hQ => ?_⟩
        show Code.roundsIn Fence.wide rn P c Q (n + 1) (act ρ s) w
        rw [roundsIn_succ]
        refine a2 (b1.ob hob) ρ w hR hk hs ρ0 fn L D hY _ fun ρ1 w1 hR1 hE1 hs1 => ?_
        exact b2 hob ρ1 w1 hR1 (hk.ext hR hE1) hs1 ρ0 fn L D (hY.ext hR hE1) Q (hQ.ext hE1)
      · rename_i h1
        obtain ⟨a1, a2⟩ := ihA c s s' x h
        refine ⟨a1, fun hob ρ w hR hk hs ρ0 fn L D hY Q hQ => ?_⟩
        show Code.roundsIn Fence.wide rn P c Q (n + 1) (act ρ s) w
        rw [roundsIn_succ]
        refine a2 hob ρ w hR hk hs ρ0 fn L D hY _ fun ρ1 w1 hR1 hE1 hs1 => Ex.up_then (fun e => ?_) (hQ ρ1 w1 hR1 hE1 hs1)
        subst e
        exact h1 _ h
    refine ⟨?_, hB⟩
    intro c s s' x h
    cases c with
    | skip =>
      simp only [codeY, Option.some.injEq, Prod.mk.injEq] at h
      obtain ⟨rfl, rfl⟩ := h
      exact ⟨Go1.refl _, fun _ ρ w hR _ hs _ _ _ _ _ Q hQ => wpIn_skip (hQ ρ w hR (Ext.refl _ _ _ _) hs)⟩
    | exit id =>
      simp only [codeY, Option.some.injEq, Prod.mk.injEq] at h
      obtain ⟨rfl, rfl⟩ := h
      exact ⟨Go1.refl _, fun _ ρ w hR _ hs _ _ _ _ _ Q hQ => wpIn_exit (hQ ρ w hR (Ext.refl _ _ _ _) hs)⟩
    | ret =>
      simp only [codeY, Option.some.injEq, Prod.mk.injEq] at h
      obtain ⟨rfl, rfl⟩ := h
      exact ⟨Go1.refl _, fun _ ρ w hR _ hs _ _ _ _ _ Q hQ => wpIn_ret (hQ ρ w hR (Ext.refl _ _ _ _) hs)⟩
    | region id os draw =>
      simp only [codeY] at h
      split at h
      · rename_i hd
        subst hd
        split at h
        · rename_i s1 h1
          simp only [Option.some.injEq, Prod.mk.injEq] at h
          obtain ⟨rfl, rfl⟩ := h
          obtain ⟨a1, a2⟩ := opsY_ok (B := B) (rn := rn) (n0 := n0) hbz hg hf _ h1
          exact ⟨a1, fun hob ρ w hR hk hs ρ0 fn L D hY Q hQ => wpIn_region_list (a2 hob ρ w hR hk hs ρ0 fn L D hY Q hQ)⟩
        · cases h
      · cases h
    | seq y z =>
      simp only [codeY] at h
      split at h
      · rename_i s1 h1
        obtain ⟨a1, a2⟩ := ihA y s s1 .nrm h1
        obtain ⟨b1, b2⟩ := ihA z s1 s' x h
        refine ⟨a1.trans b1, fun hob ρ w hR hk hs ρ0 fn L D hY Q hQ => wpIn_seq ?_⟩
        refine a2 (b1.ob hob) ρ w hR hk hs ρ0 fn L D hY _ fun ρ1 w1 hR1 hE1 hs1 => ?_
        exact b2 hob ρ1 w1 hR1 (hk.ext hR hE1) hs1 ρ0 fn L D (hY.ext hR hE1) Q (hQ.ext hE1)
      · rename_i h1
        obtain ⟨a1, a2⟩ := ihA y s s' x h
        refine ⟨a1, fun hob ρ w hR hk hs ρ0 fn L D hY Q hQ => wpIn_seq ?_⟩
        refine a2 hob ρ w hR hk hs ρ0 fn L D hY _ fun ρ1 w1 hR1 hE1 hs1 => Ex.up_then (fun e => ?_) (hQ ρ1 w1 hR1 hE1 hs1)
        subst e
        exact h1 _ h
    | cond b y z =>
      simp only [codeY] at h
      split at h
      · rename_i hb
        split at h
        · rename_i v hv
          obtain ⟨a1, a2⟩ := ihA _ s s' x h
          refine ⟨a1, fun hob ρ w hR hk hs ρ0 fn L D hY Q hQ => ?_⟩
          have e : (act ρ s).eval b = .bool v := by
            have := ev_at (t := s.t.arr) (ρ := ρ) (ds := s.ds.map (concD ρ)) hb
            rw [← Rk.evF_eq, hv] at this
            exact this
          exact wpIn_cond e (a2 hob ρ w hR hk hs ρ0 fn L D hY Q hQ)
        · cases h
      · cases h
    | block id y =>
      simp only [codeY] at h
      split at h
      · rename_i i s1 h1
        obtain ⟨a1, a2⟩ := ihA y s s1 (.ex i) h1
        by_cases e : i = id
        · rw [if_pos e] at h
          simp only [Option.some.injEq, Prod.mk.injEq] at h
          obtain ⟨rfl, rfl⟩ := h
          refine ⟨a1, fun hob ρ w hR hk hs ρ0 fn L D hY Q hQ => wpIn_block (a2 hob ρ w hR hk hs ρ0 fn L D hY _ fun ρ1 w1 hR1 hE1 hs1 => ?_)⟩
          show Exit.inBlock id Q (.exit i) _ w1
          simp only [Exit.inBlock]
          rw [if_pos e]; exact hQ ρ1 w1 hR1 hE1 hs1
        · rw [if_neg e] at h
          simp only [Option.some.injEq, Prod.mk.injEq] at h
          obtain ⟨rfl, rfl⟩ := h
          refine ⟨a1, fun hob ρ w hR hk hs ρ0 fn L D hY Q hQ => wpIn_block (a2 hob ρ w hR hk hs ρ0 fn L D hY _ fun ρ1 w1 hR1 hE1 hs1 => ?_)⟩
          show Exit.inBlock id Q (.exit i) _ w1
          simp only [Exit.inBlock]
          rw [if_neg e]; exact hQ ρ1 w1 hR1 hE1 hs1
      · rename_i h1
        obtain ⟨a1, a2⟩ := ihA y s s' x h
        refine ⟨a1, fun hob ρ w hR hk hs ρ0 fn L D hY Q hQ => wpIn_block (a2 hob ρ w hR hk hs ρ0 fn L D hY _ fun ρ1 w1 hR1 hE1 hs1 => ?_)⟩
        have := hQ ρ1 w1 hR1 hE1 hs1
        cases x with
        | nrm => exact this
        | ex i => exact absurd h (h1 i s')
        | rt => exact this
        | go l => exact this
    | loop y =>
      obtain ⟨a1, a2⟩ := hB y s s' x h
      exact ⟨a1, fun hob ρ w hR hk hs ρ0 fn L D hY Q hQ => wpIn_loop_rounds (n + 1) (a2 hob ρ w hR hk hs ρ0 fn L D hY Q hQ)⟩
    | _ => simp [codeY] at h
end
end Rm
end Go.Proofs.YtpophgfjdlkgiaaGreatDoor
