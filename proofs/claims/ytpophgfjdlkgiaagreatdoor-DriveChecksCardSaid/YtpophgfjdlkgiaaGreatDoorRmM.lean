/- A reckoner with memory: an iterator's frame, that calls yield. -/
import Derived.Test.YtpophgfjdlkgiaaGreatDoorRmL
import Derived.LoopNIn
namespace Go.Proofs.YtpophgfjdlkgiaaGreatDoor
namespace Rm
open Go Go.RowKit
open Rk (Orc Kn)

/-- What stands while the iterator runs: yield's value, the loop's record. -/
def YAt (g : Rng) (ρ0 : Env) (fn : FuncId) (L D ky : Nat) (ρ : Env) (w : World) : Prop :=
  (ρ ky).val = .func (.yield L) #[] #[] ∧ w.heap[L]? = some (.loop (recOf g ρ0 fn D .ready))
theorem YAt.ext {g : Rng} {ρ0 ρ ρ' : Env} {fn : FuncId} {L D ky B : Nat} {H H' : Heap} {nx nx' : Nat} {w w' : World} (h : YAt g ρ0 fn L D ky ρ w) (hR : R B ρ H nx w) (hky : ky < nx) (hE : Ext w ρ H nx w' ρ' H' nx') : YAt g ρ0 fn L D ky ρ' w' :=
  ⟨by rw [← hE.env ky hky]; exact h.1, hE.loop hR h.2⟩

def stepY (P : Program) (okf : FuncId → Bool) (kn : Kn) (bz : BZ) (call : Call) (g : Rng) (ky : Nat) (o : Oper) (s : St) : Option St :=
  match o.op with
  | .call c => match c.callee with
    | .value f => match Rk.evF s.t f with
      | .pointer (some ⟨k, _, some 2⟩) => if (Nat.beq k ky && o.op.operands.toList.all okc) = true then
          match rnd P okf kn bz call g (c.args.toList.map (Rk.evF s.t)) s.H s.nx s.q s.ob with
          | some s2 => some ⟨Rk.putF s.t o.dst (.bool true), s.ds, s2.H, s2.nx, mn s.lo s2.lo, mn s.le s2.le, s2.q, s2.ob⟩
          | none => none
        else none
      | _ => step1 P okf kn bz call o s
    | _ => step1 P okf kn bz call o s
  | _ => step1 P okf kn bz call o s

section
variable {P : Program} {B : Nat} {kn : Kn} {okf : FuncId → Bool} {bz : BZ} {call : Call}
theorem stepY_ok {n : Nat} (hbz : BZOk P bz) (hg : Good P B kn call) (hf : Rk.OkF P okf) {g : Rng} {ky n0 : Nat} {o : Oper} {s s' : St} (h : stepY P okf kn bz call g ky o s = some s') :
    Go1 s s' ∧ (s'.ob → ∀ ρ w, R B ρ s.H s.nx w → KnB B kn w → ScS s → ∀ (ρ0 : Env) (fn : FuncId) (L D : Nat), YAt g ρ0 fn L D ky ρ w → ky < s.nx → n0 ≤ s.nx → Same n0 ρ0 ρ → (∀ i, sc n0 (g.fr.arr.getD i undef)) →
      ∀ (K : Act → World → Prop) (Q : Exit → Act → World → Prop), Post B s ρ w s' K → o.wpIn Fence.wide n P (act ρ s) w K Q) := by
  unfold stepY at h
  have key : ∀ {s' : St}, step1 P okf kn bz call o s = some s' → Go1 s s' ∧ (s'.ob → ∀ ρ w, R B ρ s.H s.nx w → KnB B kn w → ScS s → ∀ (ρ0 : Env) (fn : FuncId) (L D : Nat), YAt g ρ0 fn L D ky ρ w → ky < s.nx → n0 ≤ s.nx → Same n0 ρ0 ρ → (∀ i, sc n0 (g.fr.arr.getD i undef)) →
      ∀ (K : Act → World → Prop) (Q : Exit → Act → World → Prop), Post B s ρ w s' K → o.wpIn Fence.wide n P (act ρ s) w K Q) := fun h1 => by
    obtain ⟨a1, a2⟩ := step1_ok (B := B) hbz hg hf h1
    exact ⟨a1, fun hob ρ w hR hk hs _ _ _ _ _ _ _ _ _ K Q hQ => op_wide (a2 hob ρ w hR hk hs K Q hQ)⟩
  split at h
  · rename_i c ho
    split at h
    · rename_i f hc
      split at h
      · rename_i k off hfe
        split at h
        · rename_i hcond
          simp only [Bool.and_eq_true] at hcond
          obtain ⟨hke, hoc⟩ := hcond
          obtain rfl := Nat.eq_of_beq_eq_true hke
          have hoc' : ∀ x ∈ o.op.operands.toList, okc x = true := fun x hx => List.all_eq_true.1 hoc x hx
          split at h
          · rename_i s2 h2
            cases h
            obtain ⟨a1, a2⟩ := rnd_ok (B := B) (n := n - 1) hbz hg hf h2
            refine ⟨⟨a1.ob, a1.nx, (mn_le _ _).1, fun k b h1 h2 h3 => a1.low k b (Nat.lt_of_lt_of_le h1 (mn_le _ _).2) h2 h3⟩, fun hob ρ w hR hk hs ρ0 fn L D hY hky hn0 hsame hsf K Q hQ => ?_⟩
            have hof : f ∈ o.op.operands.toList := by simp [ho, Op.operands, Call.operands, hc]
            have hoa : ∀ x ∈ c.args.toList, x ∈ o.op.operands.toList := fun x hx => by simp [ho, Op.operands, Call.operands, hc]; exact .inr (by simpa using hx)
            have hev : ∀ x ∈ o.op.operands.toList, (act ρ s).eval x = conc ρ (Rk.evF s.t x) := fun x hx => by
              rw [Rk.evF_eq]; exact ev_at (hoc' x hx)
            have hse : ∀ x ∈ o.op.operands.toList, sc s.nx (Rk.evF s.t x) := fun x hx => by
              rw [Rk.evF_eq]; exact sc_ev hs.1 (hoc' x hx)
            have hargs : scL s.nx (c.args.toList.map (Rk.evF s.t)) := (scL_all s.nx _).2 fun v hv => by
              obtain ⟨y, hy, rfl⟩ := List.mem_map.1 hv
              exact hse y (hoa y hy)
            have hrec : recOf g ρ0 fn D .ready = recOf g ρ fn D .ready := by
              unfold recOf
              rw [map_same hsame hsf]
            have hl := hY.2
            rw [hrec] at hl
            obtain ⟨y1, y2⟩ := a2 hob ρ w hR hk hargs (fun i => sc_mono hn0 _ (hsf i)) fn L D hl
            have e1 : c.args.map (act ρ s).eval = (⟨concL ρ (c.args.toList.map (Rk.evF s.t))⟩ : Array Value) := by
              apply Array.ext'
              simp only [Array.toList_map, concL_map, List.map_map]
              exact List.map_congr_left fun y hy => hev y (hoa y hy)
            have hfv : (act ρ s).eval f = .func (.yield L) #[] #[] := by
              rw [hev f hof, hfe]
              simp only [conc, cP, if_true]
              exact hY.1
            have hrun : (execOp (act ρ s).eval o).run P w = .ok (.round L fn ((putL g.fr g.ps (c.args.toList.map (Rk.evF s.t))).arr.map (conc ρ)) g.asg g.body) w := by
              rw [execOp, ho]
              simp only [resolve, hc, hfv, Deferred.ofValue, Sem.run_bind, Sem.run_pure, Result.andThen_ok, invoke, e1]
              simpa using y1
            refine ⟨fun _ _ => trivial, ?_⟩
            rw [show Fence.wide.round = none from rfl, Oper.semAt_none, hrun]
            refine ⟨fun q => (by cases q), y2.mono ?_⟩
            rintro e w' ⟨ρ', rfl, hR', hE'⟩
            have := hQ ρ' w' hR' hE' ⟨fun i => by
              show sc s2.nx ((Rk.putF s.t o.dst (.bool true)).arr.getD i undef)
              rw [Rk.putF_arr]; exact sc_put (fun j => sc_mono a1.nx _ (hs.1 j)) (v := .bool true) trivial _ i, fun d hd => scD_mono a1.nx _ (hs.2 d hd)⟩
            have e2 : act ρ' ⟨Rk.putF s.t o.dst (.bool true), s.ds, s2.H, s2.nx, mn s.lo s2.lo, mn s.le s2.le, s2.q, s2.ob⟩ = (act ρ s).put o.dst (.bool true) := by
              simp only [act, Rk.putF_arr, Rk.put_act]
              rw [← put_map, map_same hE'.env hs.1, concD_same hE'.env hs.2]
              rfl
            show K ((act ρ s).put o.dst (.bool true)) w'
            rw [← e2]
            exact this
          · cases h
        · cases h
      · exact key h
    · exact key h
  · exact key h
end
end Rm
end Go.Proofs.YtpophgfjdlkgiaaGreatDoor
