/- A reckoner with memory: one round of a range over a function. -/
import Derived.Test.YtpophgfjdlkgiaaGreatDoorRmK
namespace Go.Proofs.YtpophgfjdlkgiaaGreatDoor
namespace Rm
open Go Go.RowKit
open Rk (Orc Kn)

/-- A range over a function: its loop variables' temporaries, its two codes, the frame at its entry. -/
structure Rng where
  ps : List Tmp
  asg : Code
  body : Code
  fr : Rk.Fr

def putL (t : Rk.Fr) : List Tmp → List Value → Rk.Fr
  | p :: ps, v :: vs => putL (Rk.putF t (some p) v) ps vs
  | _, _ => t
theorem putL_arr (ρ : Env) : ∀ (ps : List Tmp) (vs : List Value) (t : Rk.Fr), (putL t ps vs).arr.map (conc ρ) = (ps.zip (concL ρ vs)).foldl (fun a x => a.setIfInBounds x.1 x.2) (t.arr.map (conc ρ))
  | [], vs, t => by cases vs <;> rfl
  | p :: ps, [], t => rfl
  | p :: ps, v :: vs, t => by
    rw [putL, putL_arr ρ ps vs, concL, List.zip_cons_cons, List.foldl_cons, Rk.putF_arr, ← put_map]
    rfl
theorem putL_sc {n : Nat} : ∀ (ps : List Tmp) (vs : List Value) (t : Rk.Fr), (∀ i, sc n (t.arr.getD i undef)) → scL n vs → ∀ i, sc n ((putL t ps vs).arr.getD i undef)
  | [], vs, t, ht, _ => by cases vs <;> exact ht
  | p :: ps, [], t, ht, _ => ht
  | p :: ps, v :: vs, t, ht, hv => putL_sc ps vs _ (fun i => by rw [Rk.putF_arr]; exact sc_put ht hv.1 _ i) hv.2

def rnd (P : Program) (okf : FuncId → Bool) (kn : Kn) (bz : BZ) (call : Call) (g : Rng) (args : List Value) (H : Heap) (nx : Nat) (q : Orc) (ob : Prop) : Option St :=
  if args.length = g.ps.length then
    match codeR P okf kn bz call g.asg ⟨putL g.fr g.ps args, [], H, nx, nx, nx, q, ob⟩ with
    | some (_, s1) => match codeR P okf kn bz call g.body s1 with
      | some (_, s2) => some s2
      | none => none
    | none => none
  else none

def recOf (g : Rng) (ρ : Env) (fn : FuncId) (D : Nat) (st : LoopState) : Loop := { state := st, pending := none, fn, tmps := g.fr.arr.map (conc ρ), params := ⟨g.ps⟩, assign := g.asg, body := g.body, defers := D }

section
variable {P : Program} {B : Nat} {kn : Kn} {okf : FuncId → Bool} {bz : BZ} {call : Call}
theorem rnd_ok {n : Nat} (hbz : BZOk P bz) (hg : Good P B kn call) (hf : Rk.OkF P okf) {g : Rng} {args : List Value} {H : Heap} {nx : Nat} {q : Orc} {ob : Prop} {s : St} (h : rnd P okf kn bz call g args H nx q ob = some s) :
    Go1 ⟨putL g.fr g.ps args, [], H, nx, nx, nx, q, ob⟩ s ∧ (s.ob → ∀ ρ w, R B ρ H nx w → KnB B kn w → scL nx args → (∀ i, sc nx (g.fr.arr.getD i undef)) → ∀ (fn : FuncId) (L D : Nat), w.heap[L]? = some (.loop (recOf g ρ fn D .ready)) →
      (Instr.yield L ⟨concL ρ args⟩).run P w = .ok (.round L fn ((putL g.fr g.ps args).arr.map (conc ρ)) g.asg g.body) w ∧
      RoundIn Fence.wide n P L fn ((putL g.fr g.ps args).arr.map (conc ρ)) g.asg g.body w fun e w' => ∃ ρ', e = .returned (.bool true) ∧ R B ρ' s.H s.nx w' ∧ Ext w ρ H nx w' ρ' s.H s.nx) := by
  unfold rnd at h
  split at h
  · rename_i hlen
    split at h
    · rename_i x1 s1 h1
      split at h
      · rename_i x2 s2 h2
        cases h
        obtain ⟨_, a1, _⟩ := codeR_ok (B := B) (rl := 0) (rn := n) hbz hg hf _ h1
        obtain ⟨_, b1, _⟩ := codeR_ok (B := B) (rl := 0) (rn := n) hbz hg hf _ h2
        refine ⟨a1.trans b1, fun hob ρ w hR hk hsa hsf fn L D hl => ⟨?_, ?_⟩⟩
        · have := run_yield (P := P) (args := ⟨concL ρ args⟩) hl (by simp [recOf, concL_map, hlen])
          rw [this]
          simp only [recOf, putL_arr]
          rw [← Array.foldl_toList, Array.toList_zip]
        · obtain ⟨_, _, a2⟩ := codeR_ok (B := B) (rl := L) (rn := n) hbz hg hf _ h1
          obtain ⟨_, _, b2⟩ := codeR_ok (B := B) (rl := L) (rn := n) hbz hg hf _ h2
          refine roundIn_of_wpIn trivial ?_
          have ha := a2 (b1.ob hob) ρ w hR hk ⟨putL_sc _ _ _ hsf hsa, fun d hd => by cases hd⟩
          refine ha _ fun ρ1 w1 hR1 hE1 hs1 => ?_
          have hl1 := hE1.loop hR hl
          have hL0 : L < w.heap.size := (Array.getElem?_eq_some_iff.1 hl).1
          refine ⟨_, run_beginRound hl1 rfl, ?_⟩
          have hL1 : L < w1.heap.size := Nat.lt_of_lt_of_le hL0 hE1.size
          have hl2 := World.putObj_heap_same (o := .loop { recOf g ρ fn D .ready with state := .busy }) hL1
          refine b2 hob ρ1 _ (hR1.side hl1 _) ((hk.ext hR hE1).side hl1 _) hs1 _ fun ρ2 w2 hR2 hE2 hs2 => ?_
          have hl3 := hE2.loop (hR1.side hl1 _) hl2
          refine ⟨_, _, run_endRound none hl3, ρ2, rfl, hR2.side hl3 _, ?_⟩
          exact hE1.over hE2 rfl hl rfl (Array.getElem?_eq_some_iff.1 hl3).1
      · cases h
    · cases h
  · cases h
end
end Rm
end Go.Proofs.YtpophgfjdlkgiaaGreatDoor
