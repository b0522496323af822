/- A reckoner with memory: a range over a function: its record. -/
import Derived.Test.YtpophgfjdlkgiaaGreatDoorRmJ
import Derived.RangeFuncIn
namespace Go.Proofs.YtpophgfjdlkgiaaGreatDoor
namespace Rm
open Go Go.RowKit
open Rk (Orc Kn)

/-- An operation outside of rounds. -/
theorem op_wide {P : Program} {n : Nat} {o : Oper} {a : Act} {w : World} {K : Act → World → Prop} {Q : Exit → Act → World → Prop} (h : o.wp P a w K Q) : o.wpIn Fence.wide n P a w K Q := by
  refine ⟨fun _ _ => trivial, ?_⟩
  rw [show Fence.wide.round = none from rfl, Oper.semAt_none]
  unfold Oper.wp at h
  cases hr : (execOp a.eval o).run P w with
  | halt s w' =>
    rw [hr] at h
    cases s <;> exact h
  | ok v w' =>
    rw [hr] at h
    cases v with
    | value v => exact h
    | skip => exact h
    | defer d => exact h
    | enter f args => exact ⟨fun q => (by cases q), (callsIn_wide).2 h⟩
    | row r args => exact ⟨fun q => (by cases q), fun c cs _ => let ⟨v, w2, r2, s2⟩ := h c cs; ⟨v, w2, r2, stepsIn_wide.2 s2⟩⟩
    | _ => exact h.elim

section
variable {B : Nat} {ρ ρ' : Env} {H H' : Heap} {nx nx' : Nat} {w w' : World} {L : Nat} {r : Loop}
theorem BAt.not_loop {e : Ent} {b : Blk} (h : BAt ρ w e b) (hm : b.mem = true) (hl : w.heap[L]? = some (.loop r)) : e.b ≠ L := by
  intro q
  subst q
  cases b with
  | row cs ty => have := hl.symm.trans h; cases this
  | room cs ty sz => obtain ⟨_, _, h, _⟩ := h; rw [hl] at h; cases h
  | big n f ty => have := h.1; rw [hl] at this; cases this
  | snap n f => cases hm
  | dfr => have := hl.symm.trans h; cases this
theorem Ext.loop (hE : Ext w ρ H nx w' ρ' H' nx') (hR : R B ρ H nx w) (hl : w.heap[L]? = some (.loop r)) : w'.heap[L]? = some (.loop r) :=
  (hE.fr L (Array.getElem?_eq_some_iff.1 hl).1 (fun k b hk hm => (hR.mem k b hk).2.1.not_loop hm hl)).trans hl
theorem R.side (hR : R B ρ H nx w) (hl : w.heap[L]? = some (.loop r)) (o : Obj) : R B ρ H nx (w.putObj L o) :=
  ⟨by rw [World.putObj_size]; exact hR.base, fun k b hk => by
    obtain ⟨g1, g2, g3, g4⟩ := hR.mem k b hk
    exact ⟨g1, g2.heap (fun hm => World.putObj_heap_other (g2.not_loop hm hl)), g3, g4⟩, hR.inj⟩
theorem Ext.side {w0 : World} {ρ0 : Env} {H0 : Heap} {n0 : Nat} (hE : Ext w0 ρ0 H0 n0 w ρ H nx) (hL : w0.heap.size ≤ L) (o : Obj) : Ext w0 ρ0 H0 n0 (w.putObj L o) ρ H nx :=
  ⟨hE.env, hE.nxle, hE.own, fun x hx hn => (World.putObj_heap_other (by omega)).trans (hE.fr x hx hn), by rw [World.putObj_size]; exact hE.size, hE.os, hE.tape, hE.output⟩
/-- Over a turn of the record that is turned back. -/
theorem Ext.over {w1 w2 w3 : World} {ρ1 : Env} {H1 : Heap} {n1 : Nat} {o1 o2 : Obj} (hE1 : Ext w ρ H nx w1 ρ1 H1 n1) (hE2 : Ext (w1.putObj L o1) ρ1 H1 n1 w2 ρ' H' nx') (h3 : w3 = w2.putObj L o2) (hl : w.heap[L]? = some (.loop r)) (ho : o2 = .loop r) (hL2 : L < w2.heap.size) : Ext w ρ H nx w3 ρ' H' nx' := by
  subst h3 ho
  refine ⟨fun k hk => (hE1.env k hk).trans (hE2.env k (by have := hE1.nxle; omega)), Nat.le_trans hE1.nxle hE2.nxle, fun k b hk hm => ?_, fun x hx hn => ?_, ?_, hE2.os.trans hE1.os, hE2.tape.trans hE1.tape, hE2.output.trans hE1.output⟩
  · rcases hE2.own k b hk hm with h1 | ⟨k1, b1, h1, h2, h3⟩
    · left
      rw [World.putObj_size] at h1
      exact Nat.le_trans hE1.size h1
    · rw [← h3]
      exact hE1.own k1 b1 h1 h2
  · by_cases e : x = L
    · subst e
      rw [World.putObj_heap_same hL2, hl]
    · rw [World.putObj_heap_other e, hE2.fr x (by rw [World.putObj_size]; exact Nat.lt_of_lt_of_le hx hE1.size) (fun k b hk hm q => ?_), World.putObj_heap_other e, hE1.fr x hx hn]
      rcases hE1.own k b hk hm with h1 | ⟨k0, b0, h1, h2, h3⟩
      · omega
      · exact hn k0 b0 h1 h2 (h3.trans q)
  · rw [World.putObj_size]
    have := hE2.size
    rw [World.putObj_size] at this
    exact Nat.le_trans hE1.size this
theorem KnB.side {kn : Kn} (hk : KnB B kn w) (hl : w.heap[L]? = some (.loop r)) (o : Obj) : KnB B kn (w.putObj L o) := fun a v q ha ho => by
  obtain ⟨h1, h2⟩ := hk a v q ha ho
  refine ⟨?_, h2⟩
  have hne : a.block ≠ L := fun e => by
    unfold World.cell? at h1
    rw [e, hl] at h1
    cases h1
  unfold World.cell? at h1 ⊢
  rw [World.putObj_heap_other hne]; exact h1
end
end Rm
end Go.Proofs.YtpophgfjdlkgiaaGreatDoor
