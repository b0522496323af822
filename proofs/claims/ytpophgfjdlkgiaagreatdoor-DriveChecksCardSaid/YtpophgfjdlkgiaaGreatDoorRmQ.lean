/- A reckoner with memory: a run that is cut into calls, each reckoned by itself. -/
import Derived.Test.YtpophgfjdlkgiaaGreatDoorRmW
namespace Go.Proofs.YtpophgfjdlkgiaaGreatDoor
namespace Rm
open Go Go.RowKit
open Rk (Orc Kn)

def okR (r : Option Res) (K : Value → Heap → Nat → Prop → Prop) : Prop := match r with
  | some r => K r.v r.H r.nx r.ob
  | none => False
theorem okR_eq {r : Option Res} {v : Value} {H : Heap} {nx : Nat} {ob : Prop} (h : ∀ K, okR r K = K v H nx ob) : ∃ s, r = some s ∧ s.v = v ∧ s.H = H ∧ s.nx = nx ∧ s.ob = ob := by
  cases r with
  | none =>
    have := h (fun _ _ _ _ => True)
    exact absurd (this.symm ▸ trivial : okR none fun _ _ _ _ => True) id
  | some s =>
    have := h (fun v' H' nx' ob' => v' = v ∧ H' = H ∧ nx' = nx ∧ ob' = ob)
    have h2 : okR (some s) (fun v' H' nx' ob' => v' = v ∧ H' = H ∧ nx' = nx ∧ ob' = ob) := by rw [this]; exact ⟨rfl, rfl, rfl, rfl⟩
    exact ⟨s, rfl, h2⟩

/-- One call: its function, its arguments, what is known ahead; its answer, and what is known behind. -/
structure Pc where
  f : FuncId
  nx : Nat
  A : List Value
  H : Heap
  V : Value
  R : Heap
  X : Nat
def pk (ks : List Nat) (k : Nat) : Bool := ks.any (fun j => Nat.beq j k)
def PcOk (P : Program) (B : Nat) (kn : Kn) (p : Pc) : Prop :=
  ∀ ρ w, R B ρ p.H p.nx w → KnB B kn w → scL p.nx p.A → Calls P p.f ⟨concL ρ p.A⟩ w fun e w' => ∃ ρ', e = .returned (conc ρ' p.V) ∧ sc p.X p.V ∧ R B ρ' p.R p.X w' ∧ Ext w ρ p.H p.nx w' ρ' p.R p.X
theorem pc_ok {P : Program} {B : Nat} {kn : Kn} {okf : FuncId → Bool} {bz : BZ} {sum : Call} (hm : P.follows .mixedOrders = true) (hbz : BZOk P bz) (hf : Rk.OkF P okf) (hs : Good P B kn sum) {m d : Nat} {p : Pc} {F : Heap} {OB : Prop} (ks : List Nat)
    (hrun : ∀ K, okR (fn P okf kn bz sum m d p.f p.A p.H p.nx [] True) K = K p.V F p.X OB) (hob : OB) (hR : keep (pk ks) F = p.R) : PcOk P B kn p := by
  obtain ⟨s, hr, e1, e2, e3, e4⟩ := okR_eq hrun
  intro ρ w hRw hk hsc
  obtain ⟨_, _, h3⟩ := fn_good (m := m) hm hbz hf hs d _ _ _ _ _ _ _ hr
  have := h3 (by rw [e4]; exact hob) ρ w hRw hk hsc
  refine Calls.mono this ?_
  rintro e w' ⟨ρ', rfl, h1, h2, hE⟩
  rw [e1, e3] at h1
  rw [e2, e3] at h2 hE
  have hl : ∀ k b, lk p.R k = some b → lk F k = some b := fun k b hkb => by
    rw [← hR, lk_keep] at hkb
    split at hkb
    · exact hkb
    · cases hkb
  refine ⟨ρ', by rw [e1], h1, h2.sub fun k b hkb => ⟨hl k b hkb, (h2.mem k b (hl k b hkb)).1, (h2.mem k b (hl k b hkb)).2.2.1⟩, ⟨hE.env, hE.nxle, fun k b hkb hm => hE.own k b (hl k b hkb) hm, hE.fr, hE.size, hE.os, hE.tape, hE.output⟩⟩

def findP (f nx : Nat) : List Pc → Option Pc
  | [] => none
  | p :: r => match Nat.beq p.f f with
    | true => match Nat.beq p.nx nx with
      | true => some p
      | false => findP f nx r
    | false => findP f nx r
theorem findP_ok {f nx : Nat} : ∀ {l : List Pc} {p : Pc}, findP f nx l = some p → p ∈ l ∧ p.f = f
  | [], p, h => by cases h
  | q :: r, p, h => by
    rw [findP] at h
    split at h
    · rename_i hf
      split at h
      · cases h; exact ⟨by simp, Nat.eq_of_beq_eq_true hf⟩
      · obtain ⟨h1, h2⟩ := findP_ok h
        exact ⟨by simp [h1], h2⟩
    · obtain ⟨h1, h2⟩ := findP_ok h
      exact ⟨by simp [h1], h2⟩
def sumP (l : List Pc) (sum : Call) : Call := fun f args H nx q ob => match findP f nx l with
  | some p => some ⟨p.V, p.R, p.X, 0, 0, q, (args = p.A ∧ H = p.H ∧ nx = p.nx) ∧ ob⟩
  | none => sum f args H nx q ob
theorem sumP_good {P : Program} {B : Nat} {kn : Kn} {l : List Pc} {sum : Call} (hs : Good P B kn sum) (hl : ∀ p ∈ l, PcOk P B kn p) : Good P B kn (sumP l sum) := by
  intro f args H nx q ob r h
  unfold sumP at h
  split at h
  · rename_i p hp
    cases h
    obtain ⟨h1, rfl⟩ := findP_ok hp
    refine ⟨fun x => x.2, fun k b hk => absurd hk (Nat.not_lt_zero _), fun x ρ w hR hk hsc => ?_⟩
    obtain ⟨⟨rfl, rfl, rfl⟩, _⟩ := x
    exact hl p h1 ρ w hR hk hsc
  · exact hs f args H nx q ob r h
end Rm
end Go.Proofs.YtpophgfjdlkgiaaGreatDoor
