/- A reckoner with memory: contracts of opcode.Of and of slices.Clone over the laid rows of micro.jumps. -/
import Derived.Test.YtpophgfjdlkgiaaGreatDoorOf4
import Derived.Test.YtpophgfjdlkgiaaGreatDoorRmZ
namespace Go.Proofs.YtpophgfjdlkgiaaGreatDoor
namespace Rm
open Go Go.RowKit
open Rk (Orc Kn)
set_option maxRecDepth 100000
theorem R.below {B : Nat} {ρ : Env} {H : Heap} {nx : Nat} {w w' : World} (h : R B ρ H nx w) (hb : Below w.heap.size w w') : R B ρ H nx w' :=
  ⟨Nat.le_trans h.base hb.size, fun k b hk => by
    obtain ⟨g1, g2, g3, g4⟩ := h.mem k b hk
    exact ⟨g1, g2.heap (fun hm => hb.block _ (g2.lt hm)), g3, g4⟩, h.inj⟩
theorem Ext.below {ρ : Env} {H : Heap} {nx : Nat} {w w' : World} (hb : Below w.heap.size w w') : Ext w ρ H nx w' ρ H nx :=
  ⟨Same.refl _ _, Nat.le_refl _, fun k b h hm => .inr ⟨k, b, h, hm, rfl⟩, fun x hx _ => hb.block x hx, hb.size, hb.os, hb.tape, hb.output⟩

/-- A new block, wherever it lies behind the old memory. -/
theorem R.fresh2 {B : Nat} {ρ : Env} {H : Heap} {nx : Nat} {w w' : World} {b : Blk} {e : Ent} (h : R B ρ H nx w) (he : b.mem = true → w.heap.size ≤ e.b) (hb : BAt (bind ρ nx e) w' e b) (hsc : b.sc (nx + 1))
    (hold : ∀ x, x < w.heap.size → w'.heap[x]? = w.heap[x]?) (hz : w.heap.size ≤ w'.heap.size) (hos : w'.os = w.os) (htp : w'.tape = w.tape) (hout : w'.output = w.output) :
    R B (bind ρ nx e) ((nx, b) :: H) (nx + 1) w' ∧ Ext w ρ H nx w' (bind ρ nx e) ((nx, b) :: H) (nx + 1) := by
  have hl : ∀ j c, lk ((nx, b) :: H) j = some c → (j = nx ∧ c = b) ∨ (j ≠ nx ∧ lk H j = some c) := fun j c hj => by
    rw [lk_cons] at hj
    split at hj
    · rename_i q; cases hj; exact .inl ⟨q.symm, rfl⟩
    · rename_i q; exact .inr ⟨fun q2 => q q2.symm, hj⟩
  have hlt : ∀ j c, lk H j = some c → c.mem = true → (ρ j).b < w.heap.size := fun j c hj hc => (h.mem j c hj).2.1.lt hc
  have hsame := bind_same ρ nx e
  refine ⟨h.step hz hsame (Nat.le_succ _) nx b (Nat.lt_succ_self _) (by rw [bind_at]; exact hb) hsc (fun hm => by rw [bind_at]; exact Nat.le_trans h.base (he hm)) hl (fun j c hj _ hc hm _ => ?_) (fun j c hj _ _ hc => hold _ (hlt j c hj hc)), ?_⟩
  · rw [bind_at, ← hsame j (h.mem j c hj).1]
    have := hlt j c hj hc
    have := he hm
    omega
  · refine ⟨hsame, Nat.le_succ _, fun j c hj hc => ?_, fun x hx _ => hold x hx, hz, hos, htp, hout⟩
    rcases hl j c hj with ⟨rfl, rfl⟩ | ⟨_, hj'⟩
    · left; rw [bind_at]; exact he hc
    · exact .inr ⟨j, c, hj', hc, by rw [hsame j (h.mem j c hj').1]⟩

/-! ### Of -/
theorem of_nop : ofV 234 = .tuple ⟨[.agg ⟨[.string ⟨#[78, 79, 80]⟩, .int .i64 0, .int .i64 0]⟩, .int .i64 0]⟩ := by kernel_rfl
theorem of_jmp : ofV 76 = .tuple ⟨[.agg ⟨[.string ⟨#[74, 77, 80]⟩, .int .i64 6, .int .i64 4]⟩, .int .i64 0]⟩ := by kernel_rfl

/-! ### Clone -/
def cellI (w : World) (a : Addr) : Int := match w.cell? a with
  | some (.int _ n) => n
  | _ => 0
/-- What a world's cells hold, each owed. -/
def knJ (w : World) : Kn := fun a => some (.int .i64 (cellI w a), some (w.cell? a = some (.int .i64 (cellI w a))))
theorem knJ_ok (w : World) : KnB w.heap.size (knJ w) w := fun a v o ha ho => by
  simp only [knJ, Option.some.injEq, Prod.mk.injEq] at ha
  obtain ⟨rfl, rfl⟩ := ha
  have := ho _ rfl
  exact ⟨this, World.block_lt_of_cell? w a this⟩
def okT : Option Res → (Value → Heap → Nat → Prop → Prop) → Prop
  | some r, K => K r.v r.H r.nx r.ob
  | none, _ => False
theorem clone_run (w : World) (b o c : Nat) (K : Value → Heap → Nat → Prop → Prop) :
    okT (fn Tryz.prog okf (knJ w) bz noSum 60 1 153 [.slice (some ⟨b, o, none⟩) 2 c] [] 0 [] True) K =
      K (.slice (some ⟨1, 0, some 1⟩) 2 0) [(1, .room [.int .i64 (cellI w ⟨b, o + 0, none⟩), .int .i64 (cellI w ⟨b, o + 1, none⟩)] 3 1), (0, .row [] 3)] 2
        ((w.cell? ⟨b, o + 0, none⟩ = some (.int .i64 (cellI w ⟨b, o + 0, none⟩))) ∧ (w.cell? ⟨b, o + 1, none⟩ = some (.int .i64 (cellI w ⟨b, o + 1, none⟩))) ∧ True) := by kernel_rfl
theorem okT_eq {r : Option Res} {v : Value} {H : Heap} {nx : Nat} {ob : Prop} (h : ∀ K, okT r K = K v H nx ob) : ∃ s, r = some s ∧ s.v = v ∧ s.H = H ∧ s.nx = nx ∧ s.ob = ob := by
  cases r with
  | none =>
    have := h (fun _ _ _ _ => True)
    exact absurd (this.symm ▸ trivial : okT none fun _ _ _ _ => True) id
  | some s =>
    have := h (fun v' H' nx' ob' => v' = v ∧ H' = H ∧ nx' = nx ∧ ob' = ob)
    have h2 : okT (some s) (fun v' H' nx' ob' => v' = v ∧ H' = H ∧ nx' = nx ∧ ob' = ob) := by rw [this]; exact ⟨rfl, rfl, rfl, rfl⟩
    exact ⟨s, rfl, h2⟩
/-- slices.Clone of two numbers: a new block. -/
theorem clone_calls (b o c : Nat) (x y : Int) (w : World) (hx : w.cell? ⟨b, o, none⟩ = some (.int .i64 x)) (hy : w.cell? ⟨b, o + 1, none⟩ = some (.int .i64 y)) :
    Calls Tryz.prog 153 #[.slice (some ⟨b, o, none⟩) 2 c] w fun e w' => ∃ n, w.heap.size ≤ n.b ∧ e = .returned (.slice (some ⟨n.b, 0, none⟩) 2 n.cap) ∧ BAt (fun _ => n) w' n (.room [.int .i64 x, .int .i64 y] 3 1) ∧ Below w.heap.size w w' := by
  obtain ⟨s, hr, e1, e2, e3, e4⟩ := okT_eq (clone_run w b o c)
  have hcx : cellI w ⟨b, o + 0, none⟩ = x := by
    unfold cellI; rw [Nat.add_zero, hx]
  have hcy : cellI w ⟨b, o + 1, none⟩ = y := by
    unfold cellI; rw [hy]
  obtain ⟨_, _, h3⟩ := fn_good (m := 60) mixed bz_ok okf_ok (noSum_good (P := Tryz.prog) (B := w.heap.size) (kn := knJ w)) 1 _ _ _ _ _ _ _ hr
  have hob : s.ob := by
    rw [e4, hcx, hcy, Nat.add_zero]
    exact ⟨hx, hy, trivial⟩
  have := h3 hob (fun _ => ⟨0, 0, undef⟩) w ⟨Nat.le_refl _, fun k b hk => by simp [lk] at hk, fun k k' b b' hk => by simp [lk] at hk⟩ (knJ_ok w) ⟨trivial, trivial⟩
  refine Calls.mono this ?_
  rintro e w' ⟨ρ, rfl, _, hR, hE⟩
  rw [e1, e2, hcx, hcy] at *
  obtain ⟨g1, g2, g3, g4⟩ := hR.mem 1 _ rfl
  refine ⟨ρ 1, g4 rfl, ?_, ?_, hE.os, hE.tape, hE.output, hE.size, fun x hx => hE.fr x hx (fun k b hk => by simp [lk] at hk)⟩
  · rfl
  · exact g2
end Rm
end Go.Proofs.YtpophgfjdlkgiaaGreatDoor
