/- 'cochineallaw19.awake' answers true: by the reckoner with memory; the cells of memory.kinds and micro.jumps known. -/
import Derived.Test.YtpophgfjdlkgiaaGreatDoorRmS
namespace Go.Proofs.YtpophgfjdlkgiaaGreatDoor
namespace Rm
open Go Go.RowKit
open Rk (Orc Kn)
set_option maxRecDepth 100000

/-- Where the ten rows' slices lie. -/
structure Js where
  b : Nat → Nat
  o : Nat → Nat
  c : Nat → Nat
def Js.sl (j : Js) (i n : Nat) : Value := .slice (some ⟨j.b i, j.o i, none⟩) n (j.c i)
def kindsL : List Value := [.int .i64 0, .int .i64 32768, .int .i64 32784, .int .i64 49152, .int .i64 65536]
def jumpsL (j : Js) : List Value := [.string ⟨#[74, 77, 80]⟩, .int .i64 6, .int .i64 4, j.sl 0 2, .string ⟨#[74, 77, 80]⟩, .int .i64 11, .int .i64 4, j.sl 1 4, .string ⟨#[74, 83, 82]⟩, .int .i64 6, .int .i64 4, j.sl 2 5, .string ⟨#[82, 84, 83]⟩, .int .i64 0, .int .i64 4, j.sl 3 5, .string ⟨#[82, 84, 73]⟩, .int .i64 0, .int .i64 4, j.sl 4 5, .string ⟨#[80, 72, 65]⟩, .int .i64 0, .int .i64 4, j.sl 5 2, .string ⟨#[80, 72, 80]⟩, .int .i64 0, .int .i64 4, j.sl 6 2, .string ⟨#[80, 76, 65]⟩, .int .i64 0, .int .i64 4, j.sl 7 3, .string ⟨#[80, 76, 80]⟩, .int .i64 0, .int .i64 4, j.sl 8 3, .string ⟨#[66, 82, 75]⟩, .int .i64 0, .int .i64 4, j.sl 9 6]
def litA (j : Js) (a : Addr) : Option Value := match a.spot with
  | some _ => none
  | none => match Nat.beq a.block 0 with
    | true => kindsL[a.off]?
    | false => match Nat.beq a.block 1 with
      | true => (jumpsL j)[a.off]?
      | false => none
def knA (W : World) (j : Js) : Kn := fun a => match litA j a with
  | some v => some (v, none)
  | none => match W.cell? a with
    | some v => some (v, none)
    | none => none
def LitOk (W : World) (j : Js) : Prop := ∀ a v, litA j a = some v → W.cell? a = some v
theorem knA_ok {W : World} {j : Js} (h : LitOk W j) : KnB W.heap.size (knA W j) W := fun a v o ha _ => by
  unfold knA at ha
  have key : W.cell? a = some v := by
    split at ha
    · rename_i u hu
      cases ha
      exact h a _ hu
    · split at ha
      · rename_i u hu
        cases ha
        exact hu
      · cases ha
  exact ⟨key, World.block_lt_of_cell? W a key⟩
theorem knA_cell {W w : World} {B : Nat} {j : Js} (h : LitOk W j) (hk : KnB B (knA W j) w) {a : Addr} {v : Value} (ha : W.cell? a = some v) : w.cell? a = some v := by
  refine (hk a v none ?_ (fun p hp => by cases hp)).1
  unfold knA
  split
  · rename_i u hu
    have := (h a u hu).symm.trans ha
    cases this
    rfl
  · rw [ha]

def sumA (j : Js) : Call := fun f args H nx q ob => match Nat.beq f 124 with
  | true => match args with
    | [.int .u8 n] => match decide (n = 234) with
      | true => some ⟨.tuple ⟨[.agg ⟨[.string ⟨#[78, 79, 80]⟩, .int .i64 0, .int .i64 0]⟩, .int .i64 0]⟩, H, nx, nx, nx, q, ob⟩
      | false => match decide (n = 76) with
        | true => some ⟨.tuple ⟨[.agg ⟨[.string ⟨#[74, 77, 80]⟩, .int .i64 6, .int .i64 4]⟩, .int .i64 0]⟩, H, nx, nx, nx, q, ob⟩
        | false => none
    | _ => none
  | false => match Nat.beq f 153 with
    | true => match args with
      | [.slice (some ⟨b, o, none⟩) n _] => match Nat.beq n 2 with
        | true => some ⟨.slice (some ⟨nx, 0, some 1⟩) 2 0, (nx, .room [.int .i64 1, .int .i64 24] 3 1) :: H, nx + 1, nx, nx, q, (b = j.b 0 ∧ o = j.o 0) ∧ ob⟩
        | false => none
      | _ => none
    | false => none

theorem sumA_good {W : World} {j : Js} {B : Nat} (h : LitOk W j) (h0 : W.cell? ⟨j.b 0, j.o 0, none⟩ = some (.int .i64 1)) (h1 : W.cell? ⟨j.b 0, j.o 0 + 1, none⟩ = some (.int .i64 24)) : Good Tryz.prog B (knA W j) (sumA j) := by
  intro f args H nx q ob r hr
  unfold sumA at hr
  have plain : ∀ {n : Int} {v : Value}, unt v = true → (∀ w, Calls Tryz.prog 124 #[.int .u8 n] w fun e w' => e = .returned v ∧ Below w.heap.size w w') →
      (ob → ob) ∧ Low H nx ⟨v, H, nx, nx, nx, q, ob⟩ ∧ (ob → ∀ ρ w, R B ρ H nx w → KnB B (knA W j) w → scL nx [.int .u8 n] → Calls Tryz.prog 124 ⟨concL ρ [.int .u8 n]⟩ w (Ans B ρ H nx w ⟨v, H, nx, nx, nx, q, ob⟩)) := by
    intro n v hv hc
    refine ⟨id, fun _ _ _ _ h => h, fun _ ρ w hR _ _ => Calls.mono (hc w) ?_⟩
    rintro e w' ⟨rfl, hb⟩
    exact ⟨ρ, by rw [conc_unt ρ v hv], sc_unt _ _ hv, hR.below hb, Ext.below hb⟩
  split at hr
  · rename_i hf
    obtain rfl := Nat.eq_of_beq_eq_true hf
    split at hr
    · rename_i n
      split at hr
      · rename_i hn
        obtain rfl := of_decide_eq_true hn
        cases hr
        exact plain rfl (fun w => by have := of_calls 234 (by omega) (by omega) w; rw [of_nop] at this; exact this)
      · split at hr
        · rename_i hn
          obtain rfl := of_decide_eq_true hn
          cases hr
          exact plain rfl (fun w => by have := of_calls 76 (by omega) (by omega) w; rw [of_jmp] at this; exact this)
        · cases hr
    · cases hr
  · split at hr
    · rename_i hf
      obtain rfl := Nat.eq_of_beq_eq_true hf
      split at hr
      · rename_i b o n c
        split at hr
        · rename_i hn
          obtain rfl := Nat.eq_of_beq_eq_true hn
          cases hr
          refine ⟨fun x => x.2, Low.fresh rfl, fun x ρ w hR hk _ => ?_⟩
          obtain ⟨⟨rfl, rfl⟩, _⟩ := x
          refine Calls.mono (clone_calls _ _ c 1 24 w (knA_cell h hk h0) (knA_cell h hk h1)) ?_
          rintro e w' ⟨n, hn, rfl, hbt, hb⟩
          obtain ⟨r1, r2⟩ := hR.fresh2 (b := .room [.int .i64 1, .int .i64 24] 3 1) (e := n) (w' := w') (fun _ => hn) hbt ⟨trivial, trivial, trivial⟩ (fun x hx => hb.block x hx) hb.size hb.os hb.tape hb.output
          refine ⟨bind ρ nx n, ?_, by show nx < nx + 1; omega, r1, r2⟩
          show _ = Ending.returned (cS _ _ _ _)
          simp [cS, bind_at]
        · cases hr
      · cases hr
    · cases hr
end Rm
end Go.Proofs.YtpophgfjdlkgiaaGreatDoor
