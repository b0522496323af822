/- A reckoner with memory, part 15b: how code is left, results. -/
import Derived.Test.YtpophgfjdlkgiaaGreatDoorRmF
import Derived.LoopN
namespace Go.Proofs.YtpophgfjdlkgiaaGreatDoor
namespace Rm
open Go Go.RowKit
open Rk (Orc Kn)

inductive Ex where
  | nrm
  | ex (id : Nat)
  | rt
  | go (l : Nat)
def Ex.up : Ex → Exit
  | .nrm => .normal
  | .ex id => .exit id
  | .rt => .ret
  | .go l => .goto l

section
variable {P : Program} {B : Nat} {kn : Kn} {okf : FuncId → Bool} {bz : BZ} {call : Call}

theorem Ex.up_then {x : Ex} (hx : x ≠ .nrm) {K : Act → World → Prop} {Q : Exit → Act → World → Prop} {a : Act} {w1 : World} (h : Q x.up a w1) : Exit.then K Q x.up a w1 := by
  cases x with
  | nrm => exact absurd rfl hx
  | ex id => exact h
  | rt => exact h
  | go l => exact h

theorem Post.ext {s s1 s2 : St} {ρ ρ1 : Env} {w w1 : World} {Q : Act → World → Prop} (h : Post B s ρ w s2 Q) (hE : Ext w ρ s.H s.nx w1 ρ1 s1.H s1.nx) : Post B s1 ρ1 w1 s2 Q :=
  fun ρ2 w2 hR2 hE2 hs2 => h ρ2 w2 hR2 (hE.trans hE2) hs2

end

/-! ### A function -/
def res1 (P : Program) (s : St) : ResultVar → Option Value
  | .tmp i => some (s.t.get i)
  | .cell a T => match s.t.get a with
    | .pointer (some ⟨k, off, some 0⟩) => match lk s.H k with
      | some (.row cs _) => ldL P T cs off
      | some (.room cs _ _) => ldL P T cs off
      | _ => none
    | _ => none
def resL (P : Program) (s : St) : List ResultVar → Option (List Value)
  | [] => some []
  | r :: rs => match res1 P s r, resL P s rs with
    | some v, some vs => some (v :: vs)
    | _, _ => none
def res (P : Program) (g : Func) (s : St) : Option Value :=
  match resL P s g.results.toList with
  | some [v] => some v
  | some vs => some (.tuple ⟨vs⟩)
  | none => none

section
variable {P : Program} {B : Nat} {kn : Kn} {okf : FuncId → Bool} {bz : BZ} {call : Call}
theorem res1_run {w : World} {s : St} {ρ : Env} (hR : R B ρ s.H s.nx w) (hs : ScS s) {r : ResultVar} {v : Value} (h : res1 P s r = some v) :
    (Rk.resF (s.t.arr.map (conc ρ)) r).run P w = .ok (conc ρ v) w ∧ sc s.nx v := by
  cases r with
  | tmp i =>
    simp only [res1, Option.some.injEq] at h
    subst h
    refine ⟨?_, by rw [← s.t.arr_getD]; exact hs.1 i⟩
    simp only [Rk.resF, Sem.run_pure, map_getD, s.t.arr_getD]
  | cell a T =>
    simp only [res1] at h
    split at h
    · rename_i k off ha
      split at h
      · rename_i cs ty hk
        obtain ⟨g1, g2, g3, g4⟩ := hR.mem k _ hk
        refine ⟨?_, ldL_sc h g3⟩
        simp only [Rk.resF, map_getD, s.t.arr_getD, ha, conc_ptr, Sem.run_bind, asAddr, Sem.run_pure, Result.andThen_ok]
        exact run_load (arr := ⟨concL ρ cs⟩) g2 (by simpa using ldL_ok (rest := []) h ρ)
      · rename_i cs ty sz hk
        obtain ⟨g1, ⟨rest, n, g2, _⟩, g3, g4⟩ := hR.mem k _ hk
        refine ⟨?_, ldL_sc h g3⟩
        simp only [Rk.resF, map_getD, s.t.arr_getD, ha, conc_ptr, Sem.run_bind, asAddr, Sem.run_pure, Result.andThen_ok]
        exact run_load g2 (ldL_ok h ρ)
      · cases h
    · cases h
theorem resL_run {w : World} {s : St} {ρ : Env} (hR : R B ρ s.H s.nx w) (hs : ScS s) : ∀ (l : List ResultVar) {vs : List Value}, resL P s l = some vs →
    (l.mapM (Rk.resF (s.t.arr.map (conc ρ)))).run P w = .ok (concL ρ vs) w ∧ scL s.nx vs
  | [], vs, h => by simp only [resL, Option.some.injEq] at h; subst h; exact ⟨rfl, trivial⟩
  | r :: rs, vs, h => by
    simp only [resL] at h
    split at h
    · rename_i v us hv hus
      cases h
      obtain ⟨h1, h2⟩ := res1_run hR hs hv
      obtain ⟨i1, i2⟩ := resL_run hR hs rs hus
      refine ⟨?_, h2, i2⟩
      rw [List.mapM_cons, Sem.run_bind, h1]
      simp only [Result.andThen_ok, Sem.run_bind, i1, Sem.run_pure]
      rfl
    · cases h
theorem res_run {w : World} {s : St} {ρ : Env} (hR : R B ρ s.H s.nx w) (hs : ScS s) {g : Func} {v : Value} (h : res P g s = some v) :
    (results g (s.t.arr.map (conc ρ))).run P w = .ok (conc ρ v) w ∧ sc s.nx v := by
  unfold res at h
  have hmap : ∀ {vs : List Value}, resL P s g.results.toList = some vs → (g.results.mapM (Rk.resF (s.t.arr.map (conc ρ)))).run P w = .ok (concL ρ vs).toArray w := by
    intro vs hvs
    rw [Array.mapM_eq_mapM_toList, Sem.run_map]
    have e := (resL_run hR hs g.results.toList hvs).1
    rw [e]
    rfl
  rw [Rk.results_eq]
  split at h
  · rename_i u hu
    cases h
    refine ⟨?_, (resL_run hR hs _ hu).2.1⟩
    simp only [Sem.run_bind]
    rw [hmap hu]
    rfl
  · rename_i vs hne hvs
    cases h
    refine ⟨?_, (resL_run hR hs _ hvs).2⟩
    simp only [Sem.run_bind]
    rw [hmap hvs]
    simp only [Result.andThen_ok, Sem.run_pure]
    have hsz : ¬ (concL ρ vs).toArray.size = 1 := by
      intro e
      match vs, e with
      | [u], _ => exact hne u rfl
    rw [dif_neg hsz, conc_tup]
  · cases h
end
end Rm
end Go.Proofs.YtpophgfjdlkgiaaGreatDoor
