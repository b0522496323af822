/- A reckoner with memory: an iterator's call; what is made ready for a range over a function. -/
import Derived.Test.YtpophgfjdlkgiaaGreatDoorRmN
import Derived.RangeFuncLeaves
namespace Go.Proofs.YtpophgfjdlkgiaaGreatDoor
namespace Rm
open Go Go.RowKit
open Rk (Orc Kn)

def itr (P : Program) (okf : FuncId → Bool) (kn : Kn) (bz : BZ) (call : Call) (g : Rng) (ky m : Nat) (f : FuncId) (args : List Value) (H : Heap) (nx : Nat) (q : Orc) (ob : Prop) : Option St :=
  match P.funcs[f]? with
  | none => none
  | some gf => match gf.body with
    | none => none
    | some c => match codeY P okf kn bz call g ky m c ⟨Rk.enterF ⟨args⟩ (gf.ntmps - args.length), [], H, nx, nx, nx, q, ob⟩ with
      | some (x, s) => match x with
        | .ex _ => none
        | .go _ => none
        | _ => match s.ds with
          | _ :: _ => none
          | [] => match res P gf s with
            | some _ => some s
            | none => none
      | none => none

theorem enter_map (ρ : Env) (args : List Value) (k : Nat) : (Rk.enterF ⟨args⟩ k).arr.map (conc ρ) = (⟨concL ρ args⟩ : Array Value) ++ Array.replicate k undef := by
  rw [Rk.enterF_arr, Array.map_append]
  congr 1
  · simp [concL_map]
  · rw [Array.map_replicate]; rfl
theorem enter_sc {nx : Nat} {args : List Value} (h : scL nx args) (k : Nat) : ∀ i, sc nx ((Rk.enterF ⟨args⟩ k).arr.getD i undef) := by
  intro i
  rw [Rk.enterF_arr]
  by_cases h1 : i < args.length
  · have e : ((⟨args⟩ : Array Value) ++ Array.replicate k undef).getD i undef = args[i] := by
      simp [Array.getD, h1]
      omega
    rw [e]
    exact (scL_all nx _).1 h _ (by simp)
  · have e : ((⟨args⟩ : Array Value) ++ Array.replicate k undef).getD i undef = undef := by
      by_cases h2 : i < args.length + k
      · simp [Array.getD, Array.getElem_append, h1, h2]
      · simp [Array.getD, h2]
    rw [e]
    show sc nx (.tuple ⟨[]⟩)
    trivial

section
variable {P : Program} {B : Nat} {kn : Kn} {okf : FuncId → Bool} {bz : BZ} {call : Call}
theorem itr_ok {n n0 : Nat} (hbz : BZOk P bz) (hg : Good P B kn call) (hf : Rk.OkF P okf) {g : Rng} {ky m : Nat} {f : FuncId} {args : List Value} {H : Heap} {nx : Nat} {q : Orc} {ob : Prop} {s : St} (h : itr P okf kn bz call g ky m f args H nx q ob = some s) :
    ((s.ob → ob) ∧ nx ≤ s.nx ∧ s.lo ≤ nx ∧ ∀ k b, k < s.lo → k < nx → lk H k = some b → lk s.H k = some b) ∧
    (s.ob → ∀ ρ w, R B ρ H nx w → KnB B kn w → scL nx args → ∀ (ρ0 : Env) (fn : FuncId) (L D : Nat), YC g ρ0 fn L D ky n0 ρ w nx →
      CallsIn Fence.wide n P f ⟨concL ρ args⟩ w fun e w' => ∃ ρ' v, e = .returned v ∧ R B ρ' s.H s.nx w' ∧ Ext w ρ H nx w' ρ' s.H s.nx ∧ YC g ρ0 fn L D ky n0 ρ' w' s.nx) := by
  unfold itr at h
  split at h
  · cases h
  · rename_i gf hfn
    split at h
    · cases h
    · rename_i c hb
      split at h
      · rename_i x s1 hc
        obtain ⟨a1, a2⟩ := (codeY_all (B := B) (rn := n) (n0 := n0) hbz hg hf m).1 c _ s1 x hc
        have key : ∀ {u : Value}, (x = .nrm ∨ x = .rt) → s1.ds = [] → res P gf s1 = some u → ((s1.ob → ob) ∧ nx ≤ s1.nx ∧ s1.lo ≤ nx ∧ ∀ k b, k < s1.lo → k < nx → lk H k = some b → lk s1.H k = some b) ∧
            (s1.ob → ∀ ρ w, R B ρ H nx w → KnB B kn w → scL nx args → ∀ (ρ0 : Env) (fn : FuncId) (L D : Nat), YC g ρ0 fn L D ky n0 ρ w nx →
            CallsIn Fence.wide n P f ⟨concL ρ args⟩ w fun e w' => ∃ ρ' v, e = .returned v ∧ R B ρ' s1.H s1.nx w' ∧ Ext w ρ H nx w' ρ' s1.H s1.nx ∧ YC g ρ0 fn L D ky n0 ρ' w' s1.nx) := by
          intro u hx hds hu
          refine ⟨⟨a1.ob, a1.nx, a1.lo, a1.low⟩, fun hob ρ w hR hk hs ρ0 fn L D hY => callsIn_of_wp hfn hb trivial ?_⟩
          have e : (⟨concL ρ args⟩ : Array Value).size = args.length := by simp [concL_map]
          rw [e]
          have e2 : act ρ ⟨Rk.enterF ⟨args⟩ (gf.ntmps - args.length), [], H, nx, nx, nx, q, ob⟩ = { tmps := (⟨concL ρ args⟩ : Array Value) ++ Array.replicate (gf.ntmps - args.length) undef, defers := [] } := by
            simp only [act, enter_map]; rfl
          rw [← e2]
          refine a2 hob ρ w hR hk ⟨enter_sc hs _, fun d hd => by cases hd⟩ ρ0 fn L D hY _ fun ρ1 w1 hR1 hE1 hs1 => ?_
          have hr := res_run hR1 hs1 hu
          have hd : (act ρ1 s1).defers = [] := by
            show s1.ds.map (concD ρ1) = []
            rw [hds]; rfl
          have hpost : (act ρ1 s1).defers = [] ∧ ∃ v, (results gf (act ρ1 s1).tmps).run P w1 = .ok v w1 ∧ ∃ ρ' v', Ending.returned v = .returned v' ∧ R B ρ' s1.H s1.nx w1 ∧ Ext w ρ H nx w1 ρ' s1.H s1.nx ∧ YC g ρ0 fn L D ky n0 ρ' w1 s1.nx :=
            ⟨hd, _, hr.1, ρ1, _, rfl, hR1, hE1, hY.ext hR hE1⟩
          rcases hx with rfl | rfl
          · exact hpost
          · exact hpost
        cases x with
        | ex i => cases h
        | go l => cases h
        | nrm =>
          simp only at h
          split at h
          · cases h
          · rename_i hds
            split at h
            · rename_i u hu
              cases h
              exact key (.inl rfl) hds hu
            · cases h
        | rt =>
          simp only at h
          split at h
          · cases h
          · rename_i hds
            split at h
            · rename_i u hu
              cases h
              exact key (.inr rfl) hds hu
            · cases h
      · cases h

/-! ### What is made ready -/
theorem R.env {ρ ρ' : Env} {H : Heap} {nx nx' : Nat} {w : World} (h : R B ρ H nx w) (hs : Same nx ρ ρ') (hn : nx ≤ nx') : R B ρ' H nx' w :=
  ⟨h.base, fun k b hk => by
    obtain ⟨g1, g2, g3, g4⟩ := h.mem k b hk
    exact ⟨by omega, by rw [← hs k g1]; exact g2.same hs g3, b.sc_mono hn g3, by rw [← hs k g1]; exact g4⟩,
   fun k k' b b' hk hk' hm hm' e => h.inj k k' b b' hk hk' hm hm' (by rw [hs k (h.mem k b hk).1, hs k' (h.mem k' b' hk').1]; exact e)⟩
theorem Ext.env0 {ρ ρ' : Env} {H : Heap} {nx nx' : Nat} {w : World} (h : R B ρ H nx w) (hs : Same nx ρ ρ') (hn : nx ≤ nx') : Ext w ρ H nx w ρ' H nx' :=
  ⟨hs, hn, fun k b hk hm => .inr ⟨k, b, hk, hm, by rw [hs k (h.mem k b hk).1]⟩, fun _ _ _ => rfl, Nat.le_refl _, rfl, rfl, rfl⟩
end

/-- yield's value in the environment. -/
def yv (k : Nat) : Value := .pointer (some ⟨k, 0, some 2⟩)
def envY (ρ : Env) (nx z : Nat) : Env := bind (bind ρ nx ⟨0, 0, .func (.yield (z + 1)) #[] #[]⟩) (nx + 1) ⟨z, 0, undef⟩
/-- The world with the two blocks. -/
def wY (w : World) (r : Loop) : World := (w.alloc (.deferred (some []))).alloc (.loop r)

section
variable {B : Nat} {ρ : Env} {H : Heap} {nx : Nat} {w : World} {r : Loop}
theorem wY_old {x : Nat} (h : x < w.heap.size) : (wY w r).heap[x]? = w.heap[x]? := by
  show ((w.heap.push _).push _)[x]? = _
  rw [Array.getElem?_push, Array.getElem?_push]
  have h1 : ¬ x = w.heap.size := by omega
  have h2 : ¬ x = w.heap.size + 1 := by omega
  simp [h1, h2]
theorem wY_size : (wY w r).heap.size = w.heap.size + 2 := by
  show ((w.heap.push _).push _).size = _
  simp
theorem wY_dfr : (wY w r).heap[w.heap.size]? = some (.deferred (some [])) := by
  show ((w.heap.push _).push _)[w.heap.size]? = _
  rw [Array.getElem?_push, Array.getElem?_push]
  simp
theorem wY_loop : (wY w r).heap[w.heap.size + 1]? = some (.loop r) := by
  show ((w.heap.push _).push _)[w.heap.size + 1]? = _
  rw [Array.getElem?_push]
  simp
theorem envY_y (z : Nat) : (envY ρ nx z nx).val = .func (.yield (z + 1)) #[] #[] := by
  simp [envY, bind]
theorem envY_d (z : Nat) : (envY ρ nx z (nx + 1)).b = z := by
  simp [envY, bind]
theorem envY_same (z : Nat) : Same nx ρ (envY ρ nx z) := fun k hk => by
  simp only [envY, bind]
  rw [if_neg (by omega), if_neg (by omega)]
theorem readyY (hR : R B ρ H nx w) : R B (envY ρ nx w.heap.size) ((nx + 1, .dfr) :: H) (nx + 2) (wY w r) ∧ Ext w ρ H nx (wY w r) (envY ρ nx w.heap.size) ((nx + 1, .dfr) :: H) (nx + 2) := by
  have hs := bind_same ρ nx ⟨0, 0, .func (.yield (w.heap.size + 1)) #[] #[]⟩
  have h1 := hR.env hs (Nat.le_succ nx)
  have e1 := Ext.env0 hR hs (Nat.le_succ nx)
  obtain ⟨h2, e2⟩ := h1.fresh (w' := wY w r) (b := .dfr) (e := ⟨w.heap.size, 0, undef⟩) (fun _ => rfl) wY_dfr trivial (fun x hx => wY_old hx) (by rw [wY_size]; omega) rfl rfl rfl
  exact ⟨h2, e1.trans e2⟩
end
end Rm
end Go.Proofs.YtpophgfjdlkgiaaGreatDoor
