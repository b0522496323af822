/- A reckoner with memory, part 5: what is built of parts, slices, what is appended, calls. -/
import Derived.Test.YtpophgfjdlkgiaaGreatDoorRm4
namespace Go.Proofs.YtpophgfjdlkgiaaGreatDoor
namespace Rm
open Go Go.RowKit
open Rk (Orc tst tst_ok Kn run run_ok szOf isAg run_isAgg run_sizeOf)

section
variable {P : Program} {B : Nat} {kn : Kn}

/-- The cells of a part. -/
def okPart (v : Value) : Bool := (cellsV v).isSome

theorem cells_conc {v : Value} (h : okPart v = true) (ρ : Env) : (conc ρ v).cells = v.cells.map (conc ρ) := by
  obtain ⟨cs, hc⟩ := Option.isSome_iff_exists.1 h
  rw [(cellsV_ok hc).1 ρ]
  unfold cellsV at hc
  split at hc
  · cases hc
    apply Array.ext'
    simp [Value.cells, concL_map]
  · rename_i hne
    split at hc
    · cases hc
      have : v.cells = #[v] := by
        cases v with
        | agg cs => exact absurd rfl (hne cs.toList)
        | _ => rfl
      rw [this]
      apply Array.ext'
      simp [concL_map]
    · cases hc

theorem foldl_cells (ρ : Env) (off : Nat) : ∀ (l : List (Value × Nat)) (cs : Array Value),
    (l.map fun x => (conc ρ x.1, x.2)).foldl (fun cs x => cs.setIfInBounds (off + x.2) x.1) (cs.map (conc ρ)) = (l.foldl (fun cs x => cs.setIfInBounds (off + x.2) x.1) cs).map (conc ρ)
  | [], cs => rfl
  | x :: l, cs => by
    simp only [List.map_cons, List.foldl_cons]
    rw [← foldl_cells ρ off l]
    congr 1
    simp [Array.map_setIfInBounds]

theorem fill_conc (place : Nat → Option (Nat × Nat)) (ρ : Env) : ∀ (parts : List (Nat × Value)) (cells out : Array Value), (∀ p ∈ parts, okPart p.2 = true) → Instr.fill place cells parts = some out →
    Instr.fill place (cells.map (conc ρ)) (parts.map fun p => (p.1, conc ρ p.2)) = some (out.map (conc ρ))
  | [], cells, out, _, h => by simp only [Instr.fill, Option.some.injEq] at h; subst h; rfl
  | (i, v) :: r, cells, out, hp, h => by
    have hv := cells_conc (hp (i, v) (List.mem_cons_self ..)) ρ
    simp only [List.map_cons, Instr.fill] at h ⊢
    cases hpl : place i with
    | none => rw [hpl] at h; cases h
    | some x =>
      rw [hpl] at h
      obtain ⟨off, size⟩ := x
      simp only at h ⊢
      rw [hv]
      simp only [Array.size_map] at h ⊢
      by_cases hc : v.cells.size ≠ size ∨ off + v.cells.size > cells.size
      · rw [if_pos (by simpa using hc)] at h; cases h
      · have hc' : ¬ ((decide (v.cells.size ≠ size) || decide (off + v.cells.size > cells.size)) = true) := by simpa using hc
        rw [if_neg hc'] at h
        rw [if_neg hc']
        have ih := fill_conc place ρ r _ out (fun p hq => hp p (List.mem_cons_of_mem _ hq)) h
        rw [← ih]
        congr 1
        rw [← Array.foldl_toList, ← Array.foldl_toList]
        have e : ((v.cells.map (conc ρ)).zipIdx).toList = (v.cells.zipIdx.toList).map fun x => (conc ρ x.1, x.2) := by
          simp only [Array.toList_zipIdx, Array.toList_map, List.zipIdx_map]
          apply List.map_congr_left
          intro x _
          rfl
        rw [e]
        exact foldl_cells ρ off _ cells

theorem fill_sc (place : Nat → Option (Nat × Nat)) (n : Nat) : ∀ (parts : List (Nat × Value)) (cells out : Array Value), (∀ p ∈ parts, okPart p.2 = true ∧ sc n p.2) → scL n cells.toList → Instr.fill place cells parts = some out → scL n out.toList
  | [], cells, out, _, hs, h => by simp only [Instr.fill, Option.some.injEq] at h; subst h; exact hs
  | (i, v) :: r, cells, out, hp, hs, h => by
    simp only [Instr.fill] at h
    cases hpl : place i with
    | none => rw [hpl] at h; cases h
    | some x =>
      rw [hpl] at h
      obtain ⟨off, size⟩ := x
      simp only at h
      split at h
      · cases h
      · refine fill_sc place n r _ out (fun p hq => hp p (List.mem_cons_of_mem _ hq)) ?_ h
        obtain ⟨h1, h2⟩ := hp (i, v) (List.mem_cons_self ..)
        have hv : scL n v.cells.toList := by
          cases v with
          | agg cs => exact h2
          | _ => exact ⟨h2, trivial⟩
        rw [← Array.foldl_toList]
        have key : ∀ (l : List (Value × Nat)) (cs : Array Value), (∀ x ∈ l, sc n x.1) → scL n cs.toList → scL n (l.foldl (fun cs x => cs.setIfInBounds (off + x.2) x.1) cs).toList := by
          intro l
          induction l with
          | nil => intro cs _ h; exact h
          | cons x l ih =>
            intro cs hx hcs
            refine ih _ (fun y hy => hx y (List.mem_cons_of_mem _ hy)) ?_
            refine (scL_all n _).2 fun u hu => ?_
            rw [Array.toList_setIfInBounds] at hu
            rcases List.mem_or_eq_of_mem_set hu with hu | rfl
            · exact (scL_all n _).1 hcs u hu
            · exact hx x (List.mem_cons_self ..)
        refine key _ _ (fun x hx => ?_) hs
        rw [Array.toList_zipIdx] at hx
        exact (scL_all n _).1 hv x.1 (by
          have := List.mem_map_of_mem (f := Prod.fst) hx
          simpa using this)

/-- A struct, or an array, of parts. -/
def opBuild (P : Program) (T : TypeId) (parts : List (Nat × Value)) : Option Value :=
  match P.info? T with
  | some it => match it.zero with
    | some z => if (untL z.cells.toList && parts.all fun p => okPart p.2) = true then
        match P.built T parts with
        | some cells => some (.agg ⟨cells.toList⟩)
        | none => none
      else none
    | none => none
  | none => none

theorem built_conc {T : TypeId} {parts : List (Nat × Value)} {v : Value} (h : opBuild P T parts = some v) (ρ : Env) :
    ∃ cells, P.built T (parts.map fun p => (p.1, conc ρ p.2)) = some cells ∧ conc ρ v = .agg cells ∧ ∀ n, (∀ p ∈ parts, sc n p.2) → sc n v := by
  unfold opBuild at h
  split at h
  · rename_i it hi
    split at h
    · rename_i z hz
      split at h
      · rename_i hc
        simp only [Bool.and_eq_true] at hc
        obtain ⟨hu, hp⟩ := hc
        split at h
        · rename_i cells hb
          cases h
          have hzm : z.cells.map (conc ρ) = z.cells := by
            apply Array.ext'
            rw [Array.toList_map, ← concL_map, concL_unt ρ _ hu]
          have hpp : ∀ p ∈ parts, okPart p.2 = true := fun p hq => List.all_eq_true.1 hp p hq
          refine ⟨cells.map (conc ρ), ?_, ?_, fun n hn => ?_⟩
          · unfold Program.built at hb ⊢
            rw [hi] at hb ⊢
            split at hb
            · rename_i it' len e e1 e2
              cases e1
              rw [hz] at hb
              simp only [hz] at hb ⊢
              split at hb
              · rename_i z' ie hz' hie
                cases hz'
                have := fill_conc _ ρ parts _ cells hpp hb
                rwa [hzm] at this
              · cases hb
            · rename_i it' fs e1 e2
              cases e1
              rw [hz] at hb
              simp only [hz] at hb ⊢
              split at hb
              · rename_i z' places hz' hpl
                cases hz'
                have := fill_conc _ ρ parts _ cells hpp hb
                rwa [hzm] at this
              · cases hb
            · cases hb
          · rw [conc_agg]
            congr 1
            apply Array.ext'
            rw [concL_map, Array.toList_map]
          · have hps : ∀ p ∈ parts, okPart p.2 = true ∧ sc n p.2 := fun p hq => ⟨hpp p hq, hn p hq⟩
            show scL n cells.toList
            unfold Program.built at hb
            rw [hi] at hb
            split at hb
            · rename_i it' len e e1 e2
              cases e1
              simp only [hz] at hb
              split at hb
              · rename_i z' ie hz' hie
                cases hz'
                exact fill_sc _ n parts _ cells hps (scL_unt n _ hu) hb
              · cases hb
            · rename_i it' fs e1 e2
              cases e1
              simp only [hz] at hb
              split at hb
              · rename_i z' places hz' hpl
                cases hz'
                exact fill_sc _ n parts _ cells hps (scL_unt n _ hu) hb
              · cases hb
            · cases hb
        · cases h
      · cases h
    · cases h
  · cases h

theorem parts_map {ev e : Operand → Value} {ρ : Env} (parts : Array (Nat × Operand)) (h : ∀ x ∈ parts.toList.map (·.2), ev x = conc ρ (e x)) :
    (parts.map fun (i, x) => (i, ev x)).toList = (parts.toList.map fun p => (p.1, e p.2)).map fun p => (p.1, conc ρ p.2) := by
  rw [Array.toList_map, List.map_map]
  refine List.map_congr_left fun p hp => ?_
  simp only [Function.comp]
  rw [h p.2 (List.mem_map_of_mem hp)]

theorem opBuild_ok {T : TypeId} {parts : Array (Nat × Operand)} {o : Oper} {e : Operand → Value} {q : Orc} {ob : Prop} {v : Value} (ho : o.op = .build T parts) (h : opBuild P T (parts.toList.map fun p => (p.1, e p.2)) = some v) : POk P B kn o e ob ⟨v, q, ob⟩ := by
  have hops : ∀ x, x ∈ parts.toList.map (·.2) → x ∈ o.op.operands.toList := fun x hx => by rw [ho]; simpa [Op.operands] using hx
  refine POk.of (fun n hn => ?_) (fun ρ w ev hev => ?_)
  · obtain ⟨_, _, _, h3⟩ := built_conc h (fun _ => ⟨0, 0, undef⟩)
    refine h3 n fun p hp => ?_
    obtain ⟨x, hx, rfl⟩ := List.mem_map.1 hp
    exact hn _ (hops _ (List.mem_map_of_mem hx))
  · obtain ⟨cells, h1, h2, _⟩ := built_conc h ρ
    rw [execOp, ho, h2]
    have := run_build (P := P) w T (parts.map fun (i, x) => (i, ev x)) cells (by rw [parts_map parts (fun x hx => hev x (hops x hx))]; exact h1)
    simp only [Sem.run_bind, this, Result.andThen_ok, Sem.run_pure]
end

/-- A slice literal. -/
def opBS (P : Program) (S : TypeId) (len : Nat) (parts : List (Nat × Value)) (H : Heap) (nx : Nat) (q : Orc) (ob : Prop) : Option Res :=
  match P.underlying S with
  | some (.slice el) => match P.info? el with
    | some ie => match ie.zero with
      | some z => if (decide (len * ie.size ≤ 16777216) && !(Nat.beq (len * ie.size) 0) && untL z.cells.toList && parts.all fun p => okPart p.2) = true then
          match Instr.fill (fun i => some (i * ie.size, ie.size)) ((Array.range (len * ie.size)).map (z.cells[· % z.cells.size]!)) parts with
          | some cells => some ⟨.slice (some ⟨nx, 0, some 0⟩) len len, (nx, .row cells.toList el) :: H, nx + 1, nx, nx, q, ob⟩
          | none => none
        else none
      | none => none
    | none => none
  | _ => none

/-- Bounds of a slice expression: plain numbers. -/
def bnd2 (e : Operand → Value) (x : Option Operand) (dflt y : Nat) : Option Nat :=
  match x with
  | none => some dflt
  | some z => match e z with
    | .int _ n => if 0 ≤ n ∧ n ≤ y then some n.toNat else none
    | _ => none

/-- How much of a slice's room is known to be there. -/
def roomOf (H : Heap) (v : Value) : Option (Nat × Nat × Nat × Nat) :=
  match v with
  | .slice (some ⟨k, off, some 0⟩) n c => some (k, off, n, c)
  | .slice (some ⟨k, off, some 1⟩) n c => match lk H k with
    | some (.room cs _ sz) => if (n + c) * sz ≤ cs.length ∧ 0 < sz then some (k, off, n, n) else none
    | _ => none
  | _ => none

def opSl (P : Program) (S : TypeId) (v : Value) (lo hi mx : Option Operand) (e : Operand → Value) (H : Heap) (nx : Nat) (q : Orc) (ob : Prop) : Option Res :=
  match P.underlying S, v, mx with
  | some (.slice el), .slice (some ⟨k, off, some 0⟩) n c, mx => match szOf P el, bnd2 e mx c c with
    | some sz, some m => match bnd2 e hi n m with
      | some h => match bnd2 e lo 0 h with
        | some l => if (mx.isNone || hi.isSome) = true then some ⟨.slice (some ⟨k, if m = l then off else off + l * sz, some 0⟩) (h - l) (m - l), H, nx, nx, nx, q, ob⟩ else none
        | none => none
      | none => none
    | _, _ => none
  | some (.slice el), .slice (some ⟨k, off, some 1⟩) n c, some mo => match lk H k, szOf P el with
    | some (.room cs _ sz), some sz' => if (n + c) * sz ≤ cs.length ∧ 0 < sz then
        match bnd2 e (some mo) 0 n with
        | some m => match bnd2 e hi n m with
          | some h => match bnd2 e lo 0 h with
            | some l => if hi.isSome = true then some ⟨.slice (some ⟨k, if m = l then off else off + l * sz', some 0⟩) (h - l) (m - l), H, nx, nx, nx, q, ob⟩ else none
            | none => none
          | none => none
        | none => none
      else none
    | _, _ => none
  | _, _, _ => none

section
variable {P : Program} {B : Nat} {kn : Kn}
theorem opBS_ok {S : TypeId} {len : Nat} {parts : Array (Nat × Operand)} {o : Oper} {e : Operand → Value} {H : Heap} {nx : Nat} {q : Orc} {ob : Prop} {r : Res} (ho : o.op = .buildSlice S len parts)
    (h : opBS P S len (parts.toList.map fun p => (p.1, e p.2)) H nx q ob = some r) : MOk P B kn o e H nx ob r := by
  have hops : ∀ x, x ∈ parts.toList.map (·.2) → x ∈ o.op.operands.toList := fun x hx => by rw [ho]; simpa [Op.operands] using hx
  unfold opBS at h
  split at h
  · rename_i el hu
    split at h
    · rename_i ie hi
      split at h
      · rename_i z hz
        split at h
        · rename_i hc
          simp only [Bool.and_eq_true, decide_eq_true_eq, Bool.not_eq_true'] at hc
          obtain ⟨⟨⟨h1, h2⟩, h3⟩, h4⟩ := hc
          split at h
          · rename_i cells hf
            cases h
            have hpp : ∀ p ∈ parts.toList.map (fun p => (p.1, e p.2)), okPart p.2 = true := fun p hq => List.all_eq_true.1 h4 p hq
            have hzz : ∀ v ∈ ((Array.range (len * ie.size)).map (z.cells[· % z.cells.size]!)).toList, unt v = true := fun v hv => by
              simp only [Array.toList_map, List.mem_map] at hv
              obtain ⟨j, _, rfl⟩ := hv
              by_cases hj : j % z.cells.size < z.cells.size
              · rw [getElem!_pos z.cells _ hj]
                exact (untL_all _).1 h3 _ (by simp)
              · rw [getElem!_neg z.cells _ hj]; rfl
            have hz0 : ¬ len * ie.size = 0 := fun q => by rw [q] at h2; cases h2
            refine ⟨id, Low.fresh rfl, fun _ ρ w hR _ hsc a ha K Q hK => ?_⟩
            have hzm : ((Array.range (len * ie.size)).map (z.cells[· % z.cells.size]!)).map (conc ρ) = (Array.range (len * ie.size)).map (z.cells[· % z.cells.size]!) := by
              apply Array.ext'
              rw [Array.toList_map]
              have := List.map_congr_left (f := conc ρ) (g := id) (l := ((Array.range (len * ie.size)).map (z.cells[· % z.cells.size]!)).toList) (fun v hv => conc_unt ρ v (hzz v hv))
              simpa using this
            have hf2 := fill_conc _ ρ _ _ cells hpp hf
            rw [hzm] at hf2
            have hrun := run_buildSlice (P := P) w S el len (parts.map fun (i, x) => (i, a.eval x)) (cells.map (conc ρ)) ie z hu hi hz (by omega) hz0 (by rw [parts_map parts (fun x hx => ha x (hops x hx))]; exact hf2)
            have hcs : scL nx cells.toList := fill_sc _ nx _ _ cells (fun p hp => ⟨hpp p hp, by
              obtain ⟨x, hx, rfl⟩ := List.mem_map.1 hp
              exact hsc _ (hops _ (List.mem_map_of_mem hx))⟩) (scL_unt nx _ ((untL_all _).2 hzz)) hf
            have hex : (execOp a.eval o).run P w = .ok (.value (.slice (some ⟨w.heap.size, 0, none⟩) len len)) (w.alloc (.cells (cells.map (conc ρ)) el)) := by
              rw [execOp, ho]
              simp only [Sem.run_bind, hrun, Result.andThen_ok, Sem.run_pure]
            obtain ⟨hR2, hE2⟩ := hR.fresh (w' := w.alloc (.cells (cells.map (conc ρ)) el)) (b := .row cells.toList el) (e := ⟨w.heap.size, 0, undef⟩) (fun _ => rfl) (by
                show (w.alloc _).heap[w.heap.size]? = some (.cells ⟨concL _ cells.toList⟩ el (0, 0))
                rw [heap_alloc_new, ← concL_same (bind_same ρ nx ⟨w.heap.size, 0, undef⟩) _ hcs]
                congr 2
                apply Array.ext'
                rw [Array.toList_map, concL_map]) (scL_mono (Nat.le_succ _) _ hcs) (fun x hx => heap_alloc_old w _ x hx) (by simp) rfl rfl rfl
            refine Rk.wp_value hex ?_
            have := hK _ _ hR2 hE2 (Nat.lt_succ_self nx)
            rw [conc_slc, bind_at] at this
            exact this
          · cases h
        · cases h
      · cases h
    · cases h
  · cases h

/-- A slice without elements. -/
def opBS0 (P : Program) (S : TypeId) (H : Heap) (nx : Nat) (q : Orc) (ob : Prop) : Option Res :=
  match P.underlying S with
  | some (.slice el) => match szOf P el with
    | some _ => some ⟨.slice (some ⟨nx, 0, some 0⟩) 0 0, (nx, .row [] el) :: H, nx + 1, nx, nx, q, ob⟩
    | none => none
  | _ => none
theorem opBS0_ok {S : TypeId} {parts : Array (Nat × Operand)} {o : Oper} {e : Operand → Value} {H : Heap} {nx : Nat} {q : Orc} {ob : Prop} {r : Res} (ho : o.op = .buildSlice S 0 parts) (hp : parts.size = 0)
    (h : opBS0 P S H nx q ob = some r) : MOk P B kn o e H nx ob r := by
  obtain rfl : parts = #[] := Array.eq_empty_of_size_eq_zero hp
  unfold opBS0 at h
  split at h
  · rename_i el hu
    split at h
    · rename_i m hs
      cases h
      refine ⟨id, Low.fresh rfl, fun _ ρ w hR _ hsc a ha K Q hK => ?_⟩
      have hex : (execOp a.eval o).run P w = .ok (.value (.slice (some ⟨w.heap.size, 0, none⟩) 0 0)) (w.alloc (.cells #[] el)) := by
        rw [execOp, ho]
        simp [Instr.buildSlice, Sem.run_bind, underlying, run_program, hu, run_sizeOf hs, Instr.fill, newRow]
        have e0 : Array.range 0 = #[] := Array.eq_empty_of_size_eq_zero (by simp)
        rw [e0, Array.map_empty]
      obtain ⟨hR2, hE2⟩ := hR.fresh (w' := w.alloc (.cells #[] el)) (b := .row [] el) (e := ⟨w.heap.size, 0, undef⟩) (fun _ => rfl) (by
          show (w.alloc _).heap[w.heap.size]? = some (.cells ⟨concL _ []⟩ el (0, 0))
          rw [heap_alloc_new]; rfl) trivial (fun x hx => heap_alloc_old w _ x hx) (by simp) rfl rfl rfl
      refine Rk.wp_value hex ?_
      have := hK _ _ hR2 hE2 (Nat.lt_succ_self nx)
      rw [conc_slc, bind_at] at this
      exact this
    · cases h
  · cases h

theorem bnd2_ok {e : Operand → Value} {x : Option Operand} {dflt y r : Nat} (h : bnd2 e x dflt y = some r) : (x = none ∧ r = dflt) ∨ (∃ z k n, x = some z ∧ e z = .int k n ∧ 0 ≤ n ∧ n ≤ y ∧ r = n.toNat) := by
  unfold bnd2 at h
  split at h
  · cases h; exact .inl ⟨rfl, rfl⟩
  · rename_i z
    split at h
    · rename_i k n hz
      split at h
      · rename_i hn
        cases h
        exact .inr ⟨z, k, n, rfl, hz, hn.1, hn.2, rfl⟩
      · cases h
    · cases h
theorem run_bnd {e ev : Operand → Value} {ρ : Env} {x : Option Operand} {dflt y y' r : Nat} (h : bnd2 e x dflt y = some r) (hy : y ≤ y') (hev : ∀ z, x = some z → ev z = conc ρ (e z)) (code : BoundsCode) (w : World) :
    (match x.map ev with
      | some v => Instr.sliceBound v y' code
      | none => pure dflt).run P w = .ok r w := by
  rcases bnd2_ok h with ⟨rfl, rfl⟩ | ⟨z, k, n, rfl, hz, h0, h1, rfl⟩
  · rfl
  · simp only [Option.map_some]
    rw [hev z rfl, hz]
    exact Rk.run_sliceBound_ok h0 (by omega) w

theorem run_slice_own {S el : TypeId} {sz : Nat} (hu : P.underlying S = some (.slice el)) (hs : szOf P el = some sz) {b off n c l h m : Nat} {vl vh vm : Option Value} {w : World}
    (hm : (match vm with | some v => Instr.sliceBound v c .slice3Acap | none => pure c).run P w = .ok m w)
    (hh : (match vh, vm with | some v, some _ => Instr.sliceBound v m .slice3B | some v, none => Instr.sliceBound v m .sliceAcap | none, none => pure n | none, some _ => stuck "Slice: max without high").run P w = .ok h w)
    (hl : (match vl with | some v => Instr.sliceBound v h (if vm.isSome then .slice3C else .sliceB) | none => pure 0).run P w = .ok l w) :
    (Instr.slice S (.slice (some ⟨b, off, none⟩) n c) vl vh vm).run P w = .ok (.slice (some ⟨b, if m = l then off else off + l * sz, none⟩) (h - l) (m - l)) w := by
  have hb : (Instr.sliceBounds true n c vl vh vm).run P w = .ok (l, h, m) w := by
    cases vm <;> cases vh <;> cases vl <;> simp_all [Instr.sliceBounds, Sem.run_bind]
  simp only [Instr.slice, Sem.run_bind, underlying, run_program, Result.andThen_ok, hu, Sem.run_pure, hb, run_sizeOf hs]
  split <;> simp [Rk.addr_add]
end
end Rm
end Go.Proofs.YtpophgfjdlkgiaaGreatDoor
