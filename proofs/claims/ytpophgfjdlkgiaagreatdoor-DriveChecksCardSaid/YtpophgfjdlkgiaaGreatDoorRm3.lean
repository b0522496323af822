/- A reckoner with memory, part 3: operations that look at memory, write it, make it. -/
import Derived.Test.YtpophgfjdlkgiaaGreatDoorRm2
import Derived.Laws.Append
import Derived.Great.BuildSlice
namespace Go.Proofs.YtpophgfjdlkgiaaGreatDoor
namespace Rm
open Go Go.RowKit
open Rk (Orc tst tst_ok Kn run run_ok szOf isAg run_isAgg run_sizeOf)

structure Res where
  v : Value
  H : Heap
  nx : Nat
  lo : Nat
  le : Nat
  q : Orc
  ob : Prop

/-- What a call answers. -/
def Ans (B : Nat) (ρ : Env) (H : Heap) (nx : Nat) (w : World) (r : Res) (e : Ending) (w' : World) : Prop :=
  ∃ ρ', e = .returned (conc ρ' r.v) ∧ sc r.nx r.v ∧ R B ρ' r.H r.nx w' ∧ Ext w ρ H nx w' ρ' r.H r.nx
abbrev Call := FuncId → List Value → Heap → Nat → Orc → Prop → Option Res
/-- What lies below lo is as it was. -/
def Low (H : Heap) (nx : Nat) (r : Res) : Prop := ∀ k b, k < r.lo → k < nx → lk H k = some b → lk r.H k = some b
def Good (P : Program) (B : Nat) (kn : Kn) (call : Call) : Prop :=
  ∀ f args H nx q ob r, call f args H nx q ob = some r → (r.ob → ob) ∧ Low H nx r ∧ (r.ob → ∀ ρ w, R B ρ H nx w → KnB B kn w → scL nx args → Calls P f ⟨concL ρ args⟩ w (Ans B ρ H nx w r))

def MOk (P : Program) (B : Nat) (kn : Kn) (o : Oper) (e : Operand → Value) (H : Heap) (nx : Nat) (ob : Prop) (r : Res) : Prop :=
  (r.ob → ob) ∧ Low H nx r ∧
  (r.ob → ∀ (ρ : Env) (w : World), R B ρ H nx w → KnB B kn w → (∀ x ∈ o.op.operands.toList, sc nx (e x)) → ∀ a : Act, (∀ x ∈ o.op.operands.toList, a.eval x = conc ρ (e x)) →
    ∀ (K : Act → World → Prop) (Q : Exit → Act → World → Prop), (∀ ρ' w', R B ρ' r.H r.nx w' → Ext w ρ H nx w' ρ' r.H r.nx → sc r.nx r.v → K (a.put o.dst (conc ρ' r.v)) w') → o.wp P a w K Q)

def oneT : Value → Bool
  | .pointer (some ⟨_, _, some t⟩) => !(Nat.beq t 2)
  | .agg _ => false
  | .tuple _ => false
  | _ => true
def cellsV : Value → Option (List Value)
  | .agg ⟨cs⟩ => some cs
  | v => if oneT v = true then some [v] else none

theorem oneT_ok {v : Value} (h : oneT v = true) (ρ : Env) : (conc ρ v).oneCell' = true ∧ (conc ρ v).cells = #[conc ρ v] := by
  unfold oneT at h
  split at h
  · rename_i k o t
    have ht : t ≠ 2 := fun e => by subst e; cases h
    have e : conc ρ (.pointer (some ⟨k, o, some t⟩)) = .pointer (some ⟨(ρ k).b, o, none⟩) := by simp [conc, cP, ht]
    rw [e]; exact ⟨rfl, rfl⟩
  · cases h
  · cases h
  · rename_i h1 h2 h3
    cases v with
    | agg cs => exact absurd rfl (h2 cs)
    | tuple cs => exact absurd rfl (h3 cs)
    | pointer a =>
      rcases a with _ | ⟨k, o, _ | t⟩
      · exact ⟨rfl, rfl⟩
      · exact ⟨rfl, rfl⟩
      · exact absurd rfl (h1 k o t)
    | slice a n c =>
      rcases a with _ | ⟨k, o, _ | t⟩
      · exact ⟨rfl, rfl⟩
      · exact ⟨rfl, rfl⟩
      · exact ⟨rfl, rfl⟩
    | func fn xs ys => obtain ⟨xs⟩ := xs; obtain ⟨ys⟩ := ys; rw [conc_fun]; exact ⟨rfl, rfl⟩
    | iface t v => rw [conc]; exact ⟨rfl, rfl⟩
    | _ => exact ⟨rfl, rfl⟩

theorem cellsV_ok {v : Value} {cs : List Value} (h : cellsV v = some cs) : (∀ ρ, (conc ρ v).cells = ⟨concL ρ cs⟩) ∧ (∀ n, sc n v → scL n cs) := by
  unfold cellsV at h
  split at h
  · rename_i l
    cases h
    exact ⟨fun ρ => by rw [conc_agg]; rfl, fun n hs => hs⟩
  · split at h
    · rename_i h1
      cases h
      exact ⟨fun ρ => by rw [(oneT_ok h1 ρ).2]; rfl, fun n hs => ⟨hs, trivial⟩⟩
    · cases h

def ldL (P : Program) (T : TypeId) (cs : List Value) (off : Nat) : Option Value :=
  match isAg P T, szOf P T with
  | some true, some n => if ((cs.drop off).take n).length = n then some (.agg ⟨(cs.drop off).take n⟩) else none
  | some false, some _ => cs[off]?
  | _, _ => none

section
variable {P : Program} {B : Nat} {kn : Kn}

theorem cell_at {w : World} {b : Nat} {arr : Array Value} {ty : TypeId} (hb : w.heap[b]? = some (.cells arr ty (0, 0))) (j : Nat) : w.cell? ⟨b, j, none⟩ = arr[j]? := cell_of_row w b j _ _ _ hb

theorem run_load {T : TypeId} {arr : Array Value} {off b : Nat} {ty : TypeId} {w : World} (hb : w.heap[b]? = some (.cells arr ty (0, 0))) {v : Value}
    (h : (isAg P T = some true ∧ ∃ n cs, szOf P T = some n ∧ cs.length = n ∧ (∀ j u, cs[j]? = some u → arr[off + j]? = some u) ∧ v = .agg ⟨cs⟩) ∨ (isAg P T = some false ∧ arr[off]? = some v)) :
    (loadVar T ⟨b, off, none⟩).run P w = .ok v w := by
  rcases h with ⟨ha, n, cs, hs, hl, hc, rfl⟩ | ⟨ha, hv⟩
  · have hld : (loadCells ⟨b, off, none⟩ n).run P w = .ok cs.toArray w := by
      have := run_loadCells_list (P := P) w ⟨b, off, none⟩ cs (fun j v hv => by rw [Rk.addr_add, cell_at hb]; exact hc j v hv)
      rwa [hl] at this
    simp only [loadVar, Sem.run_bind, run_isAgg ha, Result.andThen_ok, if_true, run_sizeOf hs, hld]
    rfl
  · simp only [loadVar, Sem.run_bind, run_isAgg ha, Result.andThen_ok, Bool.false_eq_true, if_false]
    have hc : w.cell? ⟨b, off, none⟩ = some v := by rw [cell_at hb]; exact hv
    simp [hc]

theorem ldL_ok {T : TypeId} {cs rest : List Value} {off : Nat} {v : Value} (h : ldL P T cs off = some v) (ρ : Env) :
    (isAg P T = some true ∧ ∃ n us, szOf P T = some n ∧ us.length = n ∧ (∀ j u, us[j]? = some u → (⟨concL ρ cs ++ rest⟩ : Array Value)[off + j]? = some u) ∧ conc ρ v = .agg ⟨us⟩) ∨ (isAg P T = some false ∧ (⟨concL ρ cs ++ rest⟩ : Array Value)[off]? = some (conc ρ v)) := by
  unfold ldL at h
  split at h
  · rename_i n ha hs
    split at h
    · rename_i hl
      cases h
      refine .inl ⟨ha, n, concL ρ ((cs.drop off).take n), hs, by rw [concL_map, List.length_map]; exact hl, fun j u hu => ?_, conc_agg ρ _⟩
      rw [concL_map, List.getElem?_map] at hu
      cases hj : ((cs.drop off).take n)[j]? with
      | none => rw [hj] at hu; cases hu
      | some x =>
        rw [hj] at hu
        cases hu
        rw [List.getElem?_take] at hj
        split at hj
        · rw [List.getElem?_drop] at hj
          have hlt : off + j < cs.length := (List.getElem?_eq_some_iff.1 hj).1
          simp only [List.getElem?_toArray]
          rw [List.getElem?_append_left (by rw [concL_map]; simpa using hlt), concL_map, List.getElem?_map, hj]
          rfl
        · cases hj
    · cases h
  · rename_i n ha hs
    refine .inr ⟨ha, ?_⟩
    have hlt : off < cs.length := (List.getElem?_eq_some_iff.1 h).1
    simp only [List.getElem?_toArray]
    rw [List.getElem?_append_left (by rw [concL_map]; simpa using hlt), concL_map, List.getElem?_map, h]
    rfl
  · cases h
theorem ldL_sc {T : TypeId} {cs : List Value} {off n : Nat} {v : Value} (h : ldL P T cs off = some v) (hs : scL n cs) : sc n v := by
  unfold ldL at h
  split at h
  · split at h
    · cases h
      exact (scL_all n _).2 fun u hu => (scL_all n _).1 hs u (List.mem_of_mem_drop (List.mem_of_mem_take hu))
    · cases h
  · exact (scL_all n _).1 hs v (List.mem_of_getElem? h)
  · cases h

theorem Low.same {H : Heap} {nx : Nat} {r : Res} (h : r.H = H) : Low H nx r := fun k b _ _ hk => by rw [h]; exact hk

/-- A value, the memory being as it was. -/
theorem MOk.val {o : Oper} {e : Operand → Value} {H : Heap} {nx : Nat} {q : Orc} {ob ob' : Prop} {v : Value} (hob : ob' → ob)
    (h : ob' → ∀ (ρ : Env) (w : World), R B ρ H nx w → KnB B kn w → (∀ x ∈ o.op.operands.toList, sc nx (e x)) → sc nx v ∧ ∀ a : Act, (∀ x ∈ o.op.operands.toList, a.eval x = conc ρ (e x)) → (execOp a.eval o).run P w = .ok (.value (conc ρ v)) w) :
    MOk P B kn o e H nx ob ⟨v, H, nx, nx, nx, q, ob'⟩ := by
  refine ⟨hob, Low.same rfl, fun x ρ w hR hk hsc a ha K Q hK => ?_⟩
  obtain ⟨h1, h2⟩ := h x ρ w hR hk hsc
  exact Rk.wp_value (h2 a ha) (hK ρ w hR (Ext.refl _ _ _ _) h1)

theorem POk.mok {o : Oper} {e : Operand → Value} {H : Heap} {nx : Nat} {ob : Prop} {r : PRes} (h : POk P B kn o e ob r) : MOk P B kn o e H nx ob ⟨r.v, H, nx, nx, nx, r.q, r.ob⟩ :=
  MOk.val h.1 fun x ρ w _ hk hsc => ⟨(h.2 x).1 nx hsc, fun a ha => (h.2 x).2 ρ w hk a.eval ha⟩
end

/-- A load. -/
def opLd (P : Program) (T : TypeId) (v : Value) (H : Heap) (nx : Nat) (q : Orc) (ob : Prop) : Option Res :=
  match v with
  | .pointer (some ⟨k, off, some 0⟩) => match lk H k with
    | some (.row cs _) => match ldL P T cs off with
      | some v => some ⟨v, H, nx, nx, nx, q, ob⟩
      | none => none
    | some (.room cs _ _) => match ldL P T cs off with
      | some v => some ⟨v, H, nx, nx, nx, q, ob⟩
      | none => none
    | some (.big n f _) => match isAg P T, szOf P T with
      | some false, some _ => if off < n then some ⟨f off, H, nx, nx, nx, q, ob⟩ else none
      | some true, some m => if off = 0 ∧ m = n ∧ 64 < m then some ⟨.pointer (some ⟨nx, 0, some 2⟩), (nx, .snap n f) :: H, nx + 1, nx, nx, q, ob⟩
        else if off + m ≤ n then some ⟨.agg ⟨(List.range m).map fun j => f (off + j)⟩, H, nx, nx, nx, q, ob⟩ else none
      | _, _ => none
    | _ => none
  | _ => none

section
variable {P : Program} {B : Nat} {kn : Kn}
theorem run_loadAt {T : TypeId} {v : Value} {b off : Nat} {w : World} (h : (loadVar T ⟨b, off, none⟩).run P w = .ok v w) : (Instr.loadAt T (.pointer (some ⟨b, off, none⟩))).run P w = .ok v w := by
  simp only [Instr.loadAt, Sem.run_bind, Instr.sureAddr, Sem.run_pure, Result.andThen_ok, h]

theorem exec_load {T : TypeId} {x : Operand} {o : Oper} (ho : o.op = .load T x) {ev : Operand → Value} {b off : Nat} (hx : ev x = .pointer (some ⟨b, off, none⟩)) {v : Value} {w : World} (h : (loadVar T ⟨b, off, none⟩).run P w = .ok v w) : (execOp ev o).run P w = .ok (.value v) w := by
  rw [execOp, ho]
  simp only [Sem.run_bind, hx, run_loadAt h, Result.andThen_ok, Sem.run_pure]

theorem opLd_ok {T : TypeId} {x : Operand} {o : Oper} {e : Operand → Value} {H : Heap} {nx : Nat} {q : Orc} {ob : Prop} {r : Res} (ho : o.op = .load T x) (h : opLd P T (e x) H nx q ob = some r) : MOk P B kn o e H nx ob r := by
  unfold opLd at h
  split at h
  · rename_i k off hx
    have hop : x ∈ o.op.operands.toList := by simp [ho, Op.operands]
    split at h
    · rename_i cs ty hk
      split at h
      · rename_i v hv
        cases h
        refine MOk.val id fun _ ρ w hR _ hsc => ?_
        obtain ⟨g1, g2, g3, g4⟩ := hR.mem k _ hk
        refine ⟨ldL_sc hv g3, fun a ha => exec_load ho (by rw [ha x hop, hx, conc_ptr]) (run_load (arr := ⟨concL ρ cs⟩) g2 ?_)⟩
        simpa using ldL_ok (rest := []) hv ρ
      · cases h
    · rename_i cs ty sz hk
      split at h
      · rename_i v hv
        cases h
        refine MOk.val id fun _ ρ w hR _ hsc => ?_
        obtain ⟨g1, ⟨rest, n, g2, _⟩, g3, g4⟩ := hR.mem k _ hk
        exact ⟨ldL_sc hv g3, fun a ha => exec_load ho (by rw [ha x hop, hx, conc_ptr]) (run_load g2 (ldL_ok hv ρ))⟩
      · cases h
    · rename_i n f ty hk
      split at h
      · rename_i s hs hz
        split at h
        · rename_i hlt
          cases h
          refine MOk.val id fun _ ρ w hR _ hsc => ?_
          obtain ⟨g1, ⟨g2, gp⟩, g3, g4⟩ := hR.mem k _ hk
          refine ⟨sc_unt _ _ (gp off).1, fun a ha => exec_load ho (by rw [ha x hop, hx, conc_ptr]) (run_load g2 (.inr ⟨hs, ?_⟩))⟩
          rw [conc_unt ρ _ (gp off).1]
          simp [hlt]
        · cases h
      · rename_i m hs hz
        split at h
        · rename_i hc
          obtain ⟨rfl, rfl, _⟩ := hc
          cases h
          refine ⟨id, fun j b _ hj hb => by rw [lk_cons, if_neg (by omega)]; exact hb, fun _ ρ w hR _ hsc a ha K Q hK => ?_⟩
          obtain ⟨g1, ⟨g2, gp⟩, g3, g4⟩ := hR.mem k _ hk
          have hrun := exec_load (P := P) (T := T) ho (ev := a.eval) (v := .agg ⟨(List.range m).map f⟩) (w := w) (by rw [ha x hop, hx, conc_ptr]) (run_load g2 (.inl ⟨hs, m, (List.range m).map f, hz, by simp, fun j u hu => by simpa using hu, rfl⟩))
          obtain ⟨hR2, hE2⟩ := hR.fresh (w' := w) (b := .snap m f) (e := ⟨0, 0, .agg ⟨(List.range m).map f⟩⟩) (fun hm => by cases hm) ⟨rfl, gp⟩ trivial (fun _ _ => rfl) (Nat.le_refl _) rfl rfl rfl
          refine Rk.wp_value hrun ?_
          have := hK _ _ hR2 hE2 (Nat.lt_succ_self nx)
          have e2 : conc (bind ρ nx ⟨0, 0, .agg ⟨(List.range m).map f⟩⟩) (.pointer (some ⟨nx, 0, some 2⟩)) = .agg ⟨(List.range m).map f⟩ := by simp [conc, cP, bind]
          rwa [e2] at this
        · split at h
          · rename_i hle
            cases h
            refine MOk.val id fun _ ρ w hR _ hsc => ?_
            obtain ⟨g1, ⟨g2, gp⟩, g3, g4⟩ := hR.mem k _ hk
            have hu : unt (.agg ⟨(List.range m).map fun j => f (off + j)⟩) = true := by
              rw [unt, untL_all]
              intro v hv
              obtain ⟨j, _, rfl⟩ := List.mem_map.1 hv
              exact (gp _).1
            refine ⟨sc_unt _ _ hu, fun a ha => ?_⟩
            rw [conc_unt ρ _ hu]
            refine exec_load ho (by rw [ha x hop, hx, conc_ptr]) (run_load g2 (.inl ⟨hs, m, _, hz, by simp, fun j u hj => ?_, rfl⟩))
            simp only [List.getElem?_map, Option.map_eq_some_iff] at hj
            obtain ⟨i, hi, rfl⟩ := hj
            have hjm : j < m := by
              have := (List.getElem?_eq_some_iff.1 hi).1
              simpa using this
            have : i = j := by
              rw [List.getElem?_range hjm] at hi
              cases hi; rfl
            subst this
            simp only [List.getElem?_toArray, List.getElem?_map]
            rw [List.getElem?_range (by omega)]
            rfl
          · cases h
      · cases h
    · cases h
  · cases h
end
end Rm
end Go.Proofs.YtpophgfjdlkgiaaGreatDoor
