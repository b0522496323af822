/- A reckoner with memory, part 15: a function's text. -/
import Derived.Test.YtpophgfjdlkgiaaGreatDoorRmE
import Derived.Defers
namespace Go.Proofs.YtpophgfjdlkgiaaGreatDoor
namespace Rm
open Go Go.RowKit
open Rk (Orc Kn)

/-- One operation, in the text's order. -/
def step1 (P : Program) (okf : FuncId → Bool) (kn : Kn) (bz : BZ) (call : Call) (o : Oper) (s : St) : Option St :=
  if o.op.operands.toList.all okc = true then
    match o.op with
    | .defer c => match c.callee with
      | .value f => match Rk.evF s.t f with
        | .func (.func g) ⟨xs⟩ ⟨ys⟩ => some ⟨Rk.putF s.t o.dst undef, Dfr.call g (xs ++ c.args.toList.map (Rk.evF s.t)) ys :: s.ds, s.H, s.nx, s.lo, s.le, s.q, s.ob⟩
        | _ => none
      | _ => none
    | _ => match opU P kn bz o (Rk.evF s.t) s.q s.ob with
      | some r => some ⟨Rk.putF s.t o.dst r.v, s.ds, s.H, s.nx, s.lo, s.le, r.q, r.ob⟩
      | none => match opW P okf kn bz call o (Rk.evF s.t) s.H s.nx s.q s.ob with
        | some r => if Nat.ble s.nx r.nx = true then some ⟨Rk.putF s.t o.dst r.v, s.ds, r.H, r.nx, mn s.lo r.lo, mn s.le r.le, r.q, r.ob⟩ else none
        | none => none
  else none
def opsL (P : Program) (okf : FuncId → Bool) (kn : Kn) (bz : BZ) (call : Call) (all : Array Oper) : List Oper → St → Option St
  | [], s => some s
  | o :: rest, s => if Region.wanted o (Rk.yieldedF all s.t) = true then
      match step1 P okf kn bz call o s with
      | some s' => opsL P okf kn bz call all rest s'
      | none => none
    else if gOk all s.t o = true then opsL P okf kn bz call all rest { s with t := Rk.putF s.t o.dst undef } else none

section
variable {P : Program} {B : Nat} {kn : Kn} {okf : FuncId → Bool} {bz : BZ} {call : Call}

theorem step1_ok (hbz : BZOk P bz) (hg : Good P B kn call) (hf : Rk.OkF P okf) {o : Oper} {s s' : St} (h : step1 P okf kn bz call o s = some s') :
    Go1 s s' ∧ (s'.ob → ∀ ρ w, R B ρ s.H s.nx w → KnB B kn w → ScS s → ∀ (K : Act → World → Prop) (Q : Exit → Act → World → Prop), Post B s ρ w s' K → o.wp P (act ρ s) w K Q) := by
  unfold step1 at h
  split at h
  · rename_i hoc
    have hoc' : ∀ x ∈ o.op.operands.toList, okc x = true := fun x hx => List.all_eq_true.1 hoc x hx
    have hev : ∀ ρ, ∀ x ∈ o.op.operands.toList, (act ρ s).eval x = conc ρ (Rk.evF s.t x) := fun ρ x hx => by
      rw [Rk.evF_eq]; exact ev_at (hoc' x hx)
    have hse : ScS s → ∀ x ∈ o.op.operands.toList, sc s.nx (Rk.evF s.t x) := fun hs x hx => by
      rw [Rk.evF_eq]; exact sc_ev hs.1 (hoc' x hx)
    split at h
    · rename_i c ho
      split at h
      · rename_i f hc
        split at h
        · rename_i g xs ys hfe
          cases h
          refine ⟨⟨id, Nat.le_refl _, Nat.le_refl _, fun _ _ _ _ h => h⟩, fun _ ρ w hR hk hs K Q hK => ?_⟩
          have hof : f ∈ o.op.operands.toList := by simp [ho, Op.operands, Call.operands, hc]
          have hoa : ∀ x ∈ c.args.toList, x ∈ o.op.operands.toList := fun x hx => by simp [ho, Op.operands, Call.operands, hc]; exact .inr (by simpa using hx)
          have hfs := hse hs f hof
          rw [hfe] at hfs
          have hargs : scL s.nx (xs ++ c.args.toList.map (Rk.evF s.t)) := scL_app hfs.1 ((scL_all s.nx _).2 fun v hv => by
            obtain ⟨y, hy, rfl⟩ := List.mem_map.1 hv
            exact hse hs y (hoa y hy))
          have hrun : (execOp (act ρ s).eval o).run P w = .ok (.defer (concD ρ (Dfr.call g (xs ++ c.args.toList.map (Rk.evF s.t)) ys))) w := by
            have e1 : (⟨concL ρ xs⟩ : Array Value) ++ c.args.map (act ρ s).eval = ⟨concL ρ (xs ++ c.args.toList.map (Rk.evF s.t))⟩ := by
              apply Array.ext'
              simp only [Array.toList_append, Array.toList_map, concL_map, List.map_append, List.map_map]
              congr 1
              exact List.map_congr_left fun y hy => hev ρ y (hoa y hy)
            rw [execOp, ho]
            simp only [resolve, hc, hev ρ f hof, hfe, conc_fun, Deferred.ofValue, Sem.run_bind, Sem.run_pure, Result.andThen_ok, e1, concD]
          unfold Oper.wp
          rw [hrun]
          show K (Act.put { act ρ s with defers := concD ρ (Dfr.call g (xs ++ c.args.toList.map (Rk.evF s.t)) ys) :: (act ρ s).defers } o.dst undef) w
          have := hK ρ w hR (Ext.refl _ _ _ _) ⟨fun i => by
            show sc s.nx ((Rk.putF s.t o.dst undef).arr.getD i undef)
            rw [Rk.putF_arr]; exact sc_put hs.1 (v := undef) (by show sc _ (.tuple ⟨[]⟩); trivial) _ i, fun d hd => by
              rcases List.mem_cons.1 hd with rfl | hd
              · exact ⟨hargs, hfs.2⟩
              · exact hs.2 d hd⟩
          have e2 : act ρ ⟨Rk.putF s.t o.dst undef, Dfr.call g (xs ++ c.args.toList.map (Rk.evF s.t)) ys :: s.ds, s.H, s.nx, s.lo, s.le, s.q, s.ob⟩ = Act.put { act ρ s with defers := concD ρ (Dfr.call g (xs ++ c.args.toList.map (Rk.evF s.t)) ys) :: (act ρ s).defers } o.dst undef := by
            simp only [act, Rk.putF_arr]
            rw [← put_map]
            cases o.dst <;> rfl
          rw [← e2]
          exact this
        · cases h
      · cases h
    · split at h
      · rename_i r hr
        cases h
        have hr' := opU_ok (B := B) hr
        refine ⟨⟨hr'.1, Nat.le_refl _, Nat.le_refl _, fun _ _ _ _ h => h⟩, fun hob ρ w hR hk hs K Q hK => ?_⟩
        refine (hr'.mok (H := s.H) (nx := s.nx)).2.2 hob ρ w hR hk (hse hs) (act ρ s) (hev ρ) K Q fun ρ' w' hR' hE' hv => ?_
        have := hK ρ' w' hR' hE' ⟨fun i => by
            show sc s.nx ((Rk.putF s.t o.dst r.v).arr.getD i undef)
            rw [Rk.putF_arr]; exact sc_put hs.1 hv _ i, hs.2⟩
        have e2 : act ρ' ⟨Rk.putF s.t o.dst r.v, s.ds, s.H, s.nx, s.lo, s.le, r.q, r.ob⟩ = (act ρ s).put o.dst (conc ρ' r.v) := by
          simp only [act, Rk.putF_arr, Rk.put_act]
          rw [← put_map, map_same hE'.env hs.1, concD_same hE'.env hs.2]
        rw [← e2]
        exact this
      · split at h
        · rename_i r hr
          split at h
          · rename_i hnx
            cases h
            have hr' := opW_ok (B := B) hbz hg hf hr
            have hle := Nat.le_of_ble_eq_true hnx
            refine ⟨⟨hr'.1, hle, (mn_le _ _).1, fun k b h1 h2 h3 => hr'.2.1 k b (Nat.lt_of_lt_of_le h1 (mn_le _ _).2) h2 h3⟩, fun hob ρ w hR hk hs K Q hK => ?_⟩
            refine hr'.2.2 hob ρ w hR hk (hse hs) (act ρ s) (hev ρ) K Q fun ρ' w' hR' hE' hv => ?_
            have := hK ρ' w' hR' hE' ⟨fun i => by
                show sc r.nx ((Rk.putF s.t o.dst r.v).arr.getD i undef)
                rw [Rk.putF_arr]; exact sc_put (fun j => sc_mono hle _ (hs.1 j)) hv _ i, fun d hd => scD_mono hle _ (hs.2 d hd)⟩
            have e2 : act ρ' ⟨Rk.putF s.t o.dst r.v, s.ds, r.H, r.nx, mn s.lo r.lo, mn s.le r.le, r.q, r.ob⟩ = (act ρ s).put o.dst (conc ρ' r.v) := by
              simp only [act, Rk.putF_arr, Rk.put_act]
              rw [← put_map, map_same hE'.env hs.1, concD_same hE'.env hs.2]
            rw [← e2]
            exact this
          · cases h
        · cases h
  · cases h

theorem wanted_act {all : Array Oper} {o : Oper} {s : St} {ρ : Env} (h : Region.wanted o (Rk.yieldedF all s.t) = true ∨ gOk all s.t o = true) : Region.wanted o (yielded all (act ρ s).tmps) = Region.wanted o (Rk.yieldedF all s.t) := by
  rw [Rk.yieldedF_eq] at *
  cases hg : o.guard with
  | none => simp [Region.wanted, hg]
  | some gc =>
    obtain ⟨j, c⟩ := gc
    have key : ∀ d b, (all[j]?).bind (·.dst) = some d → s.t.arr[d]? = some (.bool b) → Region.wanted o (yielded all (act ρ s).tmps) = Region.wanted o (yielded all s.t.arr) := fun d b h1 h2 => by
      have h3 : (act ρ s).tmps[d]? = some (.bool b) := by
        show (s.t.arr.map (conc ρ))[d]? = _
        rw [Array.getElem?_map, h2]; rfl
      simp only [Region.wanted, hg, yielded, h1, Option.bind_some, h2, h3]
    rcases h with h | h
    · simp only [Region.wanted, hg, beq_iff_eq] at h
      unfold yielded at h
      cases h1 : (all[j]?).bind (·.dst) with
      | none => rw [h1] at h; simp at h
      | some d =>
        rw [h1] at h
        simp only [Option.bind_some] at h
        cases h2 : s.t.arr[d]? with
        | none => rw [h2] at h; cases h
        | some v =>
          rw [h2] at h
          cases v <;> first | (cases h; done) | exact key d _ h1 h2
    · obtain ⟨d, b, h1, h2⟩ := gOk_ok h j c hg
      exact key d b h1 h2

theorem opsL_ok (hbz : BZOk P bz) (hg : Good P B kn call) (hf : Rk.OkF P okf) {all : Array Oper} : ∀ (l : List Oper) {s s' : St}, opsL P okf kn bz call all l s = some s' →
    Go1 s s' ∧ (s'.ob → ∀ ρ w, R B ρ s.H s.nx w → KnB B kn w → ScS s → ∀ (Q : Exit → Act → World → Prop), Post B s ρ w s' (Q .normal) → wpList P all Q l (act ρ s) w)
  | [], s, s', h => by
    simp only [opsL, Option.some.injEq] at h
    subst h
    exact ⟨Go1.refl _, fun _ ρ w hR hk hs Q hQ => hQ ρ w hR (Ext.refl _ _ _ _) hs⟩
  | o :: rest, s, s', h => by
    simp only [opsL] at h
    split at h
    · rename_i hw
      split at h
      · rename_i s1 h1
        obtain ⟨a1, a2⟩ := step1_ok (B := B) hbz hg hf h1
        obtain ⟨b1, b2⟩ := opsL_ok hbz hg hf rest h
        refine ⟨a1.trans b1, fun hob ρ w hR hk hs Q hQ => ?_⟩
        unfold wpList
        rw [wanted_act (.inl hw), hw]
        simp only [if_true]
        left
        refine a2 (b1.ob hob) ρ w hR hk hs _ _ fun ρ' w' hR' hE' hs' => ?_
        exact b2 hob ρ' w' hR' (hk.ext hR hE') hs' Q fun ρ2 w2 hR2 hE2 hs2 => hQ ρ2 w2 hR2 (hE'.trans hE2) hs2
      · cases h
    · rename_i hw
      split at h
      · rename_i hgk
        obtain ⟨b1, b2⟩ := opsL_ok hbz hg hf rest h
        have e1 : ∀ ρ, (act ρ s).put o.dst undef = act ρ { s with t := Rk.putF s.t o.dst undef } := fun ρ => by
          simp only [act, Rk.putF_arr, Rk.put_act]
          rw [← put_map]; rfl
        refine ⟨⟨b1.ob, b1.nx, b1.lo, b1.low⟩, fun hob ρ w hR hk hs Q hQ => ?_⟩
        unfold wpList
        rw [wanted_act (.inr hgk), if_neg hw, e1]
        exact b2 hob ρ w hR hk ⟨fun i => by
          show sc s.nx ((Rk.putF s.t o.dst undef).arr.getD i undef)
          rw [Rk.putF_arr]; exact sc_put hs.1 (v := undef) (by show sc _ (.tuple ⟨[]⟩); trivial) _ i, hs.2⟩ Q fun ρ2 w2 hR2 hE2 hs2 => hQ ρ2 w2 hR2 hE2 hs2
      · cases h
end

/-! ### A scope: jumps to its labels -/
def ScopeGo (P : Program) (c : Code) (Q : Exit → Act → World → Prop) : Nat → Code → Act → World → Prop
  | 0, _, _, _ => False
  | n + 1, x, a, w => x.wp P (fun e a' w' => match e with
    | .goto l => ∃ rest, findLabel c l = some rest ∧ ScopeGo P c Q n rest a' w'
    | e => Q e a' w') a w
theorem wp_scope_go {P : Program} {c : Code} {Q : Exit → Act → World → Prop} {a : Act} {w : World} (n : Nat) (h : ScopeGo P c Q n c a w) : (Code.scope c).wp P Q a w := by
  intro b k cs
  have key : ∀ n x a w, ScopeGo P c Q n x a w → ∃ e a' w', Q e a' w' ∧ Arrives P (lone (b.at a (.code x :: .inScope c :: k)) cs w) b k cs e a' w' := by
    intro n
    induction n with
    | zero => intro x a w h; exact h.elim
    | succ n ih =>
      intro x a w h
      obtain ⟨e, a₁, w₁, hq, harr⟩ := h b (.inScope c :: k) cs
      cases e with
      | normal => exact ⟨.normal, a₁, w₁, hq, Steps.trans harr (.one step_inScope)⟩
      | exit id => exact ⟨.exit id, a₁, w₁, hq, fun k' hk => harr k' (by simp [exitTo, hk])⟩
      | goto l' =>
        obtain ⟨rest, hf, hJ⟩ := hq
        have hg : gotoIn l' (.inScope c :: k) = some (.code rest :: .inScope c :: k) := by simp [gotoIn, hf]
        obtain ⟨e₂, a₂, w₂, hq₂, harr₂⟩ := ih rest a₁ w₁ hJ
        exact ⟨e₂, a₂, w₂, hq₂, .of_steps (harr _ hg) harr₂⟩
      | ret => exact ⟨_, a₁, w₁, hq, harr⟩
      | panic ch => exact ⟨_, a₁, w₁, hq, harr⟩
      | outgrown => exact ⟨_, a₁, w₁, hq, harr⟩
  obtain ⟨e, a₁, w₁, hq, harr⟩ := key n c a w h
  exact ⟨e, a₁, w₁, hq, .of_steps (.one step_scope) harr⟩
end Rm
end Go.Proofs.YtpophgfjdlkgiaaGreatDoor
