/- A reckoner with memory, part 16: code, functions. -/
import Derived.Test.YtpophgfjdlkgiaaGreatDoorRmO
import Derived.LoopN
namespace Go.Proofs.YtpophgfjdlkgiaaGreatDoor
namespace Rm
open Go Go.RowKit
open Rk (Orc Kn)

mutual
def code (P : Program) (okf : FuncId → Bool) (kn : Kn) (bz : BZ) (call : Call) : Nat → Code → St → Option (Ex × St)
  | 0, _, _ => none
  | n + 1, c, s => match c with
    | .skip => some (.nrm, s)
    | .label _ => some (.nrm, s)
    | .region _ os draw => match (if draw = true then regD P okf kn bz call os s else opsL P okf kn bz call os os.toList s) with
      | some s' => some (.nrm, s')
      | none => none
    | .seq x y => match code P okf kn bz call n x s with
      | some (.nrm, s') => code P okf kn bz call n y s'
      | r => r
    | .cond b x y => if okc b = true then
        match Rk.evF s.t b with
        | .bool b => code P okf kn bz call n (if b then x else y) s
        | _ => none
      else none
    | .block id x => match code P okf kn bz call n x s with
      | some (.ex i, s') => if i = id then some (.nrm, s') else some (.ex i, s')
      | r => r
    | .loop x => match code P okf kn bz call n x s with
      | some (.nrm, s') => code P okf kn bz call n (.loop x) s'
      | r => r
    | .exit id => some (.ex id, s)
    | .ret => some (.rt, s)
    | .goto l => some (.go l, s)
    | .scope x => sco P okf kn bz call n x x s
    | .rangeFunc y ps asg body => if okc y = true then
        match Rk.evF s.t y with
        | .func (.func f) ⟨xs⟩ ⟨ys⟩ => if okf f = true then
            match itr P okf kn bz call ⟨ps.toList, asg, body, s.t⟩ s.nx n f (xs ++ yv s.nx :: ys) ((s.nx + 1, .dfr) :: s.H) (s.nx + 2) s.q s.ob with
            | some s2 => some (.nrm, ⟨s.t, .mark (s.nx + 1) :: s.ds, s2.H, s2.nx, mn s.lo s2.lo, mn s.le s2.le, s2.q, s2.ob⟩)
            | none => none
          else none
        | _ => none
      else none
    | _ => none
def sco (P : Program) (okf : FuncId → Bool) (kn : Kn) (bz : BZ) (call : Call) : Nat → Code → Code → St → Option (Ex × St)
  | 0, _, _, _ => none
  | n + 1, c, x, s => match code P okf kn bz call n x s with
    | some (.go l, s') => match findLabel c l with
      | some rest => sco P okf kn bz call n c rest s'
      | none => none
    | r => r
end

section
variable {P : Program} {B : Nat} {kn : Kn} {okf : FuncId → Bool} {bz : BZ} {call : Call}

def Holds (B : Nat) (kn : Kn) (s s' : St) (x : Ex) (W : (Exit → Act → World → Prop) → Act → World → Prop) : Prop :=
  Go1 s s' ∧ (s'.ob → ∀ ρ w, R B ρ s.H s.nx w → KnB B kn w → ScS s → ∀ (Q : Exit → Act → World → Prop), Post B s ρ w s' (Q x.up) → W Q (act ρ s) w)

theorem range_ok (hbz : BZOk P bz) (hg : Good P B kn call) (hf : Rk.OkF P okf) {n : Nat} {y : Operand} {ps : Array Tmp} {asg body : Code} {s s2 : St} {f : FuncId} {xs ys : List Value} (hy : okc y = true) (hv : Rk.evF s.t y = .func (.func f) ⟨xs⟩ ⟨ys⟩) (hof : okf f = true)
    (h : itr P okf kn bz call ⟨ps.toList, asg, body, s.t⟩ s.nx n f (xs ++ yv s.nx :: ys) ((s.nx + 1, .dfr) :: s.H) (s.nx + 2) s.q s.ob = some s2) :
    Holds B kn s ⟨s.t, .mark (s.nx + 1) :: s.ds, s2.H, s2.nx, mn s.lo s2.lo, mn s.le s2.le, s2.q, s2.ob⟩ .nrm (fun Q a w => (Code.rangeFunc y ps asg body).wp P Q a w) := by
  obtain ⟨⟨i1, i2, i3, i4⟩, i5⟩ := itr_ok (B := B) (n := 0) (n0 := s.nx) hbz hg hf h
  refine ⟨⟨i1, by show s.nx ≤ s2.nx; omega, (mn_le _ _).1, fun k b h1 h2 h3 => i4 k b (Nat.lt_of_lt_of_le h1 (mn_le _ _).2) (by omega) (by rw [lk_cons, if_neg (by omega)]; exact h3)⟩, fun hob ρ w hR hk hs Q hQ => ?_⟩
  refine (wpIn_wide (n := 1)).1 (wpIn_rangeFunc fun fn _ => ?_)
  have hev : (act ρ s).eval y = .func (.func f) ⟨concL ρ xs⟩ ⟨concL ρ ys⟩ := by
    have := ev_at (t := s.t.arr) (ρ := ρ) (ds := s.ds.map (concD ρ)) hy
    rw [← Rk.evF_eq, hv, conc_fun] at this
    exact this
  have hsv : scL s.nx xs ∧ scL s.nx ys := by
    have : sc s.nx (Rk.evF s.t y) := by rw [Rk.evF_eq]; exact sc_ev hs.1 hy
    rw [hv] at this
    exact this
  obtain ⟨gfn, n1, n2, n3⟩ := hf f hof
  let g : Rng := ⟨ps.toList, asg, body, s.t⟩
  let r := recOf g ρ fn w.heap.size .ready
  obtain ⟨hR2, hE2⟩ := readyY (r := r) hR
  have hsame : Same s.nx ρ (envY ρ s.nx w.heap.size) := envY_same _
  have hcap : (⟨concL ρ xs⟩ : Array Value) ++ #[.func (.yield (w.heap.size + 1)) #[] #[]] ++ (⟨concL ρ ys⟩ : Array Value) = ⟨concL (envY ρ s.nx w.heap.size) (xs ++ yv s.nx :: ys)⟩ := by
    apply Array.ext'
    have e1 : concL (envY ρ s.nx w.heap.size) xs = concL ρ xs := (concL_same hsame xs hsv.1).symm
    have e2 : concL (envY ρ s.nx w.heap.size) ys = concL ρ ys := (concL_same hsame ys hsv.2).symm
    have e3 : conc (envY ρ s.nx w.heap.size) (yv s.nx) = .func (.yield (w.heap.size + 1)) #[] #[] := by
      show cP _ (some ⟨s.nx, 0, some 2⟩) = _
      simp only [cP, if_true]
      exact envY_y _
    simp only [concL_map, List.map_append, List.map_cons, e3] at e1 e2 ⊢
    rw [e1, e2]
    simp
  have hsc : scL (s.nx + 2) (xs ++ yv s.nx :: ys) :=
    scL_app (scL_mono (by omega) _ hsv.1) ⟨by show s.nx < s.nx + 2; omega, scL_mono (by omega) _ hsv.2⟩
  have hY : YC g ρ fn (w.heap.size + 1) w.heap.size s.nx s.nx (envY ρ s.nx w.heap.size) (wY w r) (s.nx + 2) :=
    ⟨⟨envY_y _, wY_loop⟩, by omega, by omega, hsame, hs.1⟩
  refine ⟨w.heap.size + 1, [{ target := .collected w.heap.size, args := #[] }], wY w r, ⟨.fn (.func f) ⟨concL ρ ys⟩, (⟨concL ρ xs⟩ : Array Value) ++ #[.func (.yield (w.heap.size + 1)) #[] #[]]⟩, wY w r, f, ⟨concL (envY ρ s.nx w.heap.size) (xs ++ yv s.nx :: ys)⟩, wY w r, ?_, ?_, fun _ _ => trivial, ?_, fun q => (by cases q), ?_⟩
  · exact run_enterLoop_outer fn (act ρ s).tmps ps asg body
  · simp only [rangeCall, resolve, hev, Deferred.ofValue, Sem.run_bind, Sem.run_pure, Result.andThen_ok, List.map_toArray, List.map_cons, List.map_nil]
    simp [Act.eval]
  · rw [← hcap]
    simp only [invoke, callFunc, Sem.run_bind, run_program, n1, n2, n3, Result.andThen_ok]
    simp
  · refine (i5 hob _ _ hR2 (hk.ext hR hE2) hsc ρ fn _ _ hY).mono ?_
    rintro e w3 ⟨ρ3, v, rfl, hR3, hE3, hY3⟩
    have hl3 := hY3.y.2
    have hend := run_endLoop (P := P) hl3 (by simp [recOf])
    refine ⟨_, _, hend, ?_⟩
    have := hQ ρ3 _ (hR3.side hl3 (.loop { recOf g ρ fn w.heap.size .ready with state := .exhausted })) ((hE2.trans hE3).side (by omega) (.loop { recOf g ρ fn w.heap.size .ready with state := .exhausted })) ⟨fun i => sc_mono (by show s.nx ≤ s2.nx; omega) _ (hs.1 i), fun d hd => by
      rcases List.mem_cons.1 hd with rfl | hd
      · show s.nx + 1 < s2.nx; omega
      · exact scD_mono (by show s.nx ≤ s2.nx; omega) _ (hs.2 d hd)⟩
    have e2 : act ρ3 ⟨s.t, .mark (s.nx + 1) :: s.ds, s2.H, s2.nx, mn s.lo s2.lo, mn s.le s2.le, s2.q, s2.ob⟩ = { act ρ s with defers := [{ target := .collected w.heap.size, args := #[] }] ++ (act ρ s).defers } := by
      have hE := hE2.trans hE3
      have hb : (ρ3 (s.nx + 1)).b = w.heap.size := by
        rw [← hE3.env (s.nx + 1) (by omega)]; exact envY_d _
      simp only [act, List.map_cons, concD, hb, List.singleton_append]
      rw [map_same hE.env hs.1, concD_same hE.env hs.2]
    rw [← e2]
    exact this

theorem code_all (hm : P.follows .mixedOrders = true) (hbz : BZOk P bz) (hg : Good P B kn call) (hf : Rk.OkF P okf) : ∀ (n : Nat),
    (∀ (c : Code) (s s' : St) (x : Ex), code P okf kn bz call n c s = some (x, s') → Holds B kn s s' x (fun Q a w => c.wp P Q a w)) ∧
    (∀ (c : Code) (s s' : St) (x : Ex), code P okf kn bz call n (.loop c) s = some (x, s') → Holds B kn s s' x (fun Q a w => Code.rounds P c Q n a w)) ∧
    (∀ (c y : Code) (s s' : St) (x : Ex), sco P okf kn bz call n c y s = some (x, s') → (∀ l, x ≠ .go l) ∧ Holds B kn s s' x (fun Q a w => ScopeGo P c Q n y a w)) := by
  intro n
  induction n with
  | zero => exact ⟨fun c s s' x h => by simp [code] at h, fun c s s' x h => by simp [code] at h, fun c y s s' x h => by simp [sco] at h⟩
  | succ n ih =>
    obtain ⟨ihA, ihB, ihC⟩ := ih
    have hB : ∀ (c : Code) (s s' : St) (x : Ex), code P okf kn bz call (n + 1) (.loop c) s = some (x, s') → Holds B kn s s' x (fun Q a w => Code.rounds P c Q (n + 1) a w) := by
      intro c s s' x h
      simp only [code] at h
      split at h
      · rename_i s1 h1
        obtain ⟨a1, a2⟩ := ihA c s s1 .nrm h1
        obtain ⟨b1, b2⟩ := ihB c s1 s' x h
        refine ⟨a1.trans b1, fun hob ρ w hR hk hs Q hQ => ?_⟩
        show Code.rounds P c Q (n + 1) (act ρ s) w
        rw [rounds_succ]
        refine a2 (b1.ob hob) ρ w hR hk hs _ fun ρ1 w1 hR1 hE1 hs1 => ?_
        exact b2 hob ρ1 w1 hR1 (hk.ext hR hE1) hs1 Q (hQ.ext hE1)
      · rename_i h1
        obtain ⟨a1, a2⟩ := ihA c s s' x h
        refine ⟨a1, fun hob ρ w hR hk hs Q hQ => ?_⟩
        show Code.rounds P c Q (n + 1) (act ρ s) w
        rw [rounds_succ]
        refine a2 hob ρ w hR hk hs _ fun ρ1 w1 hR1 hE1 hs1 => Ex.up_then (fun e => ?_) (hQ ρ1 w1 hR1 hE1 hs1)
        subst e
        exact h1 _ h
    refine ⟨?_, hB, ?_⟩
    · intro c s s' x h
      cases c with
      | skip =>
        simp only [code, Option.some.injEq, Prod.mk.injEq] at h
        obtain ⟨rfl, rfl⟩ := h
        exact ⟨Go1.refl _, fun _ ρ w hR _ hs Q hQ => wp_skip (hQ ρ w hR (Ext.refl _ _ _ _) hs)⟩
      | label l =>
        simp only [code, Option.some.injEq, Prod.mk.injEq] at h
        obtain ⟨rfl, rfl⟩ := h
        exact ⟨Go1.refl _, fun _ ρ w hR _ hs Q hQ => wp_label (hQ ρ w hR (Ext.refl _ _ _ _) hs)⟩
      | exit id =>
        simp only [code, Option.some.injEq, Prod.mk.injEq] at h
        obtain ⟨rfl, rfl⟩ := h
        exact ⟨Go1.refl _, fun _ ρ w hR _ hs Q hQ => wp_exit (hQ ρ w hR (Ext.refl _ _ _ _) hs)⟩
      | ret =>
        simp only [code, Option.some.injEq, Prod.mk.injEq] at h
        obtain ⟨rfl, rfl⟩ := h
        exact ⟨Go1.refl _, fun _ ρ w hR _ hs Q hQ => wp_ret (hQ ρ w hR (Ext.refl _ _ _ _) hs)⟩
      | goto l =>
        simp only [code, Option.some.injEq, Prod.mk.injEq] at h
        obtain ⟨rfl, rfl⟩ := h
        exact ⟨Go1.refl _, fun _ ρ w hR _ hs Q hQ => wp_goto (hQ ρ w hR (Ext.refl _ _ _ _) hs)⟩
      | region id os draw =>
        simp only [code] at h
        split at h
        · rename_i s1 h1
          simp only [Option.some.injEq, Prod.mk.injEq] at h
          obtain ⟨rfl, rfl⟩ := h
          cases draw with
          | true =>
            simp only [if_true] at h1
            obtain ⟨a1, a2⟩ := regD_ok (B := B) hm hbz hg hf h1
            exact ⟨a1, fun hob ρ w hR hk hs Q hQ => a2 hob ρ w hR hk hs id Q hQ⟩
          | false =>
            simp only [Bool.false_eq_true, if_false] at h1
            obtain ⟨a1, a2⟩ := opsL_ok (B := B) hbz hg hf _ h1
            exact ⟨a1, fun hob ρ w hR hk hs Q hQ => wp_region_list (a2 hob ρ w hR hk hs Q hQ)⟩
        · cases h
      | seq y z =>
        simp only [code] at h
        split at h
        · rename_i s1 h1
          obtain ⟨a1, a2⟩ := ihA y s s1 .nrm h1
          obtain ⟨b1, b2⟩ := ihA z s1 s' x h
          refine ⟨a1.trans b1, fun hob ρ w hR hk hs Q hQ => wp_seq ?_⟩
          refine a2 (b1.ob hob) ρ w hR hk hs _ fun ρ1 w1 hR1 hE1 hs1 => ?_
          exact b2 hob ρ1 w1 hR1 (hk.ext hR hE1) hs1 Q (hQ.ext hE1)
        · rename_i h1
          obtain ⟨a1, a2⟩ := ihA y s s' x h
          refine ⟨a1, fun hob ρ w hR hk hs Q hQ => wp_seq ?_⟩
          refine a2 hob ρ w hR hk hs _ fun ρ1 w1 hR1 hE1 hs1 => Ex.up_then (fun e => ?_) (hQ ρ1 w1 hR1 hE1 hs1)
          subst e
          exact h1 _ h
      | cond b y z =>
        simp only [code] at h
        split at h
        · rename_i hb
          split at h
          · rename_i v hv
            obtain ⟨a1, a2⟩ := ihA _ s s' x h
            refine ⟨a1, fun hob ρ w hR hk hs Q hQ => ?_⟩
            have e : (act ρ s).eval b = .bool v := by
              have := ev_at (t := s.t.arr) (ρ := ρ) (ds := s.ds.map (concD ρ)) hb
              rw [← Rk.evF_eq, hv] at this
              exact this
            exact wp_cond e (a2 hob ρ w hR hk hs Q hQ)
          · cases h
        · cases h
      | block id y =>
        simp only [code] at h
        split at h
        · rename_i i s1 h1
          obtain ⟨a1, a2⟩ := ihA y s s1 (.ex i) h1
          by_cases e : i = id
          · rw [if_pos e] at h
            simp only [Option.some.injEq, Prod.mk.injEq] at h
            obtain ⟨rfl, rfl⟩ := h
            refine ⟨a1, fun hob ρ w hR hk hs Q hQ => wp_block (a2 hob ρ w hR hk hs _ fun ρ1 w1 hR1 hE1 hs1 => ?_)⟩
            show Exit.inBlock id Q (.exit i) _ w1
            simp only [Exit.inBlock]
            rw [if_pos e]; exact hQ ρ1 w1 hR1 hE1 hs1
          · rw [if_neg e] at h
            simp only [Option.some.injEq, Prod.mk.injEq] at h
            obtain ⟨rfl, rfl⟩ := h
            refine ⟨a1, fun hob ρ w hR hk hs Q hQ => wp_block (a2 hob ρ w hR hk hs _ fun ρ1 w1 hR1 hE1 hs1 => ?_)⟩
            show Exit.inBlock id Q (.exit i) _ w1
            simp only [Exit.inBlock]
            rw [if_neg e]; exact hQ ρ1 w1 hR1 hE1 hs1
        · rename_i h1
          obtain ⟨a1, a2⟩ := ihA y s s' x h
          refine ⟨a1, fun hob ρ w hR hk hs Q hQ => wp_block (a2 hob ρ w hR hk hs _ fun ρ1 w1 hR1 hE1 hs1 => ?_)⟩
          have := hQ ρ1 w1 hR1 hE1 hs1
          cases x with
          | nrm => exact this
          | ex i => exact absurd h (h1 i s')
          | rt => exact this
          | go l => exact this
      | loop y =>
        obtain ⟨a1, a2⟩ := hB y s s' x h
        exact ⟨a1, fun hob ρ w hR hk hs Q hQ => wp_loop_rounds (n + 1) (a2 hob ρ w hR hk hs Q hQ)⟩
      | scope y =>
        simp only [code] at h
        obtain ⟨_, a1, a2⟩ := ihC y y s s' x h
        exact ⟨a1, fun hob ρ w hR hk hs Q hQ => wp_scope_go n (a2 hob ρ w hR hk hs Q hQ)⟩
      | rangeFunc y ps asg body =>
        simp only [code] at h
        split at h
        · rename_i hy
          split at h
          · rename_i f xs ys hv
            split at h
            · rename_i hof
              split at h
              · rename_i s2 h2
                simp only [Option.some.injEq, Prod.mk.injEq] at h
                obtain ⟨rfl, rfl⟩ := h
                exact range_ok hbz hg hf hy hv hof h2
              · cases h
            · cases h
          · cases h
        · cases h
      | _ => simp [code] at h
    · intro c y s s' x h
      simp only [sco] at h
      split at h
      · rename_i l s1 h1
        split at h
        · rename_i rest hl
          obtain ⟨a1, a2⟩ := ihA y s s1 (.go l) h1
          obtain ⟨b0, b1, b2⟩ := ihC c rest s1 s' x h
          refine ⟨b0, a1.trans b1, fun hob ρ w hR hk hs Q hQ => ?_⟩
          show ScopeGo P c Q (n + 1) y (act ρ s) w
          rw [ScopeGo]
          refine a2 (b1.ob hob) ρ w hR hk hs _ fun ρ1 w1 hR1 hE1 hs1 => ?_
          exact ⟨rest, hl, b2 hob ρ1 w1 hR1 (hk.ext hR hE1) hs1 Q (hQ.ext hE1)⟩
        · cases h
      · rename_i h1
        obtain ⟨a1, a2⟩ := ihA y s s' x h
        refine ⟨fun l q => by subst q; exact h1 _ _ h, a1, fun hob ρ w hR hk hs Q hQ => ?_⟩
        show ScopeGo P c Q (n + 1) y (act ρ s) w
        rw [ScopeGo]
        refine a2 hob ρ w hR hk hs _ fun ρ1 w1 hR1 hE1 hs1 => ?_
        have := hQ ρ1 w1 hR1 hE1 hs1
        cases x with
        | nrm => exact this
        | ex i => exact this
        | rt => exact this
        | go l => exact absurd h (h1 l s')
end
end Rm
end Go.Proofs.YtpophgfjdlkgiaaGreatDoor
