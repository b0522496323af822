/- A reckoner with memory, part 17: functions. -/
import Derived.Test.YtpophgfjdlkgiaaGreatDoorRmG
import Derived.Defers
namespace Go.Proofs.YtpophgfjdlkgiaaGreatDoor
namespace Rm
open Go Go.RowKit
open Rk (Orc Kn)

/-! ### What lies below a number, to be reckoned -/
def scAB (n : Nat) : Option Addr → Bool
  | some ⟨k, _, some _⟩ => Nat.blt k n
  | _ => true
mutual
def scB (n : Nat) : Value → Bool
  | .bool _ => true
  | .int _ _ => true
  | .float _ _ => true
  | .complex _ _ _ => true
  | .string _ => true
  | .pointer a => scAB n a
  | .slice a _ _ => scAB n a
  | .map _ => true
  | .chan _ => true
  | .func _ ⟨xs⟩ ⟨ys⟩ => scLB n xs && scLB n ys
  | .nilFunc => true
  | .iface _ v => scB n v
  | .nilIface => true
  | .agg ⟨cs⟩ => scLB n cs
  | .tuple ⟨vs⟩ => scLB n vs
def scLB (n : Nat) : List Value → Bool
  | [] => true
  | v :: r => scB n v && scLB n r
end
theorem scAB_ok {n : Nat} (a : Option Addr) (h : scAB n a = true) : scA n a := by
  rcases a with _ | ⟨k, o, _ | t⟩
  · trivial
  · trivial
  · simp only [scAB, Nat.blt_eq] at h; exact h
mutual
theorem scB_ok {n : Nat} : ∀ v : Value, scB n v = true → sc n v
  | .bool _, _ => trivial
  | .int _ _, _ => trivial
  | .float _ _, _ => trivial
  | .complex _ _ _, _ => trivial
  | .string _, _ => trivial
  | .pointer a, h => scAB_ok a h
  | .slice a _ _, h => scAB_ok a h
  | .map _, _ => trivial
  | .chan _, _ => trivial
  | .func _ ⟨xs⟩ ⟨ys⟩, h => by
    rw [scB, Bool.and_eq_true] at h
    exact ⟨scLB_ok xs h.1, scLB_ok ys h.2⟩
  | .nilFunc, _ => trivial
  | .iface _ v, h => by rw [scB] at h; exact scB_ok v h
  | .nilIface, _ => trivial
  | .agg ⟨cs⟩, h => by rw [scB] at h; exact scLB_ok cs h
  | .tuple ⟨vs⟩, h => by rw [scB] at h; exact scLB_ok vs h
theorem scLB_ok {n : Nat} : ∀ l : List Value, scLB n l = true → scL n l
  | [], _ => trivial
  | v :: r, h => by
    rw [scLB, Bool.and_eq_true] at h
    exact ⟨scB_ok v h.1, scLB_ok r h.2⟩
end
def Blk.scB (n : Nat) : Blk → Bool
  | .row cs _ => scLB n cs
  | .room cs _ _ => scLB n cs
  | _ => true
theorem Blk.scB_ok {n : Nat} : ∀ b : Blk, b.scB n = true → b.sc n
  | .row cs _, h => scLB_ok cs h
  | .room cs _ _, h => scLB_ok cs h
  | .big _ _ _, _ => trivial
  | .snap _ _, _ => trivial
  | .dfr, _ => trivial

def isS : Option Blk → Bool
  | some _ => true
  | none => false
/-- What was known at the entry names nothing that came since. -/
def dropOk (H0 : Heap) (lo nx : Nat) : Heap → Bool
  | [] => true
  | (k, b) :: r => (if Nat.blt k nx = true then (if (Nat.blt k lo && isS (lk H0 k)) = true then true else b.scB nx) else true) && dropOk H0 lo nx r
theorem dropOk_ok {H0 : Heap} {lo nx : Nat} : ∀ {l : Heap}, dropOk H0 lo nx l = true → ∀ {k : Nat} {b : Blk}, lk l k = some b → k < nx → (k < lo ∧ ∃ b0, lk H0 k = some b0) ∨ b.sc nx
  | [], _, k, b, h, _ => by simp [lk] at h
  | (j, c) :: r, h, k, b, hk, hn => by
    rw [dropOk, Bool.and_eq_true] at h
    rw [lk_cons] at hk
    split at hk
    · rename_i e
      subst e
      cases hk
      have h1 := h.1
      rw [if_pos (by rw [Nat.blt_eq]; exact hn)] at h1
      split at h1
      · rename_i hc
        rw [Bool.and_eq_true, Nat.blt_eq] at hc
        refine .inl ⟨hc.1, ?_⟩
        cases hq : lk H0 j with
        | none => rw [hq] at hc; exact absurd hc.2 (by simp [isS])
        | some b0 => exact ⟨b0, rfl⟩
      · exact .inr (Blk.scB_ok _ h1)
    · exact dropOk_ok h.2 hk hn

def fin (H0 : Heap) (nx : Nat) (v : Value) (s : St) : Res :=
  if (scB nx v && dropOk H0 s.lo nx s.H) = true then ⟨v, keep (fun k => Nat.blt k nx) s.H, nx, s.lo, s.le, s.q, s.ob⟩
  else ⟨v, s.H, s.nx, s.lo, s.le, s.q, s.ob⟩

section
variable {P : Program} {B : Nat} {kn : Kn} {okf : FuncId → Bool} {bz : BZ} {call : Call}
theorem fin_ob {H0 : Heap} {nx : Nat} {v : Value} {s : St} : (fin H0 nx v s).ob = s.ob := by
  unfold fin; split <;> rfl
theorem fin_low {H0 : Heap} {nx : Nat} {v : Value} {s : St} (h : ∀ k b, k < s.lo → k < nx → lk H0 k = some b → lk s.H k = some b) : Low H0 nx (fin H0 nx v s) := by
  unfold fin
  split
  · intro k b h1 h2 h3
    show lk (keep _ s.H) k = some b
    rw [lk_keep, if_pos (by rw [Nat.blt_eq]; exact h2)]
    exact h k b h1 h2 h3
  · exact h
theorem fin_ans {H0 : Heap} {nx : Nat} {v : Value} {s : St} {ρ ρ' : Env} {w w' : World} (h : ∀ k b, k < s.lo → k < nx → lk H0 k = some b → lk s.H k = some b) (hR0 : R B ρ H0 nx w) (hR : R B ρ' s.H s.nx w') (hE : Ext w ρ H0 nx w' ρ' s.H s.nx) (hs : sc s.nx v) :
    Ans B ρ H0 nx w (fin H0 nx v s) (.returned (conc ρ' v)) w' := by
  unfold fin
  split
  · rename_i hc
    rw [Bool.and_eq_true] at hc
    have hk : ∀ k b, lk (keep (fun k => Nat.blt k nx) s.H) k = some b → lk s.H k = some b ∧ k < nx := fun k b hk => by
      rw [lk_keep] at hk
      split at hk
      · rename_i hb
        rw [Nat.blt_eq] at hb
        exact ⟨hk, hb⟩
      · cases hk
    refine ⟨ρ', rfl, scB_ok v hc.1, hR.sub fun k b hkb => ?_, ⟨hE.env, Nat.le_refl _, fun k b hkb hm => hE.own k b (hk k b hkb).1 hm, hE.fr, hE.size, hE.os, hE.tape, hE.output⟩⟩
    obtain ⟨g1, g2⟩ := hk k b hkb
    refine ⟨g1, g2, ?_⟩
    rcases dropOk_ok hc.2 g1 g2 with ⟨l1, b0, l2⟩ | h1
    · have := h k b0 l1 g2 l2
      rw [this] at g1
      cases g1
      exact (hR0.mem k b l2).2.2.1
    · exact h1
  · exact ⟨ρ', rfl, hs, hR, hE⟩
end

/-! ### A body, what is put off -/
def body0 (P : Program) (okf : FuncId → Bool) (kn : Kn) (bz : BZ) (call : Call) (m : Nat) (f : FuncId) (args : List Value) (H : Heap) (nx : Nat) (q : Orc) (ob : Prop) : Option (Func × St) :=
  match P.funcs[f]? with
  | none => none
  | some g => match g.body with
    | none => none
    | some c => match code P okf kn bz call m c ⟨Rk.enterF ⟨args⟩ (g.ntmps - args.length), [], H, nx, nx, nx, q, ob⟩ with
      | some (.nrm, s) => some (g, s)
      | some (.rt, s) => some (g, s)
      | _ => none
def runD (P : Program) (okf : FuncId → Bool) (kn : Kn) (bz : BZ) (call : Call) (m : Nat) : List Dfr → St → Option St
  | [], s => some ⟨s.t, [], s.H, s.nx, s.lo, s.le, s.q, s.ob⟩
  | .mark k :: r, s => match lk s.H k with
    | some .dfr => runD P okf kn bz call m r ⟨s.t, s.ds, del s.H k, s.nx, mn s.lo k, mn s.le k, s.q, s.ob⟩
    | _ => none
  | .call f args caps :: r, s => if okf f = true then
      match body0 P okf kn bz call m f (args ++ caps) s.H s.nx s.q s.ob with
      | some (g, s1) => match s1.ds with
        | [] => match res P g s1 with
          | some _ => runD P okf kn bz call m r ⟨s.t, s.ds, s1.H, s1.nx, mn s.lo s1.lo, mn s.le s1.le, s1.q, s1.ob⟩
          | none => none
        | _ :: _ => none
      | none => none
    else none
def fn (P : Program) (okf : FuncId → Bool) (kn : Kn) (bz : BZ) (sum : Call) (m : Nat) : Nat → Call
  | 0 => sum
  | n + 1 => fun f args H nx q ob => match sum f args H nx q ob with
    | some r => some r
    | none => match body0 P okf kn bz (fn P okf kn bz sum m n) m f args H nx q ob with
      | none => none
      | some (g, s) => match runD P okf kn bz (fn P okf kn bz sum m n) m s.ds s with
        | none => none
        | some s' => match res P g s' with
          | some v => some (fin H nx v s')
          | none => none

section
variable {P : Program} {B : Nat} {kn : Kn} {okf : FuncId → Bool} {bz : BZ} {call : Call}
theorem body0_ok (hm : P.follows .mixedOrders = true) (hbz : BZOk P bz) (hg : Good P B kn call) (hf : Rk.OkF P okf) {m : Nat} {f : FuncId} {args : List Value} {H : Heap} {nx : Nat} {q : Orc} {ob : Prop} {g : Func} {s : St}
    (h : body0 P okf kn bz call m f args H nx q ob = some (g, s)) :
    ∃ c, P.funcs[f]? = some g ∧ g.body = some c ∧ Go1 ⟨Rk.enterF ⟨args⟩ (g.ntmps - args.length), [], H, nx, nx, nx, q, ob⟩ s ∧
      (s.ob → ∀ ρ w, R B ρ H nx w → KnB B kn w → scL nx args → ∀ (Q : Exit → Act → World → Prop),
        (∀ ρ' w', R B ρ' s.H s.nx w' → Ext w ρ H nx w' ρ' s.H s.nx → ScS s → Q .normal (act ρ' s) w' ∧ Q .ret (act ρ' s) w') →
        c.wp P Q { tmps := (⟨concL ρ args⟩ : Array Value) ++ Array.replicate (g.ntmps - (⟨concL ρ args⟩ : Array Value).size) undef, defers := [] } w) := by
  unfold body0 at h
  split at h
  · cases h
  · rename_i g' hfn
    split at h
    · cases h
    · rename_i c hb
      have key : ∀ (x : Ex) (s1 : St), code P okf kn bz call m c ⟨Rk.enterF ⟨args⟩ (g'.ntmps - args.length), [], H, nx, nx, nx, q, ob⟩ = some (x, s1) → (x = .nrm ∨ x = .rt) → Go1 ⟨Rk.enterF ⟨args⟩ (g'.ntmps - args.length), [], H, nx, nx, nx, q, ob⟩ s1 ∧
          (s1.ob → ∀ ρ w, R B ρ H nx w → KnB B kn w → scL nx args → ∀ (Q : Exit → Act → World → Prop),
            (∀ ρ' w', R B ρ' s1.H s1.nx w' → Ext w ρ H nx w' ρ' s1.H s1.nx → ScS s1 → Q .normal (act ρ' s1) w' ∧ Q .ret (act ρ' s1) w') →
            c.wp P Q { tmps := (⟨concL ρ args⟩ : Array Value) ++ Array.replicate (g'.ntmps - (⟨concL ρ args⟩ : Array Value).size) undef, defers := [] } w) := by
        intro x s1 hc hx
        obtain ⟨a1, a2⟩ := (code_all (B := B) hm hbz hg hf m).1 c _ s1 x hc
        refine ⟨a1, fun hob ρ w hR hk hs Q hQ => ?_⟩
        have e : (⟨concL ρ args⟩ : Array Value).size = args.length := by simp [concL_map]
        rw [e]
        have h0 := a2 hob ρ w hR hk ⟨enter_sc hs _, fun d hd => by cases hd⟩ Q fun ρ' w' hR' hE' hs' => by
          have := hQ ρ' w' hR' hE' hs'
          rcases hx with rfl | rfl
          · exact this.1
          · exact this.2
        have e2 : act ρ ⟨Rk.enterF ⟨args⟩ (g'.ntmps - args.length), [], H, nx, nx, nx, q, ob⟩ = { tmps := (⟨concL ρ args⟩ : Array Value) ++ Array.replicate (g'.ntmps - args.length) undef, defers := [] } := by
          simp only [act, enter_map]; rfl
        rwa [e2] at h0
      split at h
      · rename_i s1 hc
        simp only [Option.some.injEq, Prod.mk.injEq] at h
        obtain ⟨rfl, rfl⟩ := h
        exact ⟨c, hfn, hb, key .nrm _ hc (.inl rfl)⟩
      · rename_i s1 hc
        simp only [Option.some.injEq, Prod.mk.injEq] at h
        obtain ⟨rfl, rfl⟩ := h
        exact ⟨c, hfn, hb, key .rt _ hc (.inr rfl)⟩
      · cases h

theorem runD_ok (hm : P.follows .mixedOrders = true) (hbz : BZOk P bz) (hg : Good P B kn call) (hf : Rk.OkF P okf) {m : Nat} : ∀ (l : List Dfr) {s s' : St}, runD P okf kn bz call m l s = some s' →
    Go1 s s' ∧ (s'.t = s.t ∧ s'.ds = []) ∧ (s'.ob → ∀ ρ w, R B ρ s.H s.nx w → KnB B kn w → (∀ i, sc s.nx (s.t.arr.getD i undef)) → (∀ d ∈ l, scD s.nx d) →
      ∀ (fn : Func) (R0 : Ending → World → Prop), (∀ ρ' w', R B ρ' s'.H s'.nx w' → Ext w ρ s.H s.nx w' ρ' s'.H s'.nx → ∃ v, (results fn (s.t.arr.map (conc ρ'))).run P w' = .ok v w' ∧ R0 (.returned v) w') →
        LeavesInM Fence.wide 0 P fn (s.t.arr.map (conc ρ)) R0 (l.map (concD ρ)) .returning w)
  | [], s, s', h => by
    simp only [runD, Option.some.injEq] at h
    subst h
    exact ⟨⟨id, Nat.le_refl _, Nat.le_refl _, fun _ _ _ _ h => h⟩, ⟨rfl, rfl⟩, fun _ ρ w hR _ _ _ fn R0 hQ => hQ ρ w hR (Ext.refl _ _ _ _)⟩
  | .mark k :: l, s, s', h => by
    simp only [runD] at h
    split at h
    · rename_i hk0
      obtain ⟨b1, b2, b3⟩ := runD_ok hm hbz hg hf l h
      have hl : ∀ j b, lk (del s.H k) j = some b → j ≠ k ∧ lk s.H j = some b := fun j b hj => by
        rw [lk_del] at hj
        split at hj
        · cases hj
        · rename_i q; exact ⟨fun e => q e.symm, hj⟩
      have g1 : Go1 s ⟨s.t, s.ds, del s.H k, s.nx, mn s.lo k, mn s.le k, s.q, s.ob⟩ :=
        ⟨id, Nat.le_refl _, (mn_le _ _).1, fun j b h1 h2 h3 => by
          have : j < k := Nat.lt_of_lt_of_le h1 (mn_le _ _).2
          show lk (del s.H k) j = some b
          rw [lk_del, if_neg (by omega)]; exact h3⟩
      refine ⟨g1.trans b1, b2, fun hob ρ w hR hk hst hsd fn R0 hQ => ?_⟩
      obtain ⟨q1, q2, q3, q4⟩ := hR.mem k _ hk0
      have hd : w.heap[(ρ k).b]? = some (.deferred (some [])) := q2
      have hoth : ∀ x, x ≠ (ρ k).b → (w.putObj (ρ k).b (.deferred none)).heap[x]? = w.heap[x]? := fun x hx => World.putObj_heap_other hx
      have hR' : R B ρ (del s.H k) s.nx (w.putObj (ρ k).b (.deferred none)) :=
        ⟨by rw [World.putObj_size]; exact hR.base, fun j b hj => by
          obtain ⟨c1, c2⟩ := hl j b hj
          obtain ⟨p1, p2, p3, p4⟩ := hR.mem j b c2
          exact ⟨p1, p2.heap (fun hm => hoth _ (fun e => c1 (hR.inj j k b .dfr c2 hk0 hm rfl e))), p3, p4⟩, fun j j' b b' hj hj' => hR.inj j j' b b' (hl j b hj).2 (hl j' b' hj').2⟩
      have hE' : Ext w ρ s.H s.nx (w.putObj (ρ k).b (.deferred none)) ρ (del s.H k) s.nx :=
        ⟨Same.refl _ _, Nat.le_refl _, fun j b hj hm => .inr ⟨j, b, (hl j b hj).2, hm, rfl⟩, fun x _ hn => hoth x (fun e => hn k _ hk0 rfl e.symm), by rw [World.putObj_size]; exact Nat.le_refl _, rfl, rfl, rfl⟩
      refine ⟨by simp, .inl ⟨(ρ k).b, _, rfl, run_takeDeferred hd, ?_⟩⟩
      exact b3 hob ρ _ hR' (hk.ext hR hE') hst (fun d hd => hsd d (by simp [hd])) fn R0 fun ρ2 w2 hR2 hE2 => hQ ρ2 w2 hR2 (hE'.trans hE2)
    · cases h
  | .call d1 d2 d3 :: l, s, s', h => by
    simp only [runD] at h
    split at h
    · rename_i hok
      split at h
      · rename_i g s1 hb
        split at h
        · rename_i hds
          split at h
          · rename_i u hu
            obtain ⟨c, hfn, hbody, a1, a2⟩ := body0_ok (B := B) hm hbz hg hf hb
            obtain ⟨b1, b2, b3⟩ := runD_ok hm hbz hg hf l h
            have g1 : Go1 s ⟨s.t, s.ds, s1.H, s1.nx, mn s.lo s1.lo, mn s.le s1.le, s1.q, s1.ob⟩ :=
              ⟨a1.ob, a1.nx, (mn_le _ _).1, fun k b h1 h2 h3 => a1.low k b (Nat.lt_of_lt_of_le h1 (mn_le _ _).2) h2 h3⟩
            refine ⟨g1.trans b1, b2, fun hob ρ w hR hk hst hsd fn R0 hQ => ?_⟩
            obtain ⟨gfn, n1, n2, n3⟩ := hf d1 hok
            have hsd1 : scL s.nx d2 ∧ scL s.nx d3 := hsd (.call d1 d2 d3) (by simp)
            refine ⟨by simp, .inr ⟨fun q => (by cases q), .func d1, ⟨concL ρ d3⟩, d1, ⟨concL ρ (d2 ++ d3)⟩, rfl, ?_, fun _ _ => trivial, ?_⟩⟩
            · simp only [concD, invoke, callFunc, Sem.run_bind, run_program, n1, n2, n3, Result.andThen_ok]
              simp [concL_map]
            · have hcD : CallsDIn Fence.wide 0 P d1 ⟨concL ρ (d2 ++ d3)⟩ .returning w fun e u' w' => u' = .returning ∧ ∃ ρ' v, e = .returned v ∧ R B ρ' s1.H s1.nx w' ∧ Ext w ρ s.H s.nx w' ρ' s1.H s1.nx := by
                refine callsDIn_of_wp hfn hbody trivial (wpIn_wide.2 ?_)
                refine a2 (b1.ob hob) ρ w hR hk (scL_app hsd1.1 hsd1.2) _ fun ρ' w' hR' hE' hs' => ?_
                have hr := res_run hR' hs' hu
                have hd0 : (act ρ' s1).defers = [] := by simp [act, hds]
                exact ⟨⟨hd0, _, hr.1, ρ', _, rfl, hR', hE'⟩, ⟨hd0, _, hr.1, ρ', _, rfl, hR', hE'⟩⟩
              refine hcD.mono ?_
              rintro e u' w' ⟨rfl, ρ', v, rfl, hR', hE'⟩
              show LeavesInM Fence.wide 0 P fn (s.t.arr.map (conc ρ)) R0 (l.map (concD ρ)) .returning w'
              have hl : ∀ d ∈ l, scD s.nx d := fun d hd => hsd d (by simp [hd])
              rw [map_same hE'.env hst, concD_same hE'.env hl]
              refine b3 hob ρ' w' hR' (hk.ext hR hE') (fun i => sc_mono a1.nx _ (hst i)) (fun d hd => scD_mono a1.nx _ (hl d hd)) fn R0 fun ρ2 w2 hR2 hE2 => ?_
              exact hQ ρ2 w2 hR2 (hE'.trans hE2)
          · cases h
        · cases h
      · cases h
    · cases h

theorem fn_good (hm : P.follows .mixedOrders = true) (hbz : BZOk P bz) (hf : Rk.OkF P okf) {sum : Call} {m : Nat} (hs : Good P B kn sum) : ∀ n, Good P B kn (fn P okf kn bz sum m n) := by
  intro n
  induction n with
  | zero => exact hs
  | succ n ih =>
    intro f args H nx q ob r h
    simp only [fn] at h
    split at h
    · rename_i r' hr
      cases h
      exact hs f args H nx q ob _ hr
    · split at h
      · cases h
      · rename_i g s hb
        split at h
        · cases h
        · rename_i s' hd
          split at h
          · rename_i v hv
            cases h
            obtain ⟨c, hfn, hbody, a1, a2⟩ := body0_ok (B := B) hm hbz ih hf hb
            obtain ⟨b1, b2, b3⟩ := runD_ok (B := B) hm hbz ih hf _ hd
            have go := a1.trans b1
            refine ⟨fun o => go.ob (by rwa [fin_ob] at o), fin_low go.low, fun o ρ w hR hk hsc => ?_⟩
            rw [fin_ob] at o
            refine (callsIn_wide (n := 0)).1 (callsIn_of_wp_marks hfn hbody trivial (wpIn_wide.2 ?_))
            refine a2 (b1.ob o) ρ w hR hk hsc _ fun ρ1 w1 hR1 hE1 hs1 => ?_
            have key : LeavesInM Fence.wide 0 P g (act ρ1 s).tmps (Ans B ρ H nx w (fin H nx v s')) (act ρ1 s).defers .returning w1 := by
              refine b3 o ρ1 w1 hR1 (hk.ext hR hE1) hs1.1 hs1.2 g _ fun ρ2 w2 hR2 hE2 => ?_
              have hs2 : ScS s' := ⟨fun i => by
                rw [b2.1]; exact sc_mono b1.nx _ (hs1.1 i), fun d hd => by rw [b2.2] at hd; cases hd⟩
              have hr := res_run hR2 hs2 hv
              refine ⟨conc ρ2 v, ?_, fin_ans go.low hR hR2 (hE1.trans hE2) hr.2⟩
              rw [← b2.1]; exact hr.1
            exact ⟨key, key⟩
          · cases h
end

def noSum : Call := fun _ _ _ _ _ _ => none
theorem noSum_good {P : Program} {B : Nat} {kn : Kn} : Good P B kn noSum := fun _ _ _ _ _ _ _ h => by cases h

/-- A call from nothing known but the cells of before: a plain answer. -/
theorem calls_fn {P : Program} {kn : Kn} {okf : FuncId → Bool} {bz : BZ} {sum : Call} {m n : Nat} {f : FuncId} {args : List Value} {v : Value} {q : Orc} {w : World} {r : Res} (hm : P.follows .mixedOrders = true) (hbz : BZOk P bz) (hf : Rk.OkF P okf) (hs : Good P w.heap.size kn sum)
    (h : fn P okf kn bz sum m n f args [] 0 q True = some r) (hr : r.ob) (hv : r.v = v) (hu : unt v = true) (ha : untL args = true) (hk : KnB w.heap.size kn w) :
    Calls P f ⟨args⟩ w fun e w' => e = .returned v ∧ Below w.heap.size w w' := by
  obtain ⟨_, _, h3⟩ := fn_good (m := m) hm hbz hf hs n f args [] 0 q True r h
  have := h3 hr (fun _ => ⟨0, 0, undef⟩) w ⟨Nat.le_refl _, fun k b hk => by simp [lk] at hk, fun k k' b b' hk => by simp [lk] at hk⟩ hk (scL_unt 0 args ha)
  rw [concL_unt _ _ ha] at this
  refine this.mono ?_
  rintro e w' ⟨ρ', rfl, _, _, hE⟩
  subst hv
  rw [conc_unt _ _ hu]
  exact ⟨rfl, hE.os, hE.tape, hE.output, hE.size, fun x hx => hE.fr x hx (fun k b hk => by simp [lk] at hk)⟩
end Rm
end Go.Proofs.YtpophgfjdlkgiaaGreatDoor
