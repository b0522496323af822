/- A reckoner with memory, part 14: a region, a row of operations, in a state. -/
import Derived.Test.YtpophgfjdlkgiaaGreatDoorRmD
import Derived.Scope
namespace Go.Proofs.YtpophgfjdlkgiaaGreatDoor
namespace Rm
open Go Go.RowKit
open Rk (Orc Kn)

/-- What is put off: a call, or the mark of a range over a function (the block of its rounds' deferred calls). -/
inductive Dfr where
  | call (f : FuncId) (args caps : List Value)
  | mark (k : Nat)
def concD (ρ : Env) : Dfr → Deferred
  | .call f args caps => ⟨.fn (.func f) ⟨concL ρ caps⟩, ⟨concL ρ args⟩⟩
  | .mark k => ⟨.collected (ρ k).b, #[]⟩
def scD (n : Nat) : Dfr → Prop
  | .call _ args caps => scL n args ∧ scL n caps
  | .mark k => k < n
theorem scD_mono {n m : Nat} (h : n ≤ m) : ∀ d : Dfr, scD n d → scD m d
  | .call _ _ _, hs => ⟨scL_mono h _ hs.1, scL_mono h _ hs.2⟩
  | .mark _, hs => Nat.lt_of_lt_of_le hs h
theorem concD_at {n : Nat} {ρ ρ' : Env} (h : Same n ρ ρ') : ∀ d : Dfr, scD n d → concD ρ d = concD ρ' d
  | .call _ _ _, hs => by simp only [concD]; rw [concL_same h _ hs.1, concL_same h _ hs.2]
  | .mark k, hs => by simp only [concD]; rw [h k hs]
structure St where
  t : Rk.Fr
  ds : List Dfr
  H : Heap
  nx : Nat
  lo : Nat
  le : Nat
  q : Orc
  ob : Prop
def act (ρ : Env) (s : St) : Act := ⟨s.t.arr.map (conc ρ), s.ds.map (concD ρ)⟩
/-- All that a state names lies below its number. -/
def ScS (s : St) : Prop := (∀ i, sc s.nx (s.t.arr.getD i undef)) ∧ ∀ d ∈ s.ds, scD s.nx d
theorem concD_same {n : Nat} {ρ ρ' : Env} (h : Same n ρ ρ') {ds : List Dfr} (hd : ∀ d ∈ ds, scD n d) : ds.map (concD ρ) = ds.map (concD ρ') :=
  List.map_congr_left fun d hdm => concD_at h d (hd d hdm)
theorem map_same {n : Nat} {ρ ρ' : Env} (h : Same n ρ ρ') {t : Array Value} (ht : ∀ i, sc n (t.getD i undef)) : t.map (conc ρ) = t.map (conc ρ') := by
  apply Array.map_congr_left
  intro y hy
  obtain ⟨x, hx, rfl⟩ := Array.mem_iff_getElem.1 hy
  have := ht x
  simp only [Array.getD, hx, dif_pos] at this
  exact conc_same h _ this
theorem sc_put {n : Nat} {t : Array Value} (ht : ∀ i, sc n (t.getD i undef)) {v : Value} (hv : sc n v) (d : Option Tmp) : ∀ i, sc n ((Rk.put t d v).getD i undef) := by
  intro i
  cases d with
  | none => exact ht i
  | some d =>
    by_cases e : d = i
    · subst e
      simp only [Rk.put]
      by_cases hd : d < t.size
      · simpa [Array.getD, hd] using hv
      · have := ht d
        simpa [Array.getD, hd] using this
    · rw [put_getD (by simpa using e)]; exact ht i

section
variable {P : Program} {B : Nat} {kn : Kn} {okf : FuncId → Bool} {bz : BZ} {call : Call}

/-- What one state's run to another one shows. -/
structure Go1 (s s' : St) : Prop where
  ob : s'.ob → s.ob
  nx : s.nx ≤ s'.nx
  lo : s'.lo ≤ s.lo
  low : ∀ k b, k < s'.lo → k < s.nx → lk s.H k = some b → lk s'.H k = some b
theorem Go1.refl (s : St) : Go1 s s := ⟨id, Nat.le_refl _, Nat.le_refl _, fun _ _ _ _ h => h⟩
theorem Go1.trans {s s1 s2 : St} (h : Go1 s s1) (g : Go1 s1 s2) : Go1 s s2 :=
  ⟨fun x => h.ob (g.ob x), Nat.le_trans h.nx g.nx, Nat.le_trans g.lo h.lo, fun k b h1 h2 h3 => g.low k b h1 (by have := h.nx; omega) (h.low k b (by have := g.lo; omega) h2 h3)⟩

/-- What holds behind: from (ρ, w, s) to s'. -/
def Post (B : Nat) (s : St) (ρ : Env) (w : World) (s' : St) (Q : Act → World → Prop) : Prop :=
  ∀ ρ' w', R B ρ' s'.H s'.nx w' → Ext w ρ s.H s.nx w' ρ' s'.H s'.nx → ScS s' → Q (act ρ' s') w'

/-! ### A region whose order is open -/
def regD (P : Program) (okf : FuncId → Bool) (kn : Kn) (bz : BZ) (call : Call) (all : Array Oper) (s : St) : Option St :=
  if regB all = true then
    match drw P okf kn bz call all s.H (masks all.toList []) all.toList ⟨s.t, s.nx, s.nx, s.le, s.q, s.ob, 0, []⟩ with
    | some d => if Nat.ble s.nx d.nx = true then some ⟨d.t, s.ds, hinA s.H d.rs, d.nx, mn s.lo d.lo, d.le, d.q, d.ob⟩ else none
    | none => none
  else none

theorem drw_wi {all : Array Oper} {H0 : Heap} : ∀ (os : List Oper) (ms : List Nat) (s sF : DS), drw P okf kn bz call all H0 ms os s = some sF → WI s.rs s.ix → WI sF.rs sF.ix
  | [], ms, s, sF, h, hw => by
    have : sF = s := by cases ms <;> simp only [drw, Option.some.injEq] at h <;> exact h.symm
    subst this; exact hw
  | o :: os, [], s, sF, h, _ => by simp [drw] at h
  | o :: os, m :: ms, s, sF, h, hw => by
    simp only [drw] at h
    repeat' (split at h)
    all_goals first
      | (cases h; done)
      | exact drw_wi os ms _ sF h ⟨rfl, hw⟩

theorem low_reg {all : Array Oper} {H0 : Heap} {rc : Nat → Rec} {nxs : Nat → Nat} {lo : Nat} (n : Nat)
    (hlow : ∀ i, i < n → (rc i).wr = true → (∀ j, j < i → (rc j).wr = true → pOf all i j = true) ∧ ∀ k b, k < lo → k < nxs i → lk (HL rc (pOf all i) H0 i) k = some b → lk (rc i).F k = some b)
    (hnew : ∀ i, i < n → nxs i ≤ nxs (i + 1) ∧ ((rc i).wr = false → ∀ k b, lk (rc i).F k = some b → nxs i ≤ k)) (k : Nat) (b : Blk) (h1 : k < lo) (h2 : k < nxs 0) (h3 : lk H0 k = some b) :
    ∀ i, i ≤ n → ∀ A : Set', (∀ j, j < i → (rc j).wr = true → A j = true) → lk (HL rc A H0 i) k = some b := by
  have hm : ∀ i, i ≤ n → nxs 0 ≤ nxs i := by
    intro i
    induction i with
    | zero => intro _; exact Nat.le_refl _
    | succ i ih => intro hi; exact Nat.le_trans (ih (by omega)) (hnew i (by omega)).1
  intro i
  induction i with
  | zero => intro _ A _; exact h3
  | succ i ih =>
    intro hi A hA
    rw [HL]
    split
    · split
      · rename_i hw
        obtain ⟨g1, g2⟩ := hlow i (by omega) hw
        exact g2 k b h1 (by have := hm i (by omega); omega) (ih (by omega) _ g1)
      · rename_i hw
        rw [lk_app]
        cases hq : lk (rc i).F k with
        | none => exact ih (by omega) A (fun j hj => hA j (by omega))
        | some c =>
          have := (hnew i (by omega)).2 (by simpa using hw) k c hq
          have := hm i (by omega)
          omega
    · exact ih (by omega) A (fun j hj => hA j (by omega))

theorem regD_ok (hm : P.follows .mixedOrders = true) (hbz : BZOk P bz) (hg : Good P B kn call) (hf : Rk.OkF P okf) {all : Array Oper} {s s' : St} (h : regD P okf kn bz call all s = some s') :
    Go1 s s' ∧ (s'.ob → ∀ ρ w, R B ρ s.H s.nx w → KnB B kn w → ScS s → ∀ (id : Nat) (Q : Exit → Act → World → Prop), Post B s ρ w s' (Q .normal) → (Code.region id all true).wp P Q (act ρ s) w) := by
  unfold regD at h
  split at h
  · rename_i hreg
    split at h
    · rename_i d hd
      split at h
      · rename_i hnx
        cases h
        have hst := stat_ok hreg
        obtain ⟨rc, nxs, hc⟩ := comp_ex d.rs d.ix d.nx (drw_wi _ _ _ _ hd rfl)
        have hok := drw_ok (B := B) (T0 := s.t.arr) hbz hg hf _ _ _ _ hd hc (by simp) (by simp)
        have hix : d.ix = all.size := by have := hok.ix; simpa using this
        have hn0 : nxs 0 = s.nx := by have := hok.comp; exact this.2
        have hnF : nxs all.size = d.nx := by rw [← hix]; exact hc.nx
        obtain ⟨hfr, hS⟩ := hok.fr rfl
        have hA := hinA_eq s.H hc
        have hlow : ∀ i, i < d.ix → (rc i).wr = true → _ := fun i hi hw => hok.low i (Nat.zero_le _) hi hw
        have hnew := fun i (hi : i < d.ix) => hok.new i (Nat.zero_le _) hi
        refine ⟨⟨hok.ob, Nat.le_of_ble_eq_true hnx, (mn_le _ _).1, fun k b h1 h2 h3 => ?_⟩, fun hob ρ w hR hk hsc id Q hQ => ?_⟩
        · show lk (hinA s.H d.rs) k = some b
          rw [hA]
          exact low_reg d.ix hlow hnew k b (Nat.lt_of_lt_of_le h1 (mn_le _ _).2) (by rw [hn0]; exact h2) h3 d.ix (Nat.le_refl _) _ (fun _ _ _ => rfl)
        · refine wp_region_any hm ?_
          have hS' : ∀ i, i < all.size → ∃ o, Stp P B kn all (pOf all) rc nxs s.t.arr s.H i o := fun i hi => hS hob i (Nat.zero_le _) (by rw [hix]; exact hi)
          have hmono := nxs_mono (ops := all) (nxs := nxs) (fun i hi => (hS' i hi).elim fun o h => h.le)
          have hT0 : ∀ x, sc (nxs 0) (s.t.arr.getD x undef) := fun x => by rw [hn0]; exact hsc.1 x
          have hR0 : R B ρ s.H (nxs 0) { w with drawn := w.drawn + 1 } := by rw [hn0]; exact hR.drew _
          have hk0 : KnB B kn { w with drawn := w.drawn + 1 } := hk
          have hf0 : asS (Array.replicate all.size false) = fun _ => false := by
            funext j
            unfold asS
            by_cases hj : j < all.size <;> simp [Array.getD, hj]
          have hTL : ∀ n, TLn rc (fun _ => false) n s.t.arr = s.t.arr := by
            intro n
            induction n with
            | zero => rfl
            | succ n ih => rw [TLn, if_neg (by simp)]; exact ih
          have hHL : ∀ n, HL rc (fun _ => false) s.H n = s.H := by
            intro n
            induction n with
            | zero => rfl
            | succ n ih => rw [HL, if_neg (by simp)]; exact ih
          refine wpAny_inv (I := Inv B rc nxs s.t.arr s.H (s.ds.map (concD ρ)) all.size { w with drawn := w.drawn + 1 } ρ) hst.back (fun L i a w2 hL hi hn hw hI => inv_step hst hS' hT0 hR0 hk0 hL hi hn hw hI) ?_ all.size _ _ _ (by simp) ?_ (by simp) ?_
          · rintro L a w2 hall ⟨ρ2, rfl, hR2, hE2, hV2⟩
            have e1 : TLn rc L all.size s.t.arr = TLn rc (fun _ => true) all.size s.t.arr := TLn_congr _ (fun j hj => hall j hj)
            have e2 : HL rc L s.H all.size = HL rc (fun _ => true) s.H all.size := HL_congr _ (fun j hj => hall j hj)
            rw [hix] at hfr hA
            rw [e1, ← hfr]
            rw [e2, ← hA, hnF] at hR2 hE2
            rw [hn0] at hE2
            have hds : ∀ dd ∈ s.ds, scD d.nx dd := fun dd hdd => scD_mono (Nat.le_of_ble_eq_true hnx) _ (hsc.2 dd hdd)
            have hact : (⟨d.t.arr.map (conc ρ2), s.ds.map (concD ρ)⟩ : Act) = act ρ2 ⟨d.t, s.ds, hinA s.H d.rs, d.nx, mn s.lo d.lo, d.le, d.q, d.ob⟩ := by
              simp only [act]
              rw [concD_same hE2.env hsc.2]
            rw [hact]
            refine hQ ρ2 w2 hR2 ?_ ⟨fun x => ?_, hds⟩
            · exact ⟨hE2.env, hE2.nxle, hE2.own, hE2.fr, hE2.size, hE2.os, hE2.tape, hE2.output⟩
            · show sc d.nx (d.t.arr.getD x undef)
              rw [hfr]
              exact TLn_get (p := sc d.nx) (fun y => sc_mono (Nat.le_of_ble_eq_true hnx) _ (hsc.1 y)) (by show sc d.nx (.tuple ⟨[]⟩); trivial) all.size (fun j hj _ => by
                have := (hV2 j hj (hall j hj)).1
                exact sc_mono (by rw [← hnF]; exact hmono all.size (j + 1) hj (Nat.le_refl _)) _ this) x
          · rw [hf0]; intro i hi; cases hi
          · rw [hf0]
            refine ⟨ρ, ?_, ?_, ?_, fun j _ hl => by cases hl⟩
            · rw [hTL]; rfl
            · rw [hHL, hnF]; exact (hR.drew _).up (Nat.le_of_ble_eq_true hnx)
            · rw [hHL, hn0, hnF]
              have h0 := Ext.refl { w with drawn := w.drawn + 1 } ρ s.H s.nx
              exact ⟨h0.env, Nat.le_of_ble_eq_true hnx, h0.own, h0.fr, h0.size, h0.os, h0.tape, h0.output⟩
      · cases h
    · cases h
  · cases h
end
end Rm
end Go.Proofs.YtpophgfjdlkgiaaGreatDoor
