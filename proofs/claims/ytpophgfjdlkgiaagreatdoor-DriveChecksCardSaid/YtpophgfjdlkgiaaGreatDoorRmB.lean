/- A reckoner with memory, part 11: a region whose order is open comes to what the text's order comes to. -/
import Derived.Test.YtpophgfjdlkgiaaGreatDoorRmA
import Derived.OrdersHeld
namespace Go.Proofs.YtpophgfjdlkgiaaGreatDoor
namespace Rm
open Go Go.RowKit
open Rk (Kn)

def okc : Operand → Bool
  | .const v => unt v
  | _ => true
theorem map_getD (t : Array Value) (ρ : Env) (i : Nat) : (t.map (conc ρ)).getD i undef = conc ρ (t.getD i undef) := by
  by_cases h : i < t.size
  · simp [Array.getD, h]
  · simp only [Array.getD, Array.size_map, h, dite_false]; rfl
theorem ev_at {t : Array Value} {ρ : Env} {ds : List Deferred} {x : Operand} (h : okc x = true) : Act.eval ⟨t.map (conc ρ), ds⟩ x = conc ρ (Rk.ev t x) := by
  cases x with
  | tmp i => exact map_getD t ρ i
  | const v => exact (conc_unt ρ v h).symm
  | global g => rfl
  | func f => rfl
theorem put_map (t : Array Value) (ρ : Env) (dst : Option Tmp) (v : Value) : Rk.put (t.map (conc ρ)) dst (conc ρ v) = (Rk.put t dst v).map (conc ρ) := by
  cases dst with
  | none => rfl
  | some d => simp [Rk.put]
theorem sc_ev {n : Nat} {t : Array Value} {x : Operand} (ht : ∀ i, sc n (t.getD i undef)) (h : okc x = true) : sc n (Rk.ev t x) := by
  cases x with
  | tmp i => exact ht i
  | const v => exact sc_unt n v h
  | global g => trivial
  | func f => exact ⟨trivial, trivial⟩

section
variable {P : Program} {B : Nat} {kn : Kn} {ops : Array Oper} {p : Nat → Nat → Bool} {rc : Nat → Rec} {nxs : Nat → Nat} {T0 : Array Value} {H0 : Heap} {dsA : List Deferred}

def PureC (P : Program) (B : Nat) (kn : Kn) (o : Oper) (e : Operand → Value) (v : Value) : Prop :=
  (∀ n, (∀ x ∈ o.op.operands.toList, sc n (e x)) → sc n v) ∧
    ∀ (ρ : Env) (w : World), KnB B kn w → ∀ ev : Operand → Value, (∀ x ∈ o.op.operands.toList, ev x = conc ρ (e x)) → (execOp ev o).run P w = .ok (.value (conc ρ v)) w
def MemC (P : Program) (B : Nat) (kn : Kn) (o : Oper) (e : Operand → Value) (v : Value) (Hin rH : Heap) (n0 n1 : Nat) : Prop :=
  ∀ (ρ : Env) (w : World), R B ρ Hin n0 w → KnB B kn w → (∀ x ∈ o.op.operands.toList, sc n0 (e x)) → ∀ a : Act, (∀ x ∈ o.op.operands.toList, a.eval x = conc ρ (e x)) →
    ∀ (K : Act → World → Prop) (Q : Exit → Act → World → Prop), (∀ ρ' w', R B ρ' rH n1 w' → Ext w ρ Hin n0 w' ρ' rH n1 → sc n1 v → K (a.put o.dst (conc ρ' v)) w') → o.wp P a w K Q

/-- What one load sees. -/
def rdB (P : Program) (T : TypeId) (b : Blk) (off : Nat) : Option Value :=
  match b with
  | .row cs _ => ldL P T cs off
  | .room cs _ _ => ldL P T cs off
  | .big n f _ => match Rk.isAg P T, Rk.szOf P T with
    | some false, some _ => if off < n then some (f off) else none
    | _, _ => none
  | .snap _ _ => none
  | .dfr => none
def ReadC (P : Program) (o : Oper) (e : Operand → Value) (k : Nat) (b : Blk) (v : Value) : Prop :=
  ∀ (ρ : Env) (w : World), BAt ρ w (ρ k) b → (∀ n, b.sc n → sc n v) ∧ ∀ ev : Operand → Value, (∀ x ∈ o.op.operands.toList, ev x = conc ρ (e x)) → (execOp ev o).run P w = .ok (.value (conc ρ v)) w
theorem rdB_ok {T : TypeId} {x : Operand} {o : Oper} {e : Operand → Value} {k off : Nat} {b : Blk} {v : Value} (ho : o.op = .load T x) (hx : e x = .pointer (some ⟨k, off, some 0⟩)) (h : rdB P T b off = some v) : ReadC P o e k b v := by
  have hop : x ∈ o.op.operands.toList := by simp [ho, Op.operands]
  intro ρ w hb
  unfold rdB at h
  split at h
  · rename_i cs ty
    refine ⟨fun n hs => ldL_sc h hs, fun ev hev => exec_load ho (by rw [hev x hop, hx, conc_ptr]) (run_load (arr := ⟨concL ρ cs⟩) hb ?_)⟩
    simpa using ldL_ok (rest := []) h ρ
  · rename_i cs ty sz
    refine ⟨fun n hs => ldL_sc h hs, fun ev hev => ?_⟩
    obtain ⟨rest, n, g2, _⟩ := hb
    exact exec_load ho (by rw [hev x hop, hx, conc_ptr]) (run_load g2 (ldL_ok h ρ))
  · rename_i n f ty
    split at h
    · rename_i s hs hz
      split at h
      · rename_i hlt
        cases h
        obtain ⟨g2, gp⟩ := hb
        refine ⟨fun m _ => sc_unt _ _ (gp off).1, fun ev hev => ?_⟩
        refine exec_load ho (by rw [hev x hop, hx, conc_ptr]) (run_load g2 (.inr ⟨hs, ?_⟩))
        rw [conc_unt ρ _ (gp off).1]
        simp [hlt]
      · cases h
    · cases h
  · cases h
  · cases h

/-- What is known of the operation i. -/
structure Stp (P : Program) (B : Nat) (kn : Kn) (ops : Array Oper) (p : Nat → Nat → Bool) (rc : Nat → Rec) (nxs : Nat → Nat) (T0 : Array Value) (H0 : Heap) (i : Nat) (o : Oper) : Prop where
  op : ops[i]? = some o
  dst : (rc i).dst = o.dst
  le : nxs i ≤ nxs (i + 1)
  avo : ∀ j, j < i → (rc j).mem = true → p i j = false → nxs j < nxs (j + 1) → av (nxs j) (nxs (j + 1)) (rc i).v = true ∧ ∀ k b, lk (rc i).F k = some b → b.av (nxs j) (nxs (j + 1)) = true
  grd : ∀ j c, o.guard = some (j, c) → ∃ d b, (ops[j]?).bind (·.dst) = some d ∧ (TLn rc (fun _ => true) i T0)[d]? = some (.bool b)
  knd : (Region.wanted o (yielded ops (TLn rc (fun _ => true) i T0)) = false ∧ (rc i).v = undef ∧ (rc i).F = [] ∧ (rc i).wr = false ∧ (rc i).mem = false) ∨
    (Region.wanted o (yielded ops (TLn rc (fun _ => true) i T0)) = true ∧ (∀ x ∈ o.op.operands.toList, okc x = true) ∧
      (((rc i).F = [] ∧ (rc i).wr = false ∧ (rc i).mem = false ∧ (PureC P B kn o (Rk.ev (TLn rc (fun _ => true) i T0)) (rc i).v ∨
          ((∀ j, j < i → (rc j).wr = true → p i j = true) ∧ ∃ k b, k + 1 = (rc i).rd ∧ lk (HL rc (p i) H0 i) k = some b ∧ ReadC P o (Rk.ev (TLn rc (fun _ => true) i T0)) k b (rc i).v))) ∨
       ((rc i).mem = true ∧ (∀ j, j < i → (rc j).wr = true → p i j = true) ∧ ∃ rH, MemC P B kn o (Rk.ev (TLn rc (fun _ => true) i T0)) (rc i).v (HL rc (p i) H0 i) rH (nxs i) (nxs (i + 1)) ∧
          (((rc i).wr = true ∧ (rc i).F = rH ∧ (∀ j, j < i → (rc j).mem = true → p i j = true) ∧ ∀ j, j < i → p i j = false → ∀ k b, k + 1 = (rc j).rd → lk (HL rc (p i) H0 i) k = some b → lk (rc i).F k = some b) ∨
           ((rc i).wr = false ∧ (∀ k b, lk (rc i).F k = some b → lk rH k = some b ∧ nxs i ≤ k) ∧ (∀ k b, lk rH k = some b → nxs i ≤ k → lk (rc i).F k = some b) ∧ ∀ k b, k < nxs i → lk (HL rc (p i) H0 i) k = some b → lk rH k = some b)))))
  wm : (rc i).wr = true → (rc i).mem = true
  fm : (rc i).mem = false → (rc i).F = []

/-- What stands of the region's text. -/
structure Stat (ops : Array Oper) (p : Nat → Nat → Bool) : Prop where
  back : ∀ i o, ops[i]? = some o → ∀ e ∈ o.after, Region.binds .any e = true → e.on < i
  pre : ∀ L i, Shut ops L → i < ops.size → Waits ops L i → ∀ j, p i j = true → L j = true
  apt : ∀ i j oi oj, i < j → ops[i]? = some oi → ops[j]? = some oj → p j i = false → (∀ d, oi.dst = some d → d ∉ oj.looksAt ops ∧ oj.dst ≠ some d) ∧ (∀ d, oj.dst = some d → d ∉ oi.looksAt ops)

def Inv (B : Nat) (rc : Nat → Rec) (nxs : Nat → Nat) (T0 : Array Value) (H0 : Heap) (dsA : List Deferred) (n : Nat) (w0 : World) (ρ0 : Env) (L : Set') (a : Act) (w : World) : Prop :=
  ∃ ρ, a = ⟨(TLn rc L n T0).map (conc ρ), dsA⟩ ∧ R B ρ (HL rc L H0 n) (nxs n) w ∧ Ext w0 ρ0 H0 (nxs 0) w ρ (HL rc L H0 n) (nxs n) ∧
    ∀ j, j < n → L j = true → sc (nxs (j + 1)) (rc j).v ∧ ∀ k b, lk (rc j).F k = some b → k < nxs (j + 1) ∧ b.sc (nxs (j + 1)) ∧ ((rc j).wr = false → nxs j ≤ k)

theorem nxs_mono (hle : ∀ i, i < ops.size → nxs i ≤ nxs (i + 1)) : ∀ j i, i ≤ j → j ≤ ops.size → nxs i ≤ nxs j := by
  intro j
  induction j with
  | zero => intro i h _; rw [Nat.le_zero.1 h]; exact Nat.le_refl _
  | succ j ih =>
    intro i h hj
    by_cases e : i = j + 1
    · subst e; exact Nat.le_refl _
    · exact Nat.le_trans (ih i (by omega) (by omega)) (hle j (by omega))

/-- What an operation reads is the same whichever others have come. -/
theorem reads_eq (hst : Stat ops p) (hS : ∀ i, i < ops.size → ∃ o, Stp P B kn ops p rc nxs T0 H0 i o) {L : Set'} (hL : Shut ops L) {i : Nat} {o : Oper} (ho : ops[i]? = some o) (hi : i < ops.size) (hn : L i = false) (hw : Waits ops L i) {x : Nat} (hx : x ∈ o.looksAt ops) :
    (TLn rc L ops.size T0).getD x undef = (TLn rc (fun j => L j && decide (j < i)) i T0).getD x undef ∧ (TLn rc (fun _ => true) i T0).getD x undef = (TLn rc (fun j => L j && decide (j < i)) i T0).getD x undef := by
  have hpre := hst.pre L i hL hi hw
  have hextra : ∀ m, i ≤ m → m ≤ ops.size → (TLn rc L m T0).getD x undef = (TLn rc (fun j => L j && decide (j < i)) i T0).getD x undef := by
    intro m
    induction m with
    | zero => intro h _; have : i = 0 := by omega
              subst this; rfl
    | succ m ih =>
      intro h1 h2
      by_cases e : i = m + 1
      · subst e
        rw [TLn_congr (L := L) (L' := fun j => L j && decide (j < m + 1)) (m + 1) (fun j hj => by simp [hj])]
      · rw [TLn]
        split
        · rename_i hl
          have hmi : m ≠ i := fun q => by rw [q, hn] at hl; cases hl
          obtain ⟨om, hom⟩ := hS m (by omega)
          have hpm : p m i = false := by
            cases hq : p m i with
            | false => rfl
            | true => have := hst.pre L m hL (by omega) (hL m hl).2 i hq; rw [hn] at this; cases this
          have hap := (hst.apt i m o om (by omega) ho hom.op hpm).2
          rw [put_getD (fun q => by rw [hom.dst] at q; exact hap x q hx)]
          exact ih (by omega) (by omega)
        · exact ih (by omega) (by omega)
  refine ⟨hextra ops.size (by omega) (Nat.le_refl _), TLn_at i fun j hj hne => ?_⟩
  have hlj : L j = false := by
    cases hq : L j with
    | false => rfl
    | true => exact absurd (by simp [hq, hj]) hne
  have hpj : p i j = false := by
    cases hq : p i j with
    | false => rfl
    | true => have := hpre j hq; rw [hlj] at this; cases this
  obtain ⟨oj, hoj⟩ := hS j (by omega)
  have hap := (hst.apt j i oj o hj hoj.op ho hpj).1
  rw [hoj.dst]
  exact fun q => (hap x q).1 hx

theorem size_TLn (rc : Nat → Rec) (M : Set') (T0 : Array Value) : ∀ m, (TLn rc M m T0).size = T0.size
  | 0 => rfl
  | m + 1 => by
    rw [TLn]
    split
    · cases hq : (rc m).dst with
      | none => exact size_TLn rc M T0 m
      | some d => simp [Rk.put, size_TLn rc M T0 m]
    · exact size_TLn rc M T0 m

theorem HL_eq : ∀ (n : Nat) {L L' : Set'}, (∀ j, j < n → (rc j).mem = true → L j = L' j) → (∀ j, j < n → (rc j).mem = false → (rc j).F = [] ∧ (rc j).wr = false) → HL rc L H0 n = HL rc L' H0 n
  | 0, _, _, _, _ => rfl
  | n + 1, L, L', h1, h2 => by
    have ih := HL_eq n (fun j hj => h1 j (by omega)) (fun j hj => h2 j (by omega))
    rw [HL, HL, ih]
    cases hm : (rc n).mem with
    | true => rw [h1 n (by omega) hm]
    | false =>
      obtain ⟨e1, e2⟩ := h2 n (by omega) hm
      rw [e1, e2]
      simp

/-- What a load has looked at is there whichever others have come. -/
theorem reader_at (hst : Stat ops p) (hS : ∀ i, i < ops.size → ∃ o, Stp P B kn ops p rc nxs T0 H0 i o) {L : Set'} {i : Nat} (hL : Shut ops L) (hi : i < ops.size) (hn : L i = false) (hw : Waits ops L i)
    (hnew : ∀ j, j < ops.size → L j = true → ∀ k b, lk (rc j).F k = some b → (rc j).wr = false → nxs j ≤ k) (hwr0 : ∀ j, j < i → (rc j).wr = true → p i j = true)
    {k : Nat} {b : Blk} (hk : lk (HL rc (p i) H0 i) k = some b) (hin : ∀ m, m ≤ i → lk (HL rc (p i) H0 m) k = some b → k < nxs m) (hrd : k + 1 = (rc i).rd) : lk (HL rc L H0 ops.size) k = some b := by
  have hmono := nxs_mono (ops := ops) (nxs := nxs) (fun i hi => (hS i hi).elim fun o h => h.le)
  have hpre := hst.pre L i hL hi hw
  have key : ∀ m, m ≤ ops.size → lk (HL rc (p i) H0 (min m i)) k = some b → lk (HL rc L H0 m) k = some b := by
    intro m
    induction m with
    | zero => intro _ h; simpa [HL] using h
    | succ m ih =>
      intro hm h
      rw [HL]
      by_cases hmi : m < i
      · have e1 : min (m + 1) i = m + 1 := by omega
        have e2 : min m i = m := by omega
        rw [e1, HL] at h
        rw [e2] at ih
        by_cases hp : p i m = true
        · rw [if_pos hp] at h
          rw [if_pos (hpre m hp)]
          split
          · rename_i q; rwa [if_pos q] at h
          · rename_i q
            rw [if_neg q] at h
            rcases lk_or h with h1 | ⟨h0, h1⟩
            · rw [lk_app, h1]; rfl
            · rw [lk_app, h0]; exact ih (by omega) h1
        · rw [if_neg hp] at h
          split
          · rename_i hl
            have hnw : ¬ (rc m).wr = true := fun q => hp (hwr0 m hmi q)
            rw [if_neg hnw, lk_app]
            cases hq : lk (rc m).F k with
            | none => exact ih (by omega) h
            | some c =>
              have := hnew m (by omega) hl k c hq (by simpa using hnw)
              have := hin m (by omega) h
              omega
          · exact ih (by omega) h
      · have e1 : min (m + 1) i = i := by omega
        have e2 : min m i = i := by omega
        rw [e1] at h
        rw [e2] at ih
        have hki := hin i (Nat.le_refl _) h
        split
        · rename_i hl
          have hne : m ≠ i := fun q => by rw [q, hn] at hl; cases hl
          have hpf : p m i = false := by
            cases hq : p m i with
            | false => rfl
            | true => have := hst.pre L m hL (by omega) (hL m hl).2 i hq; rw [hn] at this; cases this
          split
          · rename_i q
            obtain ⟨om, hom⟩ := hS m (by omega)
            rcases hom.knd with ⟨_, _, _, q', _⟩ | ⟨_, _, ⟨_, q', _⟩ | ⟨_, _, _, _, ⟨_, _, q1, q2⟩ | ⟨q', _⟩⟩⟩
            · rw [q] at q'; cases q'
            · rw [q] at q'; cases q'
            · refine q2 i (by omega) hpf k b hrd ?_
              rw [HL_eq (L := p m) (L' := L) m (fun j hj hjm => by rw [q1 j hj hjm, hst.pre L m hL (by omega) (hL m hl).2 j (q1 j hj hjm)]) (fun j hj hjm => by
                obtain ⟨oj, hoj⟩ := hS j (by omega)
                refine ⟨hoj.fm hjm, ?_⟩
                cases hq : (rc j).wr with
                | false => rfl
                | true => rw [hoj.wm hq] at hjm; cases hjm)]
              exact ih (by omega) h
            · rw [q] at q'; cases q'
          · rename_i hnw
            rw [lk_app]
            cases hq : lk (rc m).F k with
            | none => exact ih (by omega) h
            | some c =>
              have := hnew m (by omega) hl k c hq (by simpa using hnw)
              have := hmono m i (by omega) (by omega)
              omega
        · exact ih (by omega) h
  exact key ops.size (Nat.le_refl _) (by rw [show min ops.size i = i by omega]; exact hk)

theorem inv_step (hst : Stat ops p) (hS : ∀ i, i < ops.size → ∃ o, Stp P B kn ops p rc nxs T0 H0 i o) (hT0 : ∀ x, sc (nxs 0) (T0.getD x undef)) {w0 : World} {ρ0 : Env} (hR0 : R B ρ0 H0 (nxs 0) w0) (hk0 : KnB B kn w0) {Q : Exit → Act → World → Prop}
    {L : Set'} {i : Nat} {a : Act} {w : World} (hL : Shut ops L) (hi : i < ops.size) (hn : L i = false) (hw : Waits ops L i) (hI : Inv B rc nxs T0 H0 dsA ops.size w0 ρ0 L a w) :
    wpOp P ops Q i (Inv B rc nxs T0 H0 dsA ops.size w0 ρ0 (addS L i)) a w := by
  obtain ⟨ρ, rfl, hR, hE, hV⟩ := hI
  obtain ⟨o, st⟩ := hS i hi
  have hk : KnB B kn w := hk0.ext hR0 hE
  have hmono := nxs_mono (ops := ops) (nxs := nxs) (fun i hi => (hS i hi).elim fun o h => h.le)
  have hm0 : nxs 0 ≤ nxs i := hmono i 0 (Nat.zero_le _) (by omega)
  have hreads := fun x hx => reads_eq hst hS hL st.op hi hn hw (x := x) hx
  have hpre := hst.pre L i hL hi hw
  -- what later ones that have come may write
  have hlater : ∀ j, i < j → j < ops.size → L j = true → p j i = false := fun j _ hj hl => by
    cases hq : p j i with
    | false => rfl
    | true => have := hst.pre L j hL hj (hL j hl).2 i hq; rw [hn] at this; cases this
  have hdst : ∀ j, i < j → j < ops.size → L j = true → ∀ x, (rc i).dst = some x → (rc j).dst ≠ some x := fun j h1 h2 h3 x hx => by
    obtain ⟨oj, hoj⟩ := hS j h2
    rw [hoj.dst]
    exact ((hst.apt i j o oj h1 st.op hoj.op (hlater j h1 h2 h3)).1 x (by rw [← st.dst]; exact hx)).2
  have hTadd : TLn rc (addS L i) ops.size T0 = Rk.put (TLn rc L ops.size T0) (rc i).dst (rc i).v := TLn_add hn ops.size hi hdst
  have hwant : Region.wanted o (yielded ops ((TLn rc L ops.size T0).map (conc ρ))) = Region.wanted o (yielded ops (TLn rc (fun _ => true) i T0)) := by
    cases hg : o.guard with
    | none => simp [Region.wanted, hg]
    | some gc =>
      obtain ⟨j, c⟩ := gc
      obtain ⟨d, b, h1, h2⟩ := st.grd j c hg
      have hd : d ∈ o.looksAt ops := by
        unfold Oper.looksAt
        rw [hg]
        simp [h1]
      obtain ⟨r1, r2⟩ := hreads d hd
      have hlt : d < T0.size := by
        have := (Array.getElem?_eq_some_iff.1 h2).1
        rwa [size_TLn] at this
      have hv : (TLn rc (fun _ => true) i T0).getD d undef = .bool b := by
        have hx : d < (TLn rc (fun _ => true) i T0).size := by rw [size_TLn]; exact hlt
        have := (Array.getElem?_eq_some_iff.1 h2).2
        simp [Array.getD, hx, this]
      have hv2 : (TLn rc L ops.size T0).getD d undef = .bool b := by rw [r1, ← r2, hv]
      have hv3 : ((TLn rc L ops.size T0).map (conc ρ))[d]? = some (.bool b) := by
        have hx : d < (TLn rc L ops.size T0).size := by rw [size_TLn]; exact hlt
        have : (TLn rc L ops.size T0)[d] = .bool b := by simpa [Array.getD, hx] using hv2
        rw [Array.getElem?_map, Array.getElem?_eq_getElem hx, this]; rfl
      simp only [Region.wanted, hg, yielded, h1, Option.bind_some, h2, hv3]
  -- what it reads
  have hopl : ∀ x ∈ o.op.operands.toList, ∀ t, x = .tmp t → t ∈ o.looksAt ops := fun x hx t ht => by
    subst ht
    unfold Oper.looksAt
    refine List.mem_append.2 (.inl (List.mem_filterMap.2 ⟨_, hx, rfl⟩))
  have hevs : ∀ x ∈ o.op.operands.toList, okc x = true → (∀ (ρ' : Env), Act.eval ⟨(TLn rc L ops.size T0).map (conc ρ'), dsA⟩ x = conc ρ' (Rk.ev (TLn rc (fun _ => true) i T0) x)) ∧ sc (nxs i) (Rk.ev (TLn rc (fun _ => true) i T0) x) := fun x hx hok => by
    have hscT : ∀ y, sc (nxs i) ((TLn rc (fun j => L j && decide (j < i)) i T0).getD y undef) := TLn_get (p := sc (nxs i)) (fun y => sc_mono hm0 _ (hT0 y)) (by show sc (nxs i) (.tuple ⟨[]⟩); trivial) i (fun j hj hl => by
      have hl' : L j = true := by
        cases hq : L j with
        | true => rfl
        | false => simp [hq] at hl
      exact sc_mono (hmono i (j + 1) hj (by omega)) _ (hV j (by omega) hl').1)
    cases x with
    | tmp t =>
      obtain ⟨r1, r2⟩ := hreads t (hopl _ hx t rfl)
      refine ⟨fun ρ' => ?_, ?_⟩
      · rw [ev_at hok]
        show conc ρ' ((TLn rc L ops.size T0).getD t undef) = conc ρ' ((TLn rc (fun _ => true) i T0).getD t undef)
        rw [r1, r2]
      · show sc (nxs i) ((TLn rc (fun _ => true) i T0).getD t undef)
        rw [r2]; exact hscT t
    | const v => exact ⟨fun ρ' => ev_at hok, sc_unt _ _ hok⟩
    | global g => exact ⟨fun ρ' => rfl, trivial⟩
    | func f => exact ⟨fun ρ' => rfl, trivial, trivial⟩
  unfold wpOp
  simp only [st.op]
  rcases st.knd with ⟨k1, k2, k3, k4, k5⟩ | ⟨k1, k2, k3⟩
  · rw [hwant, k1]
    simp only [Bool.false_eq_true, if_false]
    refine ⟨ρ, ?_, ?_, ?_, ?_⟩
    · rw [hTadd, Rk.put_act, st.dst, k2, ← put_map]; rfl
    · rw [HL_pure k3 k4]; exact hR
    · rw [HL_pure k3 k4]; exact hE
    · intro j hj hl
      by_cases e : j = i
      · subst e
        rw [k2, k3]
        exact ⟨by show sc _ (.tuple ⟨[]⟩); trivial, fun k b hb => by simp [lk] at hb⟩
      · exact hV j hj (by simp only [addS] at hl; rwa [if_neg e] at hl)
  · rw [hwant, k1]
    simp only [if_true]
    left
    have hev := fun x hx => (hevs x hx (k2 x hx)).1 ρ
    have hsc := fun x hx => (hevs x hx (k2 x hx)).2
    rcases k3 with ⟨c1, c2, c3, c4⟩ | ⟨c1, c2, rH, c3, c4⟩
    · have hval : sc (nxs i) (rc i).v ∧ (execOp (Act.eval ⟨(TLn rc L ops.size T0).map (conc ρ), dsA⟩) o).run P w = .ok (.value (conc ρ (rc i).v)) w := by
        rcases c4 with ⟨c4, c5⟩ | ⟨c4, k, b, c5, c6, c7⟩
        · exact ⟨c4 (nxs i) hsc, c5 ρ w hk _ hev⟩
        · have hKB : ∀ m, m ≤ i → ∀ k b, lk (HL rc (p i) H0 m) k = some b → k < nxs m ∧ b.sc (nxs m) := fun m hm k b hkb => by
            rcases HL_from m hkb with h | ⟨j, h1, h2, h3⟩
            · have h4 := hmono m 0 (Nat.zero_le _) (by omega)
              obtain ⟨g1, _, g3, _⟩ := hR0.mem k b h
              exact ⟨by omega, b.sc_mono h4 g3⟩
            · have h4 := hmono m (j + 1) h1 (by omega)
              obtain ⟨g1, g2, _⟩ := (hV j (by omega) (hpre j h2)).2 k b h3
              exact ⟨by omega, b.sc_mono h4 g2⟩
          have hat := reader_at hst hS hL hi hn hw (fun j hj hl k b hkb hw => ((hV j hj hl).2 k b hkb).2.2 hw) c4 c6 (fun m hm h => (hKB m hm k b h).1) c5
          obtain ⟨d1, d2⟩ := c7 ρ w (hR.mem k b hat).2.1
          exact ⟨d1 _ (hKB i (Nat.le_refl _) k b c6).2, d2 _ hev⟩
      refine Rk.wp_value hval.2 ?_
      refine ⟨ρ, ?_, ?_, ?_, ?_⟩
      · rw [hTadd, Rk.put_act, st.dst, ← put_map]
      · rw [HL_pure c1 c2]; exact hR
      · rw [HL_pure c1 c2]; exact hE
      · intro j hj hl
        by_cases e : j = i
        · subst e
          rw [c1]
          exact ⟨sc_mono st.le _ hval.1, fun k b hb => by simp [lk] at hb⟩
        · exact hV j hj (by simp only [addS] at hl; rwa [if_neg e] at hl)
    · have hwr : ∀ j, j < ops.size → L j = true → (rc j).wr = true → j < i ∧ p i j = true := fun j hj hl hjw => by
        rcases Nat.lt_trichotomy j i with h | h | h
        · exact ⟨h, c2 j h hjw⟩
        · subst h; rw [hn] at hl; cases hl
        · exfalso
          obtain ⟨oj, hoj⟩ := hS j hj
          have hpf := hlater j h hj hl
          rcases hoj.knd with ⟨_, _, _, q, _⟩ | ⟨_, _, ⟨_, q, _⟩ | ⟨_, _, _, _, ⟨_, _, q, _⟩ | ⟨q, _⟩⟩⟩
          · rw [hjw] at q; cases q
          · rw [hjw] at q; cases q
          · rw [q i h c1] at hpf; cases hpf
          · rw [hjw] at q; cases q
      have hKB : ∀ (A : Set') m, m ≤ ops.size → (∀ j, j < m → A j = true → L j = true) → ∀ k b, lk (HL rc A H0 m) k = some b → k < nxs m ∧ b.sc (nxs m) := fun A m hm hA k b hkb => by
        rcases HL_from m hkb with h | ⟨j, h1, h2, h3⟩
        · have h4 := hmono m 0 (Nat.zero_le _) hm
          obtain ⟨g1, _, g3, _⟩ := hR0.mem k b h
          exact ⟨by omega, b.sc_mono h4 g3⟩
        · have h4 := hmono m (j + 1) h1 hm
          obtain ⟨g1, g2, _⟩ := (hV j (by omega) (hA j h1 h2)).2 k b h3
          exact ⟨by omega, b.sc_mono h4 g2⟩
      have hB : ∀ k b, lk (HL rc (p i) H0 i) k = some b → lk (HL rc L H0 ops.size) k = some b := fun k b => by
        have key : ∀ m, m ≤ ops.size → lk (HL rc (p i) H0 (min m i)) k = some b → lk (HL rc L H0 m) k = some b := by
          intro m
          induction m with
          | zero => intro _ h; simpa [HL] using h
          | succ m ih =>
            intro hm h
            rw [HL]
            by_cases hmi : m < i
            · have e1 : min (m + 1) i = m + 1 := by omega
              have e2 : min m i = m := by omega
              rw [e1, HL] at h
              rw [e2] at ih
              have hlow := hKB (p i) m (by omega) (fun j hj hp => hpre j hp) k b
              by_cases hp : p i m = true
              · rw [if_pos hp] at h
                rw [if_pos (hpre m hp)]
                split
                · rename_i q; rwa [if_pos q] at h
                · rename_i q
                  rw [if_neg q] at h
                  rcases lk_or h with h1 | ⟨h0, h1⟩
                  · rw [lk_app, h1]; rfl
                  · rw [lk_app, h0]; exact ih (by omega) h1
              · rw [if_neg hp] at h
                split
                · rename_i hl
                  have hnw : ¬ (rc m).wr = true := fun q => hp (hwr m (by omega) hl q).2
                  rw [if_neg hnw, lk_app]
                  cases hq : lk (rc m).F k with
                  | none => exact ih (by omega) h
                  | some c =>
                    have := ((hV m (by omega) hl).2 k c hq).2.2 (by simpa using hnw)
                    have := (hlow h).1
                    omega
                · exact ih (by omega) h
            · have e1 : min (m + 1) i = i := by omega
              have e2 : min m i = i := by omega
              rw [e1] at h
              rw [e2] at ih
              have hlow := (hKB (p i) i (by omega) (fun j hj hp => hpre j hp) k b h).1
              split
              · rename_i hl
                have hnw : ¬ (rc m).wr = true := fun q => hmi (hwr m (by omega) hl q).1
                rw [if_neg hnw, lk_app]
                cases hq : lk (rc m).F k with
                | none => exact ih (by omega) h
                | some c =>
                  have := ((hV m (by omega) hl).2 k c hq).2.2 (by simpa using hnw)
                  have := hmono m i (by omega) (by omega)
                  omega
              · exact ih (by omega) h
        intro h
        exact key ops.size (Nat.le_refl _) (by rw [show min ops.size i = i by omega]; exact h)
      have hRin : R B ρ (HL rc (p i) H0 i) (nxs i) w := hR.sub fun k b hkb => ⟨hB k b hkb, hKB (p i) i (by omega) (fun j hj hp => hpre j hp) k b hkb⟩
      refine c3 ρ w hRin hk hsc _ hev _ Q ?_
      intro ρ' w' hR' hE' hv
      have hle := st.le
      have hin : nxs (i + 1) ≤ nxs ops.size := hmono ops.size (i + 1) hi (Nat.le_refl _)
      obtain ⟨ρ2, hρ2⟩ : ∃ ρ2 : Env, ρ2 = fun k => if nxs i ≤ k ∧ k < nxs (i + 1) then ρ' k else ρ k := ⟨_, rfl⟩
      have hs1 : Same (nxs (i + 1)) ρ' ρ2 := fun k hk => by
        rw [hρ2]
        by_cases h : nxs i ≤ k
        · simp only []; rw [if_pos ⟨h, hk⟩]
        · simp only []; rw [if_neg (fun q => h q.1)]; exact (hE'.env k (by omega)).symm
      have hs2 : ∀ k, ¬ (nxs i ≤ k ∧ k < nxs (i + 1)) → ρ k = ρ2 k := fun k hk => by rw [hρ2]; simp only []; rw [if_neg hk]
      have hconc : ∀ v : Value, (nxs i < nxs (i + 1) → av (nxs i) (nxs (i + 1)) v = true) → conc ρ v = conc ρ2 v := fun v hv => by
        by_cases h : nxs i < nxs (i + 1)
        · exact conc_out hs2 v (hv h)
        · have : ρ = ρ2 := funext fun k => hs2 k (by omega)
          rw [this]
      have hfr : (TLn rc L ops.size T0).map (conc ρ) = (TLn rc L ops.size T0).map (conc ρ2) := by
        have hall : ∀ x, (nxs i < nxs (i + 1) → av (nxs i) (nxs (i + 1)) ((TLn rc L ops.size T0).getD x undef) = true) := TLn_get (p := fun v => nxs i < nxs (i + 1) → av (nxs i) (nxs (i + 1)) v = true) (fun x _ => av_of hm0 _ (hT0 x)) (fun _ => rfl) ops.size (fun j hj hl hlt => by
          rcases Nat.lt_trichotomy j i with h | h | h
          · exact av_of (hmono i (j + 1) h (by omega)) _ (hV j hj hl).1
          · subst h; rw [hn] at hl; cases hl
          · obtain ⟨oj, hoj⟩ := hS j hj
            exact (hoj.avo i h c1 (hlater j h hj hl) hlt).1)
        apply Array.map_congr_left
        intro y hy
        obtain ⟨x, hx, rfl⟩ := Array.mem_iff_getElem.1 hy
        have := hall x
        simp only [Array.getD, hx, dif_pos] at this
        exact hconc _ this
      have hact : ((⟨(TLn rc L ops.size T0).map (conc ρ), dsA⟩ : Act).put o.dst (conc ρ' (rc i).v)) = ⟨(TLn rc (addS L i) ops.size T0).map (conc ρ2), dsA⟩ := by
        rw [Rk.put_act, hTadd, ← put_map, ← st.dst, hfr, conc_same hs1 _ hv]
      have hown2 : ∀ k b, lk rH k = some b → b.mem = true → w0.heap.size ≤ (ρ2 k).b ∨ ∃ k0 b0, lk H0 k0 = some b0 ∧ b0.mem = true ∧ (ρ0 k0).b = (ρ2 k).b := fun k b hkb hbm => by
        rw [← hs1 k (hR'.mem k b hkb).1]
        rcases hE'.own k b hkb hbm with h | ⟨k0, b0, h1, h2, h3⟩
        · exact .inl (Nat.le_trans hE.size h)
        · rw [← h3]; exact hE.own k0 b0 (hB k0 b0 h1) h2
      have henv2 : Same (nxs 0) ρ0 ρ2 := fun k hk => by rw [← hs2 k (by omega)]; exact hE.env k hk
      have hfr2 : ∀ x, x < w0.heap.size → (∀ k b, lk H0 k = some b → b.mem = true → (ρ0 k).b ≠ x) → w'.heap[x]? = w0.heap[x]? := fun x hx hnx => by
        rw [hE'.fr x (Nat.lt_of_lt_of_le hx hE.size) (fun k b hkb hbm q => by
          rcases hE.own k b (hB k b hkb) hbm with h | ⟨k0, b0, h1, h2, h3⟩
          · omega
          · exact hnx k0 b0 h1 h2 (h3.trans q)), hE.fr x hx hnx]
      have hV2 : ∀ j, j < ops.size → addS L i j = true → sc (nxs (j + 1)) (rc j).v ∧ ∀ k b, lk (rc j).F k = some b → k < nxs (j + 1) ∧ b.sc (nxs (j + 1)) ∧ ((rc j).wr = false → nxs j ≤ k) := fun j hj hl => by
        by_cases e : j = i
        · subst e
          refine ⟨hv, fun k b hkb => ?_⟩
          rcases c4 with ⟨d1, d2, _⟩ | ⟨d1, d2, _⟩
          · rw [d2] at hkb
            obtain ⟨g1, _, g3, _⟩ := hR'.mem k b hkb
            exact ⟨g1, g3, fun q => by rw [d1] at q; cases q⟩
          · obtain ⟨h1, h2⟩ := d2 k b hkb
            obtain ⟨g1, _, g3, _⟩ := hR'.mem k b h1
            exact ⟨g1, g3, fun _ => h2⟩
        · exact hV j hj (by simp only [addS] at hl; rwa [if_neg e] at hl)
      rcases c4 with ⟨d1, d2, d3⟩ | ⟨d1, d2, d3, d4⟩
      · have hHL : HL rc (addS L i) H0 ops.size = rH := by
          have key : ∀ m, i < m → m ≤ ops.size → HL rc (addS L i) H0 m = rH := by
            intro m
            induction m with
            | zero => intro h; omega
            | succ m ih =>
              intro h hm
              rw [HL]
              by_cases e : m = i
              · subst e
                rw [if_pos (by simp [addS]), if_pos d1, d2]
              · have e2 : addS L i m = L m := by simp only [addS]; rw [if_neg e]
                rw [e2]
                split
                · rename_i hl
                  obtain ⟨om, hom⟩ := hS m (by omega)
                  have hpf := hlater m (by omega) (by omega) hl
                  have hmm : (rc m).mem = false := by
                    rcases hom.knd with ⟨_, _, _, _, q⟩ | ⟨_, _, ⟨_, _, q, _⟩ | ⟨_, q, _⟩⟩
                    · exact q
                    · exact q
                    · rw [q i (by omega) d1] at hpf; cases hpf
                  have hww : ¬ (rc m).wr = true := fun q => by rw [hom.wm q] at hmm; cases hmm
                  rw [if_neg hww, hom.fm hmm, List.nil_append]
                  exact ih (by omega) (by omega)
                · exact ih (by omega) (by omega)
          exact key ops.size hi (Nat.le_refl _)
        refine ⟨ρ2, hact, ?_, ?_, hV2⟩
        · rw [hHL]; exact (hR'.same hs1).up hin
        · rw [hHL]
          exact ⟨henv2, by omega, hown2, hfr2, Nat.le_trans hE.size hE'.size, hE'.os.trans hE.os, hE'.tape.trans hE.tape, hE'.output.trans hE.output⟩
      · have hcase : ∀ k b, lk (HL rc (addS L i) H0 ops.size) k = some b → lk (rc i).F k = some b ∨ lk (HL rc L H0 ops.size) k = some b := fun k b => HL_add hn ops.size
        have hrange : ∀ k b, lk (HL rc L H0 ops.size) k = some b → ¬ (nxs i ≤ k ∧ k < nxs (i + 1)) ∧ (nxs i < nxs (i + 1) → b.av (nxs i) (nxs (i + 1)) = true) := fun k b hkb => by
          rcases HL_from ops.size hkb with h | ⟨j, h1, h2, h3⟩
          · obtain ⟨g1, _, g3, _⟩ := hR0.mem k b h
            exact ⟨by omega, fun _ => b.av_of hm0 g3⟩
          · obtain ⟨g1, g2, g3⟩ := (hV j h1 h2).2 k b h3
            rcases Nat.lt_trichotomy j i with h | h | h
            · have := hmono i (j + 1) h (by omega)
              exact ⟨by omega, fun _ => b.av_of this g2⟩
            · subst h; rw [hn] at h2; cases h2
            · have hjw : (rc j).wr = false := by
                cases hq : (rc j).wr with
                | false => rfl
                | true => have := (hwr j h1 h2 hq).1; omega
              have := hmono j (i + 1) h (by omega)
              have := g3 hjw
              obtain ⟨oj, hoj⟩ := hS j h1
              exact ⟨by omega, fun hlt => (hoj.avo i h c1 (hlater j h h1 h2) hlt).2 k b h3⟩
        have hat : ∀ k b, lk (HL rc L H0 ops.size) k = some b → BAt ρ2 w' (ρ2 k) b := fun k b hkb => by
          obtain ⟨r1, r2⟩ := hrange k b hkb
          cases hq : lk (HL rc (p i) H0 i) k with
          | some b' =>
            have hb' := hB k b' hq
            rw [hkb] at hb'
            cases hb'
            have hlow := (hKB (p i) i (by omega) (fun j hj hp => hpre j hp) k b hq).1
            obtain ⟨g1, g2, g3, g4⟩ := hR'.mem k b (d4 k b hlow hq)
            rw [← hs1 k g1]
            exact g2.same hs1 g3
          | none =>
            obtain ⟨g1, g2, g3, g4⟩ := hR.mem k b hkb
            rw [← hs2 k r1]
            have h1 : BAt ρ w' (ρ k) b := g2.heap fun hbm => hE'.fr _ (g2.lt hbm) (fun k2 b2 hk2 hb2 q => by
              have := hR.inj k2 k b2 b (hB k2 b2 hk2) hkb hb2 hbm q
              subst this
              rw [hq] at hk2; cases hk2)
            by_cases hlt : nxs i < nxs (i + 1)
            · exact h1.out hs2 (r2 hlt)
            · have : ρ = ρ2 := funext fun k => hs2 k (by omega)
              rw [← this]; exact h1
        have hR2 : R B ρ2 (HL rc (addS L i) H0 ops.size) (nxs ops.size) w' := by
          refine ⟨hR'.base, fun k b hkb => ?_, fun k k' b b' hkb hkb' hm hm' e => ?_⟩
          · rcases hcase k b hkb with h | h
            · obtain ⟨h1, h2⟩ := d2 k b h
              obtain ⟨g1, g2, g3, g4⟩ := hR'.mem k b h1
              rw [← hs1 k g1]
              exact ⟨by omega, g2.same hs1 g3, b.sc_mono hin g3, g4⟩
            · obtain ⟨g1, g2, g3, g4⟩ := hR.mem k b h
              refine ⟨g1, hat k b h, g3, ?_⟩
              rw [← hs2 k (hrange k b h).1]
              exact g4
          · -- two entries at one block
            have fresh_old : ∀ k k' b b', lk (rc i).F k = some b → lk (HL rc L H0 ops.size) k' = some b' → b.mem = true → b'.mem = true → (ρ2 k).b = (ρ2 k').b → k = k' := fun k k' b b' hkb hkb' hm hm' e => by
              exfalso
              obtain ⟨h1, h2⟩ := d2 k b hkb
              rw [← hs1 k (hR'.mem k b h1).1, ← hs2 k' (hrange k' b' hkb').1] at e
              rcases hE'.own k b h1 hm with h | ⟨k0, b0, q1, q2, q3⟩
              · have := (hR.mem k' b' hkb').2.1.lt hm'
                omega
              · have hlow := (hKB (p i) i (by omega) (fun j hj hp => hpre j hp) k0 b0 q1).1
                have hr0 := d4 k0 b0 hlow q1
                have hq := hR'.inj k0 k b0 b hr0 h1 q2 hm (by rw [← hE'.env k0 hlow]; exact q3)
                omega
            rcases hcase k b hkb with h | h <;> rcases hcase k' b' hkb' with h' | h'
            · obtain ⟨h1, _⟩ := d2 k b h
              obtain ⟨h2, _⟩ := d2 k' b' h'
              rw [← hs1 k (hR'.mem k b h1).1, ← hs1 k' (hR'.mem k' b' h2).1] at e
              exact hR'.inj k k' b b' h1 h2 hm hm' e
            · exact fresh_old k k' b b' h h' hm hm' e
            · exact (fresh_old k' k b' b h' h hm' hm e.symm).symm
            · rw [← hs2 k (hrange k b h).1, ← hs2 k' (hrange k' b' h').1] at e
              exact hR.inj k k' b b' h h' hm hm' e
        refine ⟨ρ2, hact, hR2, ?_, hV2⟩
        refine ⟨henv2, by omega, fun k b hkb hbm => ?_, hfr2, Nat.le_trans hE.size hE'.size, hE'.os.trans hE.os, hE'.tape.trans hE.tape, hE'.output.trans hE.output⟩
        rcases hcase k b hkb with h | h
        · exact hown2 k b (d2 k b h).1 hbm
        · rw [← hs2 k (hrange k b h).1]
          exact hE.own k b h hbm
end
end Rm
end Go.Proofs.YtpophgfjdlkgiaaGreatDoor
