/- A reckoner with memory, part 12: a region whose order is open, reckoned. -/
import Derived.Test.YtpophgfjdlkgiaaGreatDoorRmB
namespace Go.Proofs.YtpophgfjdlkgiaaGreatDoor
namespace Rm
open Go Go.RowKit
open Rk (Orc Kn)

/-! ### What each operation waits for, by bits -/
def maskOf (acc : List Nat) (l : List Edge) : Nat := l.foldl (fun s e => if Region.binds .any e = true then s ||| 2 ^ e.on ||| acc.getD e.on 0 else s) 0
def masks : List Oper → List Nat → List Nat
  | [], acc => acc
  | o :: r, acc => masks r (acc ++ [maskOf acc o.after.toList])

theorem maskOf_bit (acc : List Nat) (j : Nat) : ∀ (l : List Edge) (s : Nat), (l.foldl (fun s e => if Region.binds .any e = true then s ||| 2 ^ e.on ||| acc.getD e.on 0 else s) s).testBit j = true →
    s.testBit j = true ∨ ∃ e ∈ l, Region.binds .any e = true ∧ (e.on = j ∨ (acc.getD e.on 0).testBit j = true)
  | [], s, h => .inl h
  | e :: l, s, h => by
    rw [List.foldl_cons] at h
    rcases maskOf_bit acc j l _ h with h1 | ⟨e', h1, h2⟩
    · split at h1
      · rename_i hb
        rw [Nat.testBit_or, Nat.testBit_or, Bool.or_eq_true, Bool.or_eq_true] at h1
        rcases h1 with (h1 | h1) | h1
        · exact .inl h1
        · rw [Nat.testBit_two_pow] at h1
          exact .inr ⟨e, List.mem_cons_self .., hb, .inl (by simpa using h1)⟩
        · exact .inr ⟨e, List.mem_cons_self .., hb, .inr h1⟩
      · exact .inl h1
    · exact .inr ⟨e', List.mem_cons_of_mem _ h1, h2⟩

theorem masks_get : ∀ (l : List Oper) (acc : List Nat), (∀ i, i < acc.length → (masks l acc)[i]? = acc[i]?) ∧ (masks l acc).length = acc.length + l.length ∧
    ∀ i o, l[i]? = some o → (masks l acc).getD (acc.length + i) 0 = maskOf ((masks l acc).take (acc.length + i)) o.after.toList
  | [], acc => ⟨fun _ _ => rfl, by simp [masks], fun i o h => by simp at h⟩
  | o :: r, acc => by
    obtain ⟨h1, h2, h3⟩ := masks_get r (acc ++ [maskOf acc o.after.toList])
    rw [masks]
    have htake : (masks r (acc ++ [maskOf acc o.after.toList])).take acc.length = acc := by
      apply List.ext_getElem?
      intro i
      rw [List.getElem?_take]
      by_cases hi : i < acc.length
      · rw [if_pos hi, h1 i (by simp; omega), List.getElem?_append_left hi]
      · rw [if_neg hi, List.getElem?_eq_none (by omega)]
    refine ⟨fun i hi => ?_, by rw [h2]; simp; omega, fun i o' hi => ?_⟩
    · rw [h1 i (by simp; omega), List.getElem?_append_left hi]
    · cases i with
      | zero =>
        simp only [List.getElem?_cons_zero, Option.some.injEq] at hi
        subst hi
        rw [Nat.add_zero, htake, List.getD, h1 acc.length (by simp)]
        simp
      | succ i =>
        rw [List.getElem?_cons_succ] at hi
        have := h3 i o' hi
        simp only [List.length_append, List.length_cons, List.length_nil] at this
        rw [show acc.length + (i + 1) = acc.length + (0 + 1) + i by omega]
        exact this

def pOf (ops : Array Oper) (i j : Nat) : Bool := ((masks ops.toList []).getD i 0).testBit j

def apB (ops : Array Oper) (o : Oper) (m : Nat) : Nat → List Oper → Bool
  | _, [] => true
  | j, x :: r => (m.testBit j || Oper.apart ops x o) && apB ops o m (j + 1) r
def regL (ops : Array Oper) : List Nat → List Oper → List Oper → Nat → Bool
  | m :: ms, o :: os, done, i => (o.after.all fun e => !Region.binds .any e || Nat.blt e.on i) && apB ops o m 0 done && regL ops ms os (done ++ [o]) (i + 1)
  | _, [], _, _ => true
  | [], _ :: _, _, _ => false
/-- What is asked of the region's text. -/
def regB (ops : Array Oper) : Bool := regL ops (masks ops.toList []) ops.toList [] 0

theorem apB_ok {ops : Array Oper} {o : Oper} {m : Nat} : ∀ (l : List Oper) (j : Nat), apB ops o m j l = true → ∀ i x, l[i]? = some x → m.testBit (j + i) = false → Oper.apart ops x o = true
  | [], j, h, i, x, hx, _ => by simp at hx
  | y :: r, j, h, i, x, hx, hm => by
    simp only [apB, Bool.and_eq_true, Bool.or_eq_true] at h
    cases i with
    | zero =>
      simp only [List.getElem?_cons_zero, Option.some.injEq] at hx
      subst hx
      rcases h.1 with h1 | h1
      · rw [Nat.add_zero, h1] at hm; cases hm
      · exact h1
    | succ i =>
      rw [List.getElem?_cons_succ] at hx
      exact apB_ok r (j + 1) h.2 i x hx (by rw [show j + 1 + i = j + (i + 1) by omega]; exact hm)

theorem regL_ok {ops : Array Oper} : ∀ (os : List Oper) (ms : List Nat) (done : List Oper), regL ops ms os done done.length = true → ∀ i o, os[i]? = some o →
    (∀ e ∈ o.after, Region.binds .any e = true → e.on < done.length + i) ∧ ∀ j x, (done ++ os)[j]? = some x → j < done.length + i → (ms.getD i 0).testBit j = false → Oper.apart ops x o = true
  | [], ms, done, h, i, o, ho => by simp at ho
  | y :: r, [], done, h, i, o, ho => by simp [regL] at h
  | y :: r, m :: ms, done, h, i, o, ho => by
    simp only [regL, Bool.and_eq_true] at h
    obtain ⟨⟨h1, h2⟩, h3⟩ := h
    cases i with
    | zero =>
      simp only [List.getElem?_cons_zero, Option.some.injEq] at ho
      subst ho
      refine ⟨fun e he hb => ?_, fun j x hx hj hm => ?_⟩
      · have := Array.all_eq_true_iff_forall_mem.1 h1 e he
        rw [hb] at this
        simpa [Nat.blt_eq] using this
      · rw [List.getElem?_append_left (by omega)] at hx
        exact apB_ok done 0 h2 j x hx (by rw [Nat.zero_add]; simpa using hm)
    | succ i =>
      rw [List.getElem?_cons_succ] at ho
      have := regL_ok r ms (done ++ [y]) (by simpa using h3) i o ho
      simp only [List.length_append, List.length_cons, List.length_nil, List.append_assoc, List.cons_append, List.nil_append] at this
      refine ⟨fun e he hb => by have := this.1 e he hb; omega, fun j x hx hj hm => this.2 j x hx (by omega) (by simpa using hm)⟩

theorem stat_ok {ops : Array Oper} (h : regB ops = true) : Stat ops (pOf ops) := by
  have hr := regL_ok ops.toList (masks ops.toList []) [] h
  have hback : ∀ i o, ops[i]? = some o → ∀ e ∈ o.after, Region.binds .any e = true → e.on < i := fun i o ho e he hb => by
    have := (hr i o (by simpa using ho)).1 e he hb
    simpa using this
  refine ⟨hback, ?_, ?_⟩
  · intro L i hL hi hw
    have key : ∀ i, i < ops.size → Waits ops L i → ∀ j, pOf ops i j = true → L j = true := by
      intro i
      induction i using Nat.strongRecOn with
      | _ i ih =>
        intro hi hw j hj
        obtain ⟨_, _, h3⟩ := masks_get ops.toList []
        have := h3 i ops[i] (by simp [hi])
        simp only [List.length_nil, Nat.zero_add] at this
        unfold pOf at hj
        rw [this] at hj
        unfold maskOf at hj
        rcases maskOf_bit _ j _ 0 hj with h1 | ⟨e, he, hb, h1⟩
        · simp at h1
        · have hLe := hw ops[i] (Array.getElem?_eq_getElem hi) e (by simpa using he) hb
          rcases h1 with rfl | h1
          · exact hLe
          · have hlt := hback i ops[i] (Array.getElem?_eq_getElem hi) e (by simpa using he) hb
            have hsh := hL e.on hLe
            refine ih e.on hlt (by omega) hsh.2 j ?_
            unfold pOf
            rw [List.getD, List.getElem?_take] at h1
            rw [if_pos hlt] at h1
            exact h1
    exact key i hi hw
  · intro i j oi oj hij hoi hoj hp
    have := (hr j oj (by simpa using hoj)).2 i oi (by simpa using hoi) (by simpa using hij) hp
    obtain ⟨a1, a2, a3⟩ := Oper.apart_spec this
    exact ⟨fun d hd => ⟨a1 d hd, a2 d hd⟩, a3⟩

/-! ### The reckoning -/
abbrev RL := List (Nat × Nat × Rec)
def hinR (H0 : Heap) (m : Nat) : RL → Heap
  | [] => H0
  | (j, _, r) :: l => match m.testBit j with
    | true => match r.wr with
      | true => r.F
      | false => r.F ++ hinR H0 m l
    | false => hinR H0 m l
def hinA (H0 : Heap) : RL → Heap
  | [] => H0
  | (_, _, r) :: l => match r.wr with
    | true => r.F
    | false => r.F ++ hinA H0 l
def okWr (m : Nat) (l : RL) : Bool := l.all fun x => !x.2.2.wr || m.testBit x.1
def okMem (m : Nat) (l : RL) : Bool := l.all fun x => !x.2.2.mem || m.testBit x.1
def okAv (m : Nat) (v : Value) (F : Heap) : Nat → RL → Bool
  | _, [] => true
  | hi, (j, n, r) :: l => (!r.mem || m.testBit j || !(Nat.blt n hi) || (av n hi v && F.all fun x => x.2.av n hi)) && okAv m v F n l

/-- The one block that is written. -/
def wkO (o : Oper) (e : Operand → Value) : Nat :=
  match o.op with
  | .store _ x _ => match e x with
    | .pointer (some ⟨k, _, some 0⟩) => k + 1
    | _ => 0
  | _ => 0
theorem wkO_ok {P : Program} {okf : FuncId → Bool} {kn : Kn} {bz : BZ} {call : Call} {o : Oper} {e : Operand → Value} {H : Heap} {nx : Nat} {q : Orc} {ob : Prop} {r : Res} (h : opW P okf kn bz call o e H nx q ob = some r)
    {k k' : Nat} {b : Blk} (hw : wkO o e = k + 1) (hne : k' ≠ k) (hk : lk H k' = some b) : lk r.H k' = some b := by
  unfold wkO at hw
  split at hw
  · rename_i T x y ho
    split at hw
    · rename_i k0 off hx
      cases hw
      have hH : ∃ c, r.H = upd H k c := by
        unfold opW at h
        rw [ho] at h
        simp only at h
        unfold opSt at h
        rw [hx] at h
        simp only at h
        repeat' (split at h)
        all_goals first
          | (cases h; done)
          | (cases h; exact ⟨_, rfl⟩)
      obtain ⟨c, hc⟩ := hH
      rw [hc, lk_upd, if_neg (fun q => hne q.symm)]
      exact hk
    · cases hw
  · cases hw
/-- Loads that may still come have looked at what lies below n alone, or at another block than the one that is written. -/
def okRd (m n wk : Nat) (l : RL) : Bool := l.all fun x => Nat.ble x.2.2.rd n || m.testBit x.1 || !(Nat.beq wk 0 || Nat.beq x.2.2.rd wk)
def rdO (P : Program) (o : Oper) (e : Operand → Value) (H : Heap) : Option (Nat × Value) :=
  match o.op with
  | .load T x => match e x with
    | .pointer (some ⟨k, off, some 0⟩) => match lk H k with
      | some b => match rdB P T b off with
        | some v => some (k, v)
        | none => none
      | none => none
    | _ => none
  | _ => none
theorem rdO_ok {P : Program} {o : Oper} {e : Operand → Value} {H : Heap} {k : Nat} {v : Value} (h : rdO P o e H = some (k, v)) : ∃ b, lk H k = some b ∧ ReadC P o e k b v := by
  unfold rdO at h
  split at h
  · rename_i T x ho
    split at h
    · rename_i k' off hx
      split at h
      · rename_i b hk
        split at h
        · rename_i u hu
          simp only [Option.some.injEq, Prod.mk.injEq] at h
          obtain ⟨rfl, rfl⟩ := h
          exact ⟨b, hk, rdB_ok ho hx hu⟩
        · cases h
      · cases h
    · cases h
  · cases h

structure DS where
  t : Rk.Fr
  nx : Nat
  lo : Nat
  le : Nat
  q : Orc
  ob : Prop
  ix : Nat
  rs : RL

def mn (a b : Nat) : Nat := match Nat.ble a b with
  | true => a
  | false => b
theorem mn_le (a b : Nat) : mn a b ≤ a ∧ mn a b ≤ b := by
  unfold mn
  cases h : Nat.ble a b with
  | true => exact ⟨Nat.le_refl _, Nat.le_of_ble_eq_true h⟩
  | false =>
    have : ¬ a ≤ b := fun q => by rw [Nat.ble_eq_true_of_le q] at h; cases h
    exact ⟨by simp only []; omega, Nat.le_refl _⟩

def gOk (all : Array Oper) (t : Rk.Fr) (o : Oper) : Bool :=
  match o.guard with
  | none => true
  | some (j, _) => match (all[j]?).bind (·.dst) with
    | some d => match Nat.blt d t.n, t.get d with
      | true, .bool _ => true
      | _, _ => false
    | none => false

def drw (P : Program) (okf : FuncId → Bool) (kn : Kn) (bz : BZ) (call : Call) (all : Array Oper) (H0 : Heap) : List Nat → List Oper → DS → Option DS
  | m :: ms, o :: os, s =>
    if gOk all s.t o = true then
      if Region.wanted o (Rk.yieldedF all s.t) = true then
        if o.op.operands.toList.all okc = true then
          match opU P kn bz o (Rk.evF s.t) s.q s.ob with
          | some r => if okAv m r.v [] s.nx s.rs = true then drw P okf kn bz call all H0 ms os ⟨Rk.putF s.t o.dst r.v, s.nx, s.lo, s.le, r.q, r.ob, s.ix + 1, (s.ix, s.nx, ⟨o.dst, r.v, [], false, false, 0⟩) :: s.rs⟩ else none
          | none => if okWr m s.rs = true then
              match rdO P o (Rk.evF s.t) (hinR H0 m s.rs) with
              | some (k, v) => if (Nat.blt k s.nx && okAv m v [] s.nx s.rs) = true then drw P okf kn bz call all H0 ms os ⟨Rk.putF s.t o.dst v, s.nx, s.lo, s.le, s.q, s.ob, s.ix + 1, (s.ix, s.nx, ⟨o.dst, v, [], false, false, k + 1⟩) :: s.rs⟩ else none
              | none => match opW P okf kn bz call o (Rk.evF s.t) (hinR H0 m s.rs) s.nx s.q s.ob with
              | some r => match Nat.blt r.lo s.nx with
                | true => if (okMem m s.rs && okRd m (mn r.lo s.nx) (wkO o (Rk.evF s.t)) s.rs && Nat.ble s.nx r.nx && okAv m r.v r.H s.nx s.rs) = true then
                    drw P okf kn bz call all H0 ms os ⟨Rk.putF s.t o.dst r.v, r.nx, mn s.lo r.lo, mn s.le r.le, r.q, r.ob, s.ix + 1, (s.ix, s.nx, ⟨o.dst, r.v, r.H, true, true, 0⟩) :: s.rs⟩ else none
                | false => if (Nat.ble s.nx r.nx && okAv m r.v (keep (Nat.ble s.nx) r.H) s.nx s.rs) = true then
                    drw P okf kn bz call all H0 ms os ⟨Rk.putF s.t o.dst r.v, r.nx, s.lo, mn s.le r.le, r.q, r.ob, s.ix + 1, (s.ix, s.nx, ⟨o.dst, r.v, keep (Nat.ble s.nx) r.H, false, true, 0⟩) :: s.rs⟩ else none
              | none => none
            else none
        else none
      else drw P okf kn bz call all H0 ms os ⟨Rk.putF s.t o.dst undef, s.nx, s.lo, s.le, s.q, s.ob, s.ix + 1, (s.ix, s.nx, ⟨o.dst, undef, [], false, false, 0⟩) :: s.rs⟩
    else none
  | _, [], s => some s
  | [], _ :: _, _ => none
end Rm
end Go.Proofs.YtpophgfjdlkgiaaGreatDoor
