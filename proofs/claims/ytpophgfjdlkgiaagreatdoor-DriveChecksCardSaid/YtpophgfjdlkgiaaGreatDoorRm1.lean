/- A reckoner with memory, part 1: values whose addresses are numbers of one's own, blocks, what a world holds of them, what is left as it was. -/
import Derived.Test.YtpophgfjdlkgiaaGreatDoorRk
import Derived.Laws.AppendOwn
namespace Go.Proofs.YtpophgfjdlkgiaaGreatDoor
namespace Rm
open Go Go.RowKit

/-- Where a number of one's own lies in the world: a block, how many elements there is room for, a value that was taken whole. -/
structure Ent where
  b : Nat
  cap : Nat
  val : Value
abbrev Env := Nat → Ent

def cP (ρ : Env) : Option Addr → Value
  | some ⟨k, o, some t⟩ => if t = 2 then (ρ k).val else .pointer (some ⟨(ρ k).b, o, none⟩)
  | a => .pointer a
def cS (ρ : Env) : Option Addr → Nat → Nat → Value
  | some ⟨k, o, some t⟩, n, c => .slice (some ⟨(ρ k).b, o, none⟩) n (if t = 1 then (ρ k).cap - c else c)
  | a, n, c => .slice a n c

mutual
/-- The value as it stands in the world. -/
def conc (ρ : Env) : Value → Value
  | .bool b => .bool b
  | .int k n => .int k n
  | .float k n => .float k n
  | .complex k a b => .complex k a b
  | .string s => .string s
  | .pointer a => cP ρ a
  | .slice a n c => cS ρ a n c
  | .map r => .map r
  | .chan r => .chan r
  | .func fn ⟨xs⟩ ⟨ys⟩ => .func fn ⟨concL ρ xs⟩ ⟨concL ρ ys⟩
  | .nilFunc => .nilFunc
  | .iface t v => .iface t (conc ρ v)
  | .nilIface => .nilIface
  | .agg ⟨cs⟩ => .agg ⟨concL ρ cs⟩
  | .tuple ⟨vs⟩ => .tuple ⟨concL ρ vs⟩
def concL (ρ : Env) : List Value → List Value
  | [] => []
  | v :: r => conc ρ v :: concL ρ r
end

mutual
/-- A value without a number of one's own. -/
def unt : Value → Bool
  | .bool _ => true
  | .int _ _ => true
  | .float _ _ => true
  | .complex _ _ _ => true
  | .string _ => true
  | .pointer a => match a with
    | some ⟨_, _, some _⟩ => false
    | _ => true
  | .slice a _ _ => match a with
    | some ⟨_, _, some _⟩ => false
    | _ => true
  | .map _ => true
  | .chan _ => true
  | .func _ ⟨xs⟩ ⟨ys⟩ => untL xs && untL ys
  | .nilFunc => true
  | .iface _ v => unt v
  | .nilIface => true
  | .agg ⟨cs⟩ => untL cs
  | .tuple ⟨vs⟩ => untL vs
def untL : List Value → Bool
  | [] => true
  | v :: r => unt v && untL r
end

def scA (n : Nat) : Option Addr → Prop
  | some ⟨k, _, some _⟩ => k < n
  | _ => True
mutual
/-- All its own numbers lie below n. -/
def sc (n : Nat) : Value → Prop
  | .bool _ => True
  | .int _ _ => True
  | .float _ _ => True
  | .complex _ _ _ => True
  | .string _ => True
  | .pointer a => scA n a
  | .slice a _ _ => scA n a
  | .map _ => True
  | .chan _ => True
  | .func _ ⟨xs⟩ ⟨ys⟩ => scL n xs ∧ scL n ys
  | .nilFunc => True
  | .iface _ v => sc n v
  | .nilIface => True
  | .agg ⟨cs⟩ => scL n cs
  | .tuple ⟨vs⟩ => scL n vs
def scL (n : Nat) : List Value → Prop
  | [] => True
  | v :: r => sc n v ∧ scL n r
end

theorem concL_map (ρ : Env) : ∀ l, concL ρ l = l.map (conc ρ)
  | [] => rfl
  | v :: r => by rw [concL, concL_map ρ r]; rfl
theorem scL_all (n : Nat) : ∀ l, scL n l ↔ ∀ v ∈ l, sc n v
  | [] => by simp [scL]
  | v :: r => by rw [scL, scL_all n r]; simp
theorem untL_all : ∀ l, untL l = true ↔ ∀ v ∈ l, unt v = true
  | [] => by simp [untL]
  | v :: r => by rw [untL, Bool.and_eq_true, untL_all r]; simp

theorem cP_unt (ρ : Env) (a : Option Addr) (h : unt (.pointer a) = true) : cP ρ a = .pointer a := by
  rcases a with _ | ⟨k, o, _ | t⟩
  · rfl
  · rfl
  · simp [unt] at h
theorem cS_unt (ρ : Env) (a : Option Addr) (n c : Nat) (h : unt (.slice a n c) = true) : cS ρ a n c = .slice a n c := by
  rcases a with _ | ⟨k, o, _ | t⟩
  · rfl
  · rfl
  · simp [unt] at h

mutual
theorem conc_unt (ρ : Env) : ∀ v : Value, unt v = true → conc ρ v = v
  | .bool _, _ => rfl
  | .int _ _, _ => rfl
  | .float _ _, _ => rfl
  | .complex _ _ _, _ => rfl
  | .string _, _ => rfl
  | .pointer a, h => cP_unt ρ a h
  | .slice a n c, h => cS_unt ρ a n c h
  | .map _, _ => rfl
  | .chan _, _ => rfl
  | .func fn ⟨xs⟩ ⟨ys⟩, h => by
    rw [unt, Bool.and_eq_true] at h
    rw [conc, concL_unt ρ xs h.1, concL_unt ρ ys h.2]
  | .nilFunc, _ => rfl
  | .iface t v, h => by
    rw [unt] at h
    rw [conc, conc_unt ρ v h]
  | .nilIface, _ => rfl
  | .agg ⟨cs⟩, h => by
    rw [unt] at h
    rw [conc, concL_unt ρ cs h]
  | .tuple ⟨vs⟩, h => by
    rw [unt] at h
    rw [conc, concL_unt ρ vs h]
theorem concL_unt (ρ : Env) : ∀ l : List Value, untL l = true → concL ρ l = l
  | [], _ => rfl
  | v :: r, h => by
    rw [untL, Bool.and_eq_true] at h
    rw [concL, conc_unt ρ v h.1, concL_unt ρ r h.2]
end

theorem scA_unt (n : Nat) (a : Option Addr) (h : unt (.pointer a) = true) : scA n a := by
  rcases a with _ | ⟨k, o, _ | t⟩
  · trivial
  · trivial
  · simp [unt] at h

mutual
theorem sc_unt (n : Nat) : ∀ v : Value, unt v = true → sc n v
  | .bool _, _ => trivial
  | .int _ _, _ => trivial
  | .float _ _, _ => trivial
  | .complex _ _ _, _ => trivial
  | .string _, _ => trivial
  | .pointer a, h => scA_unt n a h
  | .slice a _ _, h => scA_unt n a h
  | .map _, _ => trivial
  | .chan _, _ => trivial
  | .func fn ⟨xs⟩ ⟨ys⟩, h => by
    rw [unt, Bool.and_eq_true] at h
    exact ⟨scL_unt n xs h.1, scL_unt n ys h.2⟩
  | .nilFunc, _ => trivial
  | .iface t v, h => by
    rw [unt] at h
    exact sc_unt n v h
  | .nilIface, _ => trivial
  | .agg ⟨cs⟩, h => by
    rw [unt] at h
    exact scL_unt n cs h
  | .tuple ⟨vs⟩, h => by
    rw [unt] at h
    exact scL_unt n vs h
theorem scL_unt (n : Nat) : ∀ l : List Value, untL l = true → scL n l
  | [], _ => trivial
  | v :: r, h => by
    rw [untL, Bool.and_eq_true] at h
    exact ⟨sc_unt n v h.1, scL_unt n r h.2⟩
end

/-- Two environments that are the same below n. -/
def Same (n : Nat) (ρ ρ' : Env) : Prop := ∀ k, k < n → ρ k = ρ' k
theorem Same.refl (n : Nat) (ρ : Env) : Same n ρ ρ := fun _ _ => rfl
theorem Same.mono {n m : Nat} {ρ ρ' : Env} (h : Same n ρ ρ') (hm : m ≤ n) : Same m ρ ρ' := fun k hk => h k (by omega)

theorem cP_same {n : Nat} {ρ ρ' : Env} (h : Same n ρ ρ') (a : Option Addr) (hs : scA n a) : cP ρ a = cP ρ' a := by
  rcases a with _ | ⟨k, o, _ | t⟩
  · rfl
  · rfl
  · simp only [cP, h k hs]
theorem cS_same {n : Nat} {ρ ρ' : Env} (h : Same n ρ ρ') (a : Option Addr) (m c : Nat) (hs : scA n a) : cS ρ a m c = cS ρ' a m c := by
  rcases a with _ | ⟨k, o, _ | t⟩
  · rfl
  · rfl
  · simp only [cS, h k hs]
mutual
theorem conc_same {n : Nat} {ρ ρ' : Env} (h : Same n ρ ρ') : ∀ v : Value, sc n v → conc ρ v = conc ρ' v
  | .bool _, _ => rfl
  | .int _ _, _ => rfl
  | .float _ _, _ => rfl
  | .complex _ _ _, _ => rfl
  | .string _, _ => rfl
  | .pointer a, hs => cP_same h a hs
  | .slice a m c, hs => cS_same h a m c hs
  | .map _, _ => rfl
  | .chan _, _ => rfl
  | .func fn ⟨xs⟩ ⟨ys⟩, hs => by
    rw [sc] at hs
    rw [conc, conc, concL_same h xs hs.1, concL_same h ys hs.2]
  | .nilFunc, _ => rfl
  | .iface t v, hs => by
    rw [sc] at hs
    rw [conc, conc, conc_same h v hs]
  | .nilIface, _ => rfl
  | .agg ⟨cs⟩, hs => by
    rw [sc] at hs
    rw [conc, conc, concL_same h cs hs]
  | .tuple ⟨vs⟩, hs => by
    rw [sc] at hs
    rw [conc, conc, concL_same h vs hs]
theorem concL_same {n : Nat} {ρ ρ' : Env} (h : Same n ρ ρ') : ∀ l : List Value, scL n l → concL ρ l = concL ρ' l
  | [], _ => rfl
  | v :: r, hs => by
    rw [scL] at hs
    rw [concL, concL, conc_same h v hs.1, concL_same h r hs.2]
end

theorem scA_mono {n m : Nat} (h : n ≤ m) (a : Option Addr) (hs : scA n a) : scA m a := by
  rcases a with _ | ⟨k, o, _ | t⟩
  · trivial
  · trivial
  · simp only [scA] at hs ⊢; omega
mutual
theorem sc_mono {n m : Nat} (h : n ≤ m) : ∀ v : Value, sc n v → sc m v
  | .bool _, _ => trivial
  | .int _ _, _ => trivial
  | .float _ _, _ => trivial
  | .complex _ _ _, _ => trivial
  | .string _, _ => trivial
  | .pointer a, hs => scA_mono h a hs
  | .slice a _ _, hs => scA_mono h a hs
  | .map _, _ => trivial
  | .chan _, _ => trivial
  | .func _ ⟨xs⟩ ⟨ys⟩, hs => ⟨scL_mono h xs hs.1, scL_mono h ys hs.2⟩
  | .nilFunc, _ => trivial
  | .iface _ v, hs => sc_mono h v hs
  | .nilIface, _ => trivial
  | .agg ⟨cs⟩, hs => scL_mono h cs hs
  | .tuple ⟨vs⟩, hs => scL_mono h vs hs
theorem scL_mono {n m : Nat} (h : n ≤ m) : ∀ l : List Value, scL n l → scL m l
  | [], _ => trivial
  | v :: r, hs => ⟨sc_mono h v hs.1, scL_mono h r hs.2⟩
end

/-! ### Blocks -/
inductive Blk where
  | row (cs : List Value) (ty : TypeId)
  | room (cs : List Value) (ty : TypeId) (sz : Nat)
  | big (n : Nat) (f : Nat → Value) (ty : TypeId)
  | snap (n : Nat) (f : Nat → Value)
  /-- The block of the rounds' deferred calls: none. -/
  | dfr

def Blk.mem : Blk → Bool
  | .snap _ _ => false
  | _ => true
def Blk.sc (n : Nat) : Blk → Prop
  | .row cs _ => scL n cs
  | .room cs _ _ => scL n cs
  | _ => True
def plainF (f : Nat → Value) : Prop := ∀ j, unt (f j) = true ∧ (f j).oneCell' = true

/-- What the world holds at an entry. -/
def BAt (ρ : Env) (w : World) (e : Ent) : Blk → Prop
  | .row cs ty => w.heap[e.b]? = some (.cells ⟨concL ρ cs⟩ ty (0, 0))
  | .room cs ty sz => ∃ rest n, w.heap[e.b]? = some (.cells ⟨concL ρ cs ++ rest⟩ ty (0, 0)) ∧ (concL ρ cs ++ rest).length = e.cap * sz ∧ cs.length = n * sz ∧ n ≤ e.cap ∧ e.cap ≤ maxLen
  | .big n f ty => w.heap[e.b]? = some (.cells ⟨(List.range n).map f⟩ ty (0, 0)) ∧ plainF f
  | .snap n f => e.val = .agg ⟨(List.range n).map f⟩ ∧ plainF f
  | .dfr => w.heap[e.b]? = some (.deferred (some []))

theorem BAt.lt {ρ : Env} {w : World} {e : Ent} {b : Blk} (h : BAt ρ w e b) (hm : b.mem = true) : e.b < w.heap.size := by
  cases b with
  | row cs ty => exact (Array.getElem?_eq_some_iff.1 h).1
  | room cs ty sz => obtain ⟨_, _, h, _⟩ := h; exact (Array.getElem?_eq_some_iff.1 h).1
  | big n f ty => exact (Array.getElem?_eq_some_iff.1 h.1).1
  | snap n f => cases hm
  | dfr => exact (Array.getElem?_eq_some_iff.1 h).1

theorem BAt.same {n : Nat} {ρ ρ' : Env} {w : World} {e : Ent} {b : Blk} (h : BAt ρ w e b) (hs : Same n ρ ρ') (hb : b.sc n) : BAt ρ' w e b := by
  cases b with
  | row cs ty =>
    show w.heap[e.b]? = some (.cells ⟨concL ρ' cs⟩ ty (0, 0))
    rw [← concL_same hs cs hb]; exact h
  | room cs ty sz =>
    obtain ⟨rest, n, h1, h2, h3⟩ := h
    exact ⟨rest, n, by rw [← concL_same hs cs hb]; exact h1, by rw [← concL_same hs cs hb]; exact h2, h3⟩
  | big n f ty => exact h
  | snap n f => exact h
  | dfr => exact h

theorem BAt.heap {ρ : Env} {w w' : World} {e : Ent} {b : Blk} (h : BAt ρ w e b) (hh : b.mem = true → w'.heap[e.b]? = w.heap[e.b]?) : BAt ρ w' e b := by
  cases b with
  | row cs ty => exact (hh rfl).trans h
  | room cs ty sz =>
    obtain ⟨rest, n, h1, h2⟩ := h
    exact ⟨rest, n, (hh rfl).trans h1, h2⟩
  | big n f ty => exact ⟨(hh rfl).trans h.1, h.2⟩
  | snap n f => exact h
  | dfr => exact (hh rfl).trans h

/-! ### The memory that is known -/
abbrev Heap := List (Nat × Blk)
def lk : Heap → Nat → Option Blk
  | [], _ => none
  | (j, b) :: r, k => match Nat.beq j k with
    | true => some b
    | false => lk r k
def upd : Heap → Nat → Blk → Heap
  | [], k, b => [(k, b)]
  | (j, c) :: r, k, b => match Nat.beq j k with
    | true => (j, b) :: r
    | false => (j, c) :: upd r k b
def del : Heap → Nat → Heap
  | [], _ => []
  | (j, c) :: r, k => match Nat.beq j k with
    | true => del r k
    | false => (j, c) :: del r k
/-- The entries at the numbers that p takes. -/
def keep (p : Nat → Bool) : Heap → Heap
  | [] => []
  | (j, c) :: r => match p j with
    | true => (j, c) :: keep p r
    | false => keep p r

theorem beq_iff (j k : Nat) : (Nat.beq j k = true ↔ j = k) := ⟨Nat.eq_of_beq_eq_true, fun h => by subst h; exact Nat.beq_refl j⟩
theorem beq_no {j k : Nat} (h : j ≠ k) : Nat.beq j k = false := by
  cases hb : Nat.beq j k with
  | false => rfl
  | true => exact absurd (Nat.eq_of_beq_eq_true hb) h

theorem lk_cons (j : Nat) (b : Blk) (r : Heap) (k : Nat) : lk ((j, b) :: r) k = if j = k then some b else lk r k := by
  by_cases h : j = k
  · subst h; simp [lk]
  · simp [lk, beq_no h, h]
theorem lk_upd : ∀ (H : Heap) (k : Nat) (b : Blk) (j : Nat), lk (upd H k b) j = if k = j then some b else lk H j
  | [], k, b, j => by rw [upd, lk_cons]
  | (i, c) :: r, k, b, j => by
    rw [upd]
    by_cases h : i = k
    · subst h
      rw [(beq_iff i i).2 rfl]
      simp only [lk_cons]
      split <;> rfl
    · rw [beq_no h]
      simp only [lk_cons, lk_upd r k b j]
      by_cases h2 : i = j
      · subst h2
        rw [if_pos rfl, if_neg (fun e => h e.symm), if_pos rfl]
      · rw [if_neg h2, if_neg h2]
theorem lk_del : ∀ (H : Heap) (k j : Nat), lk (del H k) j = if k = j then none else lk H j
  | [], k, j => by rw [del, lk]; simp
  | (i, c) :: r, k, j => by
    rw [del]
    by_cases h : i = k
    · subst h
      rw [(beq_iff i i).2 rfl]
      simp only [lk_del r i j, lk_cons]
      by_cases h2 : i = j
      · rw [if_pos h2, if_pos h2]
      · rw [if_neg h2, if_neg h2, if_neg h2]
    · rw [beq_no h]
      simp only [lk_cons, lk_del r k j]
      by_cases h2 : i = j
      · subst h2
        rw [if_pos rfl, if_neg (fun e => h e.symm), if_pos rfl]
      · rw [if_neg h2, if_neg h2]
theorem lk_keep (p : Nat → Bool) : ∀ (H : Heap) (j : Nat), lk (keep p H) j = if p j = true then lk H j else none
  | [], j => by rw [keep, lk]; simp
  | (i, c) :: r, j => by
    rw [keep]
    cases hp : p i with
    | true =>
      simp only [lk_cons, lk_keep p r j]
      by_cases h2 : i = j
      · subst h2
        rw [if_pos rfl, if_pos hp, if_pos rfl]
      · rw [if_neg h2, if_neg h2]
    | false =>
      simp only [lk_cons, lk_keep p r j]
      by_cases h2 : i = j
      · subst h2
        rw [hp]; simp
      · rw [if_neg h2]
theorem lk_app : ∀ (A B : Heap) (j : Nat), lk (A ++ B) j = (lk A j).or (lk B j)
  | [], B, j => by simp [lk]
  | (i, c) :: r, B, j => by
    rw [List.cons_append, lk_cons, lk_cons, lk_app r B j]
    split <;> simp

/-- The world holds what is known; B: where the memory begins that may be written. -/
structure R (B : Nat) (ρ : Env) (H : Heap) (nx : Nat) (w : World) : Prop where
  base : B ≤ w.heap.size
  mem : ∀ k b, lk H k = some b → k < nx ∧ BAt ρ w (ρ k) b ∧ b.sc nx ∧ (b.mem = true → B ≤ (ρ k).b)
  inj : ∀ k k' b b', lk H k = some b → lk H k' = some b' → b.mem = true → b'.mem = true → (ρ k).b = (ρ k').b → k = k'

/-- From (ρ0, H0, nx0) at w0 to (ρ, H) at w: all other memory is as it was. -/
structure Ext (w0 : World) (ρ0 : Env) (H0 : Heap) (nx0 : Nat) (w : World) (ρ : Env) (H : Heap) (nx : Nat) : Prop where
  env : Same nx0 ρ0 ρ
  nxle : nx0 ≤ nx
  own : ∀ k b, lk H k = some b → b.mem = true → w0.heap.size ≤ (ρ k).b ∨ ∃ k0 b0, lk H0 k0 = some b0 ∧ b0.mem = true ∧ (ρ0 k0).b = (ρ k).b
  fr : ∀ x, x < w0.heap.size → (∀ k b, lk H0 k = some b → b.mem = true → (ρ0 k).b ≠ x) → w.heap[x]? = w0.heap[x]?
  size : w0.heap.size ≤ w.heap.size
  os : w.os = w0.os
  tape : w.tape = w0.tape
  output : w.output = w0.output

theorem Ext.refl (w : World) (ρ : Env) (H : Heap) (nx : Nat) : Ext w ρ H nx w ρ H nx :=
  ⟨Same.refl _ _, Nat.le_refl _, fun k b h hm => .inr ⟨k, b, h, hm, rfl⟩, fun _ _ _ => rfl, Nat.le_refl _, rfl, rfl, rfl⟩

theorem Ext.trans {w0 w1 w2 : World} {ρ0 ρ1 ρ2 : Env} {H0 H1 H2 : Heap} {n0 n1 n2 : Nat} (h : Ext w0 ρ0 H0 n0 w1 ρ1 H1 n1) (g : Ext w1 ρ1 H1 n1 w2 ρ2 H2 n2) : Ext w0 ρ0 H0 n0 w2 ρ2 H2 n2 := by
  refine ⟨fun k hk => (h.env k hk).trans (g.env k (by have := h.nxle; omega)), Nat.le_trans h.nxle g.nxle, fun k b hk hm => ?_, fun x hx hn => ?_, Nat.le_trans h.size g.size, g.os.trans h.os, g.tape.trans h.tape, g.output.trans h.output⟩
  · rcases g.own k b hk hm with h1 | ⟨k1, b1, h1, h2, h3⟩
    · exact .inl (Nat.le_trans h.size h1)
    · rw [← h3]
      exact h.own k1 b1 h1 h2
  · rw [g.fr x (Nat.lt_of_lt_of_le hx h.size) (fun k b hk hm e => ?_), h.fr x hx hn]
    rcases h.own k b hk hm with h1 | ⟨k0, b0, h1, h2, h3⟩
    · omega
    · exact hn k0 b0 h1 h2 (h3.trans e)

/-- Fewer blocks are known. -/
theorem R.sub {B : Nat} {ρ : Env} {H H' : Heap} {nx nx' : Nat} {w : World} (h : R B ρ H nx w) (hs : ∀ k b, lk H' k = some b → lk H k = some b ∧ k < nx' ∧ b.sc nx') : R B ρ H' nx' w :=
  ⟨h.base, fun k b hk => by
    obtain ⟨h1, h2, h3⟩ := hs k b hk
    obtain ⟨g1, g2, g3, g4⟩ := h.mem k b h1
    exact ⟨h2, g2, h3, g4⟩, fun k k' b b' hk hk' => h.inj k k' b b' (hs k b hk).1 (hs k' b' hk').1⟩

theorem Blk.sc_mono {n m : Nat} (h : n ≤ m) : ∀ b : Blk, b.sc n → b.sc m
  | .row cs _, hs => scL_mono h cs hs
  | .room cs _ _, hs => scL_mono h cs hs
  | .big _ _ _, _ => trivial
  | .snap _ _, _ => trivial
  | .dfr, _ => trivial

theorem R.up {B : Nat} {ρ : Env} {H : Heap} {nx nx' : Nat} {w : World} (h : R B ρ H nx w) (hn : nx ≤ nx') : R B ρ H nx' w :=
  h.sub fun k b hk => ⟨hk, by have := (h.mem k b hk).1; omega, b.sc_mono hn (h.mem k b hk).2.2.1⟩

theorem R.drew {B : Nat} {ρ : Env} {H : Heap} {nx : Nat} {w : World} (h : R B ρ H nx w) (d : Nat) : R B ρ H nx { w with drawn := d } :=
  ⟨h.base, fun k b hk => by
    obtain ⟨h1, h2, h3⟩ := h.mem k b hk
    exact ⟨h1, h2.heap (fun _ => rfl), h3⟩, h.inj⟩
theorem Ext.drew {w0 w : World} {ρ0 ρ : Env} {H0 H : Heap} {n0 n : Nat} (h : Ext w0 ρ0 H0 n0 w ρ H n) (d : Nat) : Ext w0 ρ0 H0 n0 { w with drawn := d } ρ H n :=
  ⟨h.env, h.nxle, h.own, h.fr, h.size, h.os, h.tape, h.output⟩

/-- What becomes of the memory in one step: block x turned, or a new one. -/
theorem R.step {B : Nat} {ρ ρ' : Env} {H H' : Heap} {nx nx' : Nat} {w w' : World} (h : R B ρ H nx w) (hz : w.heap.size ≤ w'.heap.size) (hs : Same nx ρ ρ') (hn : nx ≤ nx') (k0 : Nat) (b0 : Blk)
    (hk0 : k0 < nx') (hb0 : BAt ρ' w' (ρ' k0) b0) (hsc : b0.sc nx') (hB : b0.mem = true → B ≤ (ρ' k0).b)
    (hH : ∀ k b, lk H' k = some b → (k = k0 ∧ b = b0) ∨ (k ≠ k0 ∧ lk H k = some b))
    (hap : ∀ k b, lk H k = some b → k ≠ k0 → b.mem = true → b0.mem = true → (lk H' k = some b → (ρ' k).b ≠ (ρ' k0).b))
    (hkeep : ∀ k b, lk H k = some b → lk H' k = some b → k ≠ k0 → b.mem = true → w'.heap[(ρ k).b]? = w.heap[(ρ k).b]?) : R B ρ' H' nx' w' := by
  refine ⟨Nat.le_trans h.base hz, fun k b hk => ?_, fun k k' b b' hk hk' hm hm' e => ?_⟩
  · rcases hH k b hk with ⟨rfl, rfl⟩ | ⟨hne, hk1⟩
    · exact ⟨hk0, hb0, hsc, hB⟩
    · obtain ⟨g1, g2, g3, g4⟩ := h.mem k b hk1
      have e := hs k g1
      refine ⟨by omega, ?_, b.sc_mono hn g3, by rw [← e]; exact g4⟩
      rw [← e]
      exact (g2.heap (fun hm => hkeep k b hk1 hk hne hm)).same hs g3
  · rcases hH k b hk with ⟨rfl, rfl⟩ | ⟨hne, hk1⟩ <;> rcases hH k' b' hk' with ⟨rfl, rfl⟩ | ⟨hne', hk1'⟩
    · rfl
    · exact absurd e.symm (hap k' b' hk1' hne' hm' hm hk')
    · exact absurd e (hap k b hk1 hne hm hm' hk)
    · rw [← hs k (h.mem k b hk1).1, ← hs k' (h.mem k' b' hk1').1] at e
      exact h.inj k k' b b' hk1 hk1' hm hm' e

def bind (ρ : Env) (k : Nat) (e : Ent) : Env := fun j => if j = k then e else ρ j
theorem bind_same (ρ : Env) (n : Nat) (e : Ent) : Same n ρ (bind ρ n e) := fun k hk => by simp only [bind]; rw [if_neg (by omega)]
theorem bind_at (ρ : Env) (k : Nat) (e : Ent) : bind ρ k e k = e := by simp [bind]

/-- A known block is turned. -/
theorem R.turn {B : Nat} {ρ : Env} {H : Heap} {nx : Nat} {w w' : World} {k : Nat} {b b' : Blk} (h : R B ρ H nx w) (hk : lk H k = some b) (hm : b.mem = true) (hm' : b'.mem = true) (hsc : b'.sc nx) (hb' : BAt ρ w' (ρ k) b')
    (hoth : ∀ x, x ≠ (ρ k).b → w'.heap[x]? = w.heap[x]?) (hz : w'.heap.size = w.heap.size) (hos : w'.os = w.os) (htp : w'.tape = w.tape) (hout : w'.output = w.output) :
    R B ρ (upd H k b') nx w' ∧ Ext w ρ H nx w' ρ (upd H k b') nx := by
  obtain ⟨g1, g2, g3, g4⟩ := h.mem k b hk
  have hl : ∀ j c, lk (upd H k b') j = some c → (j = k ∧ c = b') ∨ (j ≠ k ∧ lk H j = some c) := fun j c hj => by
    rw [lk_upd] at hj
    split at hj
    · rename_i e; cases hj; exact .inl ⟨e.symm, rfl⟩
    · rename_i e; exact .inr ⟨fun q => e q.symm, hj⟩
  have hne : ∀ j c, lk H j = some c → j ≠ k → c.mem = true → (ρ j).b ≠ (ρ k).b := fun j c hj hjk hc e => hjk (h.inj j k c b hj hk hc hm e)
  refine ⟨h.step (by omega) (Same.refl _ _) (Nat.le_refl _) k b' g1 hb' hsc (fun _ => g4 hm) hl (fun j c hj hjk hc _ _ => hne j c hj hjk hc) (fun j c hj _ hjk hc => hoth _ (hne j c hj hjk hc)), ?_⟩
  refine ⟨Same.refl _ _, Nat.le_refl _, fun j c hj hc => .inr ?_, fun x _ hn => hoth x (fun e => hn k b hk hm e.symm), by omega, hos, htp, hout⟩
  rcases hl j c hj with ⟨rfl, rfl⟩ | ⟨_, hj'⟩
  · exact ⟨j, b, hk, hm, rfl⟩
  · exact ⟨j, c, hj', hc, rfl⟩

/-- A new block (or a value that is taken whole). -/
theorem R.fresh {B : Nat} {ρ : Env} {H : Heap} {nx : Nat} {w w' : World} {b : Blk} {e : Ent} (h : R B ρ H nx w) (he : b.mem = true → e.b = w.heap.size) (hb : BAt (bind ρ nx e) w' e b) (hsc : b.sc (nx + 1))
    (hold : ∀ x, x < w.heap.size → w'.heap[x]? = w.heap[x]?) (hz : w.heap.size ≤ w'.heap.size) (hos : w'.os = w.os) (htp : w'.tape = w.tape) (hout : w'.output = w.output) :
    R B (bind ρ nx e) ((nx, b) :: H) (nx + 1) w' ∧ Ext w ρ H nx w' (bind ρ nx e) ((nx, b) :: H) (nx + 1) := by
  have hl : ∀ j c, lk ((nx, b) :: H) j = some c → (j = nx ∧ c = b) ∨ (j ≠ nx ∧ lk H j = some c) := fun j c hj => by
    rw [lk_cons] at hj
    split at hj
    · rename_i q; cases hj; exact .inl ⟨q.symm, rfl⟩
    · rename_i q; exact .inr ⟨fun q2 => q q2.symm, hj⟩
  have hlt : ∀ j c, lk H j = some c → c.mem = true → (ρ j).b < w.heap.size := fun j c hj hc => (h.mem j c hj).2.1.lt hc
  have hsame := bind_same ρ nx e
  refine ⟨h.step hz hsame (Nat.le_succ _) nx b (Nat.lt_succ_self _) (by rw [bind_at]; exact hb) hsc (fun hm => by rw [bind_at, he hm]; exact h.base) hl (fun j c hj _ hc hm _ => ?_) (fun j c hj _ _ hc => hold _ (hlt j c hj hc)), ?_⟩
  · rw [bind_at, he hm, ← hsame j (h.mem j c hj).1]
    have := hlt j c hj hc
    omega
  · refine ⟨hsame, Nat.le_succ _, fun j c hj hc => ?_, fun x hx _ => hold x hx, hz, hos, htp, hout⟩
    rcases hl j c hj with ⟨rfl, rfl⟩ | ⟨_, hj'⟩
    · left; rw [bind_at, he hc]; exact Nat.le_refl _
    · exact .inr ⟨j, c, hj', hc, by rw [hsame j (h.mem j c hj').1]⟩
end Rm
end Go.Proofs.YtpophgfjdlkgiaaGreatDoor
