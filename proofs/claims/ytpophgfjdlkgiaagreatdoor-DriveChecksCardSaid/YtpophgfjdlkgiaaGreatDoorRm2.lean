/- A reckoner with memory, part 2: operations that look at no memory of one's own. -/
import Derived.Test.YtpophgfjdlkgiaaGreatDoorRm1
import Derived.Laws.Tables
namespace Go.Proofs.YtpophgfjdlkgiaaGreatDoor
namespace Rm
open Go Go.RowKit
open Rk (Orc tst tst_ok Kn run run_ok szOf isAg run_isAgg run_sizeOf)

/-- The cells that are known from the start lie below B. -/
def KnB (B : Nat) (kn : Kn) (w : World) : Prop := ∀ a v o, kn a = some (v, o) → (∀ p, o = some p → p) → w.cell? a = some v ∧ a.block < B
theorem KnB.knows {B : Nat} {kn : Kn} {w : World} (h : KnB B kn w) : Rk.Knows kn w := fun a v o ha ho => (h a v o ha ho).1
theorem KnB.drew {B : Nat} {kn : Kn} {w : World} (h : KnB B kn w) (d : Nat) : KnB B kn { w with drawn := d } := h
theorem KnB.ext {B : Nat} {kn : Kn} {w0 w : World} {ρ0 ρ : Env} {H0 H : Heap} {n0 n : Nat} (h : KnB B kn w0) (hR : R B ρ0 H0 n0 w0) (hx : Ext w0 ρ0 H0 n0 w ρ H n) : KnB B kn w := fun a v o ha ho => by
  obtain ⟨h1, h2⟩ := h a v o ha ho
  refine ⟨?_, h2⟩
  have hlt := World.block_lt_of_cell? w0 a h1
  have := hx.fr a.block hlt (fun k b hk hm e => by have := (hR.mem k b hk).2.2.2 hm; omega)
  unfold World.cell? at h1 ⊢
  rw [this]; exact h1

/-- A pure operation's answer. -/
structure PRes where
  v : Value
  q : Orc
  ob : Prop

def pfin (v : Value) (q : Orc) (ob : Prop) : PRes :=
  match v with
  | .bool b => ⟨.bool (tst b q ob).1, (tst b q ob).2.1, (tst b q ob).2.2⟩
  | v => ⟨v, q, ob⟩
theorem pfin_ok {v : Value} {q : Orc} {ob : Prop} : (pfin v q ob).ob → (pfin v q ob).v = v ∧ ob := by
  cases v <;> first
    | exact fun h => ⟨rfl, h⟩
    | exact fun h => ⟨congrArg Value.bool (tst_ok h).1, (tst_ok h).2⟩

def POk (P : Program) (B : Nat) (kn : Kn) (o : Oper) (e : Operand → Value) (ob : Prop) (r : PRes) : Prop :=
  (r.ob → ob) ∧ (r.ob → (∀ n, (∀ x ∈ o.op.operands.toList, sc n (e x)) → sc n r.v) ∧
    ∀ (ρ : Env) (w : World), KnB B kn w → ∀ ev : Operand → Value, (∀ x ∈ o.op.operands.toList, ev x = conc ρ (e x)) → (execOp ev o).run P w = .ok (.value (conc ρ r.v)) w)

/-- Values that have no number of one's own: the operation as it is. -/
def opR (P : Program) (kn : Kn) (o : Oper) (e : Operand → Value) (q : Orc) (ob : Prop) : Option PRes :=
  if Rk.isSel o.op = false ∧ o.op.operands.toList.all (fun x => unt (e x)) = true then
    match run P kn (execOp e o) ob with
    | some (.value v, ob1) => if unt v = true then some (pfin v q ob1) else none
    | _ => none
  else none
theorem opR_ok {P : Program} {B : Nat} {kn : Kn} {o : Oper} {e : Operand → Value} {q : Orc} {ob : Prop} {r : PRes} (h : opR P kn o e q ob = some r) : POk P B kn o e ob r := by
  unfold opR at h
  split at h
  · rename_i hc
    obtain ⟨hsel, hops⟩ := hc
    split at h
    · rename_i v ob1 hr
      obtain ⟨g1, g2⟩ := run_ok _ hr
      split at h
      · rename_i hu
        cases h
        have f := pfin_ok (v := v) (q := q) (ob := ob1)
        refine ⟨fun x => g1 (f x).2, fun x => ⟨fun n _ => by rw [(f x).1]; exact sc_unt n v hu, fun ρ w hk ev hev => ?_⟩⟩
        have hcong : execOp ev o = execOp e o := execOp_congr o (fun cs b e => by rw [e] at hsel; cases hsel) (fun y hy => by
          have := List.all_eq_true.1 hops y (by simpa using hy)
          rw [hev y (by simpa using hy), conc_unt ρ _ this])
        rw [hcong, g2 (f x).2 w hk.knows, (f x).1, conc_unt ρ v hu]
      · cases h
    · cases h
  · cases h

theorem mem1 (x : Operand) : x ∈ (#[x] : Array Operand).toList := by simp
theorem sc_ptr {n k o o' t t' : Nat} (h : sc n (.pointer (some ⟨k, o, some t⟩))) : sc n (.pointer (some ⟨k, o', some t'⟩)) := h
theorem sc_slc {n k o o' t t' l c l' c' : Nat} (h : sc n (.slice (some ⟨k, o, some t⟩) l c)) : sc n (.slice (some ⟨k, o', some t'⟩) l' c') := h
theorem conc_ptr (ρ : Env) (k o : Nat) : conc ρ (.pointer (some ⟨k, o, some 0⟩)) = .pointer (some ⟨(ρ k).b, o, none⟩) := by simp [conc, cP]
theorem conc_slc (ρ : Env) (k o n c : Nat) : conc ρ (.slice (some ⟨k, o, some 0⟩) n c) = .slice (some ⟨(ρ k).b, o, none⟩) n c := by simp [conc, cS]
theorem conc_slr (ρ : Env) (k o n c : Nat) : conc ρ (.slice (some ⟨k, o, some 1⟩) n c) = .slice (some ⟨(ρ k).b, o, none⟩) n ((ρ k).cap - c) := by simp [conc, cS]
theorem conc_int (ρ : Env) (k : IntKind) (n : Int) : conc ρ (.int k n) = .int k n := rfl
theorem conc_bool (ρ : Env) (b : Bool) : conc ρ (.bool b) = .bool b := rfl
theorem conc_agg (ρ : Env) (cs : List Value) : conc ρ (.agg ⟨cs⟩) = .agg ⟨concL ρ cs⟩ := by rw [conc]
theorem conc_tup (ρ : Env) (cs : List Value) : conc ρ (.tuple ⟨cs⟩) = .tuple ⟨concL ρ cs⟩ := by rw [conc]
theorem conc_fun (ρ : Env) (fn : Fn) (xs ys : List Value) : conc ρ (.func fn ⟨xs⟩ ⟨ys⟩) = .func fn ⟨concL ρ xs⟩ ⟨concL ρ ys⟩ := by rw [conc]

/-- A tagged pointer held against another value. -/
def ptrEq (x y : Value) : Option Bool :=
  match x, y with
  | .pointer (some ⟨_, _, some 0⟩), .pointer none => some false
  | .pointer none, .pointer (some ⟨_, _, some 0⟩) => some false
  | .slice (some ⟨_, _, some _⟩) _ _, .slice none _ _ => some false
  | _, _ => none
/-- Two places in one block. -/
def ptrSame (P : Program) (el : TypeId) (x y : Value) : Option Bool :=
  match x, y with
  | .pointer (some ⟨k, o, some 0⟩), .pointer (some ⟨k', o', some 0⟩) => match Nat.beq k k', szOf P el with
    | true, some (_ + 1) => some (Nat.beq o o')
    | _, _ => none
  | _, _ => none
def cmpOf (P : Program) (S : TypeId) (x y : Value) : Option Bool :=
  match P.underlying S with
  | some (.pointer el) => match x, y with
    | .pointer _, .pointer _ => match ptrSame P el x y with
      | some c => some c
      | none => ptrEq x y
    | _, _ => none
  | some (.slice _) => match x, y with
    | .slice _ _ _, .slice _ _ _ => ptrEq x y
    | _, _ => none
  | some (.func _ _ _) => match x, y with
    | .func _ _ _, .nilFunc => some false
    | _, _ => none
  | _ => none

def opP (P : Program) (okc : Bool) (kn : Kn) (o : Oper) (e : Operand → Value) (q : Orc) (ob : Prop) : Option PRes :=
  match o.op with
  | .move x => some ⟨e x, q, ob⟩
  | .assign x => some ⟨e x, q, ob⟩
  | .pick c a b => match e c with
    | .bool s => some ⟨if s then e a else e b, q, ob⟩
    | _ => none
  | .fieldAddr S x f => match e x with
    | .pointer (some ⟨k, off, some 0⟩) => match P.underlying S with
      | some (.struct fs) => match fs[f]? with
        | some fd => match szOf P fd.type with
          | some (_ + 1) => some ⟨.pointer (some ⟨k, off + fd.offset, some 0⟩), q, ob⟩
          | _ => none
        | none => none
      | _ => none
    | _ => opR P kn o e q ob
  | .indexAddr S x ix => match e ix, P.underlying S, e x with
    | .int _ n, some (.array len el), .pointer (some ⟨k, off, some 0⟩) =>
      match szOf P el with
      | some s => if (tst (decide (0 ≤ n ∧ n < len)) q ob).1 = true then some ⟨.pointer (some ⟨k, off + n.toNat * s, some 0⟩), (tst (decide (0 ≤ n ∧ n < len)) q ob).2.1, (tst (decide (0 ≤ n ∧ n < len)) q ob).2.2⟩ else none
      | none => none
    | .int _ n, some (.slice el), .slice (some ⟨k, off, some _⟩) len _ =>
      match szOf P el with
      | some s => if (tst (decide (0 ≤ n ∧ n < len)) q ob).1 = true then some ⟨.pointer (some ⟨k, off + n.toNat * s, some 0⟩), (tst (decide (0 ≤ n ∧ n < len)) q ob).2.1, (tst (decide (0 ≤ n ∧ n < len)) q ob).2.2⟩ else none
      | none => none
    | _, _, _ => opR P kn o e q ob
  | .nilCheck x => match e x with
    | .pointer (some ⟨k, off, some 0⟩) => some ⟨.pointer (some ⟨k, off, some 0⟩), q, ob⟩
    | .func (.func g) xs ys => some ⟨.func (.func g) xs ys, q, ob⟩
    | _ => opR P kn o e q ob
  | .binOp bop S x y _ => match e x, e y with
    | .int k a, .int k' b => if decide (k = k') = true then
        match Rk.intOp bop k a b with
        | some v => some (pfin v q ob)
        | none => opR P kn o e q ob
      else opR P kn o e q ob
    | .string a, .string b => match bop with
      | .eql => some (pfin (.bool (a.data.toList == b.data.toList)) q ob)
      | .neq => some (pfin (.bool !(a.data.toList == b.data.toList)) q ob)
      | _ => opR P kn o e q ob
    | vx, vy => match cmpOf P S vx vy, bop with
      | some c, .eql => some ⟨.bool c, q, ob⟩
      | some c, .neq => some ⟨.bool !c, q, ob⟩
      | _, _ => opR P kn o e q ob
  | .convert src dst x => match e x, P.underlying src, P.underlying dst with
    | .int _ n, some _, some (.int k) => some ⟨.int k (k.wrap n), q, ob⟩
    | _, _, _ => opR P kn o e q ob
  | .extract x i => match e x with
    | .tuple ⟨vs⟩ => match vs[i]? with
      | some v => some ⟨v, q, ob⟩
      | none => none
    | _ => none
  | .makeFunc fn first cap => if okc = true then some ⟨.func fn ⟨(first.map e).toList⟩ ⟨(cap.map e).toList⟩, q, ob⟩ else none
  | .field S x f => match e x with
    | .agg ⟨cs⟩ => match P.underlying S with
      | some (.struct fs) => match fs[f]? with
        | some fd => match isAg P fd.type, szOf P fd.type with
          | some true, some n => if fd.offset + n ≤ cs.length then some ⟨.agg ⟨(cs.drop fd.offset).take n⟩, q, ob⟩ else none
          | some false, some _ => match cs[fd.offset]? with
            | some v => some ⟨v, q, ob⟩
            | none => none
          | _, _ => none
        | none => none
      | _ => none
    | _ => none
  | .index S x ix => match P.underlying S, e x, e ix with
    | some .string, .string s, .int _ n =>
        if (tst (decide (0 ≤ n ∧ n < s.size)) q ob).1 = true then some ⟨.int .u8 ((s.data.toList.getD n.toNat 0).toNat : Int), (tst (decide (0 ≤ n ∧ n < s.size)) q ob).2.1, (tst (decide (0 ≤ n ∧ n < s.size)) q ob).2.2⟩ else none
    | _, _, _ => opR P kn o e q ob
  | .call c => match c.callee, c.args.toList.map e with
    | .builtin .len, [.slice (some ⟨_, _, some _⟩) n _] => match (c.argTypes[0]?).bind P.underlying with
      | some (.slice _) => some ⟨.int .i64 n, q, ob⟩
      | _ => none
    | .builtin .append, _ => none
    | .builtin .copy, _ => none
    | .builtin _, _ => opR P kn o e q ob
    | _, _ => none
  | .unOp _ _ _ => opR P kn o e q ob
  | .load _ a => match e a with
    | .pointer (some ⟨_, _, none⟩) => opR P kn o e q ob
    | _ => none
  | .slice _ _ _ _ _ => opR P kn o e q ob
  | _ => none

section
variable {P : Program} {B : Nat} {kn : Kn}
theorem POk.of {o : Oper} {e : Operand → Value} {q : Orc} {ob : Prop} {v : Value} (hs : ∀ n, (∀ x ∈ o.op.operands.toList, sc n (e x)) → sc n v)
    (hrun : ∀ (ρ : Env) (w : World), ∀ ev : Operand → Value, (∀ x ∈ o.op.operands.toList, ev x = conc ρ (e x)) → (execOp ev o).run P w = .ok (.value (conc ρ v)) w) : POk P B kn o e ob ⟨v, q, ob⟩ :=
  ⟨id, fun _ => ⟨hs, fun ρ w _ => hrun ρ w⟩⟩
theorem POk.tst {o : Oper} {e : Operand → Value} {q : Orc} {ob : Prop} {v : Value} {c : Bool} (ht : (Rk.tst c q ob).1 = true) (hs : ∀ n, (∀ x ∈ o.op.operands.toList, sc n (e x)) → sc n v)
    (hrun : c = true → ∀ (ρ : Env) (w : World), ∀ ev : Operand → Value, (∀ x ∈ o.op.operands.toList, ev x = conc ρ (e x)) → (execOp ev o).run P w = .ok (.value (conc ρ v)) w) :
    POk P B kn o e ob ⟨v, (Rk.tst c q ob).2.1, (Rk.tst c q ob).2.2⟩ :=
  ⟨fun x => (tst_ok x).2, fun x => ⟨hs, fun ρ w _ => hrun (by rw [← (tst_ok x).1]; exact ht) ρ w⟩⟩
theorem POk.pfin {o : Oper} {e : Operand → Value} {q : Orc} {ob : Prop} {v : Value} (hu : unt v = true)
    (hrun : ∀ (ρ : Env) (w : World), ∀ ev : Operand → Value, (∀ x ∈ o.op.operands.toList, ev x = conc ρ (e x)) → (execOp ev o).run P w = .ok (.value v) w) : POk P B kn o e ob (pfin v q ob) :=
  ⟨fun x => (pfin_ok x).2, fun x => ⟨fun n _ => by rw [(pfin_ok x).1]; exact sc_unt n v hu, fun ρ w _ ev hev => by rw [(pfin_ok x).1, conc_unt ρ v hu]; exact hrun ρ w ev hev⟩⟩

theorem run_part {t : TypeId} {cs : List Value} {off n : Nat} {v : Value} (hv : (isAg P t = some true ∧ szOf P t = some n ∧ off + n ≤ cs.length ∧ v = .agg ⟨(cs.drop off).take n⟩) ∨ (isAg P t = some false ∧ cs[off]? = some v)) (ρ : Env) (w : World) :
    (part t ⟨concL ρ cs⟩ off).run P w = .ok (conc ρ v) w := by
  rcases hv with ⟨ha, hs, hle, rfl⟩ | ⟨ha, hv⟩
  · simp only [part, Sem.run_bind, run_isAgg ha, Result.andThen_ok, if_true, run_sizeOf hs, Sem.run_pure, conc_agg]
    congr 2
    apply Array.ext'
    simp [concL_map, List.map_take, List.map_drop]
  · simp only [part, Sem.run_bind, run_isAgg ha, Result.andThen_ok, Bool.false_eq_true, if_false]
    have e : (⟨concL ρ cs⟩ : Array Value)[off]? = some (conc ρ v) := by
      rw [concL_map]; simp [hv]
    rw [e]; rfl

theorem eq_p0 (d : Nat) {S el : TypeId} (hu : P.underlying S = some (.pointer el)) (a : Addr) (w : World) : (Op.equalIn (d + 1) S (.pointer (some a)) (.pointer none)).run P w = .ok false w := by
  simp [Op.equalIn, Sem.run_bind, underlying, run_program, hu]
theorem eq_0p (d : Nat) {S el : TypeId} (hu : P.underlying S = some (.pointer el)) (a : Addr) (w : World) : (Op.equalIn (d + 1) S (.pointer none) (.pointer (some a))).run P w = .ok false w := by
  simp [Op.equalIn, Sem.run_bind, underlying, run_program, hu]
theorem eq_s0 (d : Nat) {S el : TypeId} (hu : P.underlying S = some (.slice el)) (a : Addr) (n c n' c' : Nat) (w : World) : (Op.equalIn (d + 1) S (.slice (some a) n c) (.slice none n' c')).run P w = .ok false w := by
  simp [Op.equalIn, Sem.run_bind, underlying, run_program, hu]
theorem eq_f0 (d : Nat) {S : TypeId} {x y : Array TypeId} {b : Bool} (hu : P.underlying S = some (.func x y b)) (f : Fn) (xs ys : Array Value) (w : World) : (Op.equalIn (d + 1) S (.func f xs ys) .nilFunc).run P w = .ok false w := by
  simp [Op.equalIn, Sem.run_bind, underlying, run_program, hu]
theorem eq_ps (d : Nat) {S el m : Nat} (hu : P.underlying S = some (.pointer el)) (hs : szOf P el = some (m + 1)) (b o o' : Nat) (w : World) : (Op.equalIn (d + 1) S (.pointer (some ⟨b, o, none⟩)) (.pointer (some ⟨b, o', none⟩))).run P w = .ok (Nat.beq o o') w := by
  have e : ((⟨b, o, none⟩ : Addr) == ⟨b, o', none⟩) = Nat.beq o o' := by
    by_cases h : o = o'
    · subst h; simp
    · rw [Rm.beq_no h]
      rw [beq_eq_false_iff_ne]
      intro q; cases q; exact h rfl
  simp only [Op.equalIn, Sem.run_bind, underlying, run_program, hu, Result.andThen_ok, Sem.run_pure, run_sizeOf hs]
  simp [sameAddr, e]
theorem ptrSame_at {el : TypeId} {x y : Value} {c : Bool} (h : ptrSame P el x y = some c) : ∃ k o o' m, x = .pointer (some ⟨k, o, some 0⟩) ∧ y = .pointer (some ⟨k, o', some 0⟩) ∧ szOf P el = some (m + 1) ∧ c = Nat.beq o o' := by
  unfold ptrSame at h
  split at h
  · rename_i k o k' o'
    split at h
    · rename_i m hk hs
      cases h
      obtain rfl := Nat.eq_of_beq_eq_true hk
      exact ⟨k, o, o', m, rfl, rfl, hs, rfl⟩
    · cases h
  · cases h
theorem run_cmp {S : TypeId} {x y : Value} {c : Bool} (h : cmpOf P S x y = some c) (ρ : Env) (w : World) : (Op.equal S (conc ρ x) (conc ρ y)).run P w = .ok c w := by
  unfold cmpOf at h
  split at h
  · rename_i el hu
    split at h
    · rename_i a b
      split at h
      · rename_i c' hc
        cases h
        obtain ⟨k, o, o', m, e1, e2, hs, rfl⟩ := ptrSame_at hc
        rw [e1, e2, conc_ptr, conc_ptr]
        exact eq_ps 9999 hu hs _ _ _ w
      · unfold ptrEq at h
        split at h <;> first | (cases h; done) | skip
        · rename_i e1 e2
          cases h
          rw [e1, e2, conc_ptr]
          exact eq_p0 9999 hu _ w
        · rename_i e1 e2
          cases h
          rw [e1, e2, conc_ptr]
          exact eq_0p 9999 hu _ w
        · rename_i e1 e2; cases e1
    · cases h
  · rename_i el hu
    split at h
    · rename_i a n c1 b m d
      unfold ptrEq at h
      split at h <;> first | (cases h; done) | skip
      · rename_i e1 e2; cases e1
      · rename_i e1 e2; cases e1
      · rename_i e1 e2
        cases h
        cases e1
        cases e2
        exact eq_s0 9999 hu _ _ _ _ _ w
    · cases h
  · rename_i a b c1 hu
    split at h
    · rename_i f xs ys
      cases h
      obtain ⟨xs⟩ := xs
      obtain ⟨ys⟩ := ys
      exact eq_f0 9999 hu _ _ _ w
    · cases h
  · cases h

theorem cmp_guard {S : TypeId} {x y : Value} {c : Bool} (h : cmpOf P S x y = some c) (ρ : Env) (w : World) (op : BinOp) (hop : op = .eql ∨ op = .neq) (xo yo : Operand) : (eqGuard op S xo yo (conc ρ x) (conc ρ y)).run P w = .ok () w ∧ binOp .eql S (conc ρ x) (conc ρ y) = (do pure (.bool (← Op.equal S (conc ρ x) (conc ρ y)))) ∧ binOp .neq S (conc ρ x) (conc ρ y) = (do pure (.bool (!(← Op.equal S (conc ρ x) (conc ρ y))))) := by
  unfold cmpOf at h
  split at h
  · split at h
    · rename_i a b
      split at h
      · rename_i c' hc
        obtain ⟨k, o, o', m, e1, e2, hs, rfl⟩ := ptrSame_at hc
        rw [e1, e2, conc_ptr, conc_ptr]
        rcases hop with rfl | rfl <;> simp [eqGuard, binOp]
      · unfold ptrEq at h
        split at h <;> first | (cases h; done) | skip
        · rename_i e1 e2
          rw [e1, e2, conc_ptr]
          rcases hop with rfl | rfl <;> simp [eqGuard, binOp, conc, cP]
        · rename_i e1 e2
          rw [e1, e2, conc_ptr]
          rcases hop with rfl | rfl <;> simp [eqGuard, binOp, conc, cP]
        · rename_i e1 e2; cases e1
    · cases h
  · split at h
    · rename_i a n c1 b m d
      unfold ptrEq at h
      split at h <;> first | (cases h; done) | skip
      · rename_i e1 e2; cases e1
      · rename_i e1 e2; cases e1
      · rename_i e1 e2
        cases e1
        cases e2
        rcases hop with rfl | rfl <;> simp [eqGuard, binOp, conc, cS]
    · cases h
  · split at h
    · rename_i f xs ys
      obtain ⟨xs⟩ := xs
      obtain ⟨ys⟩ := ys
      rcases hop with rfl | rfl <;> simp [eqGuard, binOp, conc]
    · cases h
  · cases h

theorem run_len {at' : Array TypeId} {ty t el : TypeId} (ht : at'[0]? = some t) (hu : P.underlying t = some (.slice el)) (a : Option Addr) (n c : Nat) (w : World) : (Builtin.len_ at' ty #[.slice a n c]).run P w = .ok (.int .i64 n) w := by
  simp [Builtin.len_, ht, Sem.run_bind, underlying, run_program, hu, goInt]
theorem opP_ok {okc : Bool} {o : Oper} {e : Operand → Value} {q : Orc} {ob : Prop} {r : PRes} (h : opP P okc kn o e q ob = some r) : POk P B kn o e ob r := by
  have hp := opR_ok (P := P) (B := B) (kn := kn) (o := o) (e := e) (q := q) (ob := ob) (r := r)
  unfold opP at h
  split at h
  · rename_i x ho
    cases h
    exact POk.of (fun n hn => hn x (by simp [ho, Op.operands])) (fun ρ w ev hev => by rw [execOp, ho]; simp only [hev x (by simp [ho, Op.operands])]; rfl)
  · rename_i x ho
    cases h
    exact POk.of (fun n hn => hn x (by simp [ho, Op.operands])) (fun ρ w ev hev => by rw [execOp, ho]; simp only [hev x (by simp [ho, Op.operands])]; rfl)
  · rename_i c a b ho
    split at h
    · rename_i s hs
      cases h
      refine POk.of (fun n hn => ?_) (fun ρ w ev hev => ?_)
      · cases s
        · exact hn b (by simp [ho, Op.operands])
        · exact hn a (by simp [ho, Op.operands])
      · rw [execOp, ho]
        simp only [hev c (by simp [ho, Op.operands]), hev a (by simp [ho, Op.operands]), hev b (by simp [ho, Op.operands]), hs]
        cases s <;> rfl
    · cases h
  · rename_i S x f ho
    split at h
    · rename_i k off ha
      split at h
      · rename_i fs hu
        split at h
        · rename_i fd hf
          split at h
          · rename_i n hs
            cases h
            refine POk.of (fun m hn => ?_) (fun ρ w ev hev => ?_)
            · have := hn x (by simp [ho, Op.operands]); rw [ha] at this; exact sc_ptr this
            · rw [execOp, ho]
              simp only [Sem.run_bind, hev x (by simp [ho, Op.operands]), ha, conc_ptr, Rk.run_fieldAt hu hf hs, Result.andThen_ok, Sem.run_pure]
          · cases h
        · cases h
      · cases h
    · exact hp h
  · rename_i S x ix ho
    split at h
    · rename_i kk n len el k off hn hu ha
      split at h
      · rename_i s hs
        split at h
        · rename_i ht
          cases h
          refine POk.tst ht (fun m hm => ?_) (fun hc ρ w ev hev => ?_)
          · have := hm x (by simp [ho, Op.operands]); rw [ha] at this; exact sc_ptr this
          · rw [execOp, ho]
            simp only [Sem.run_bind, hev x (by simp [ho, Op.operands]), hev ix (by simp [ho, Op.operands]), ha, hn, conc_ptr, conc_int, Rk.run_indexAt_arr hu hs (of_decide_eq_true hc)]
            rfl
        · cases h
      · cases h
    · rename_i kk n el k off tg len c hn hu ha
      split at h
      · rename_i s hs
        split at h
        · rename_i ht
          cases h
          refine POk.tst ht (fun m hm => ?_) (fun hc ρ w ev hev => ?_)
          · have := hm x (by simp [ho, Op.operands]); rw [ha] at this; exact this
          · rw [execOp, ho]
            simp only [Sem.run_bind, hev x (by simp [ho, Op.operands]), hev ix (by simp [ho, Op.operands]), ha, hn, conc_ptr, conc_int]
            simp only [conc, cS, Rk.run_indexAt_slc hu hs (of_decide_eq_true hc)]
            rfl
        · cases h
      · cases h
    · exact hp h
  · rename_i x ho
    split at h
    · rename_i k off ha
      cases h
      refine POk.of (fun m hn => ?_) (fun ρ w ev hev => ?_)
      · have := hn x (by simp [ho, Op.operands]); rw [ha] at this; exact this
      · rw [execOp, ho]
        simp only [hev x (by simp [ho, Op.operands]), ha, conc_ptr]
        rfl
    · rename_i g xs ys ha
      cases h
      refine POk.of (fun m hn => ?_) (fun ρ w ev hev => ?_)
      · have := hn x (by simp [ho, Op.operands]); rw [ha] at this; exact this
      · obtain ⟨xs⟩ := xs
        obtain ⟨ys⟩ := ys
        rw [execOp, ho]
        simp only [hev x (by simp [ho, Op.operands]), ha, conc_fun]
        rfl
    · exact hp h
  · rename_i bop S x y T' ho
    split at h
    · rename_i k a k' b hx hy
      split at h
      · rename_i hc
        simp only [decide_eq_true_eq] at hc
        subst hc
        split at h
        · rename_i v hv
          cases h
          have hu : unt v = true := by
            cases bop <;> simp only [Rk.intOp, Option.some.injEq] at hv <;> first | (cases hv; done) | (subst hv; rfl)
          refine POk.pfin hu (fun ρ w ev hev => ?_)
          rw [execOp, ho]
          have := Rk.run_intOp (P := P) hv S x y w
          simp only [Sem.run_bind] at this
          simp only [Sem.run_bind, hev x (by simp [ho, Op.operands]), hev y (by simp [ho, Op.operands]), hx, hy, conc_int, this, Result.andThen_ok, Sem.run_pure]
        · exact hp h
      · exact hp h
    · rename_i a b hx hy
      split at h
      · cases h
        refine POk.pfin rfl (fun ρ w ev hev => ?_)
        rw [execOp, ho]
        simp only [Sem.run_bind, hev x (by simp [ho, Op.operands]), hev y (by simp [ho, Op.operands]), hx, hy]
        simp [eqGuard, binOp, Op.stringOp, Rk.toList_data, conc]
      · cases h
        refine POk.pfin rfl (fun ρ w ev hev => ?_)
        rw [execOp, ho]
        simp only [Sem.run_bind, hev x (by simp [ho, Op.operands]), hev y (by simp [ho, Op.operands]), hx, hy]
        simp [eqGuard, binOp, Op.stringOp, Rk.toList_data, conc]
      · exact hp h
    · split at h
      · rename_i c hc
        cases h
        refine POk.of (fun _ _ => trivial) (fun ρ w ev hev => ?_)
        obtain ⟨g1, g2, _⟩ := cmp_guard hc ρ w .eql (.inl rfl) x y
        rw [execOp, ho]
        simp only [Sem.run_bind, hev x (by simp [ho, Op.operands]), hev y (by simp [ho, Op.operands]), g1, g2, Result.andThen_ok, run_cmp hc, Sem.run_pure]
        rfl
      · rename_i c hc
        cases h
        refine POk.of (fun _ _ => trivial) (fun ρ w ev hev => ?_)
        obtain ⟨g1, _, g2⟩ := cmp_guard hc ρ w .neq (.inr rfl) x y
        rw [execOp, ho]
        simp only [Sem.run_bind, hev x (by simp [ho, Op.operands]), hev y (by simp [ho, Op.operands]), g1, g2, Result.andThen_ok, run_cmp hc, Sem.run_pure]
        rfl
      · exact hp h
  · rename_i src dst x ho
    split at h
    · rename_i kk n d1 k hx hu hv
      cases h
      refine POk.of (fun _ _ => trivial) (fun ρ w ev hev => ?_)
      rw [execOp, ho]
      simp only [Sem.run_bind, hev x (by simp [ho, Op.operands]), hx, convert, underlying, run_program, Result.andThen_ok, hu, hv, Sem.run_pure, conc_int]
      cases d1 <;> rfl
    · exact hp h
  · rename_i x i ho
    split at h
    · rename_i vs hx
      split at h
      · rename_i v hv
        cases h
        refine POk.of (fun m hn => ?_) (fun ρ w ev hev => ?_)
        · have := hn x (by simp [ho, Op.operands]); rw [hx] at this
          exact (scL_all m vs).1 this v (List.mem_of_getElem? hv)
        · rw [execOp, ho]
          have e : (⟨concL ρ vs⟩ : Array Value)[i]? = some (conc ρ v) := by rw [concL_map]; simp [hv]
          simp only [Sem.run_bind, hev x (by simp [ho, Op.operands]), hx, conc_tup, Instr.extract, e, Sem.run_pure, Result.andThen_ok]
      · cases h
    · cases h
  · rename_i fn first cap ho
    split at h
    · cases h
      refine POk.of (fun m hn => ?_) (fun ρ w ev hev => ?_)
      · refine ⟨(scL_all m _).2 fun v hv => ?_, (scL_all m _).2 fun v hv => ?_⟩
        · simp only [Array.toList_map, List.mem_map] at hv
          obtain ⟨x, hx, rfl⟩ := hv
          exact hn x (by simp [ho, Op.operands]; exact .inl (by simpa using hx))
        · simp only [Array.toList_map, List.mem_map] at hv
          obtain ⟨x, hx, rfl⟩ := hv
          exact hn x (by simp [ho, Op.operands]; exact .inr (by simpa using hx))
      · rw [execOp, ho]
        have e1 : first.map ev = ⟨concL ρ (first.map e).toList⟩ := by
          apply Array.ext'
          simp only [Array.toList_map, concL_map, List.map_map]
          exact List.map_congr_left fun x hx => hev x (by simp [ho, Op.operands]; exact .inl (by simpa using hx))
        have e2 : cap.map ev = ⟨concL ρ (cap.map e).toList⟩ := by
          apply Array.ext'
          simp only [Array.toList_map, concL_map, List.map_map]
          exact List.map_congr_left fun x hx => hev x (by simp [ho, Op.operands]; exact .inr (by simpa using hx))
        simp only [Sem.run_bind, Instr.makeFunc, Sem.run_pure, Result.andThen_ok, e1, e2, conc_fun]
    · cases h
  · rename_i S x f ho
    split at h
    · rename_i cs hx
      split at h
      · rename_i fs hu
        split at h
        · rename_i fd hf
          split at h
          · rename_i n ha hs
            split at h
            · rename_i hle
              cases h
              refine POk.of (fun m hn => ?_) (fun ρ w ev hev => ?_)
              · have := hn x (by simp [ho, Op.operands]); rw [hx] at this
                exact (scL_all m _).2 fun v hv => (scL_all m _).1 this v (List.mem_of_mem_drop (List.mem_of_mem_take hv))
              · rw [execOp, ho]
                simp only [Sem.run_bind, hev x (by simp [ho, Op.operands]), hx, conc_agg ρ cs, Instr.field, underlying, run_program, Result.andThen_ok, hu, Sem.run_pure, hf, asAgg, run_part (.inl ⟨ha, hs, hle, rfl⟩)]
            · cases h
          · rename_i n ha hs
            split at h
            · rename_i v hv
              cases h
              refine POk.of (fun m hn => ?_) (fun ρ w ev hev => ?_)
              · have := hn x (by simp [ho, Op.operands]); rw [hx] at this
                exact (scL_all m _).1 this v (List.mem_of_getElem? hv)
              · rw [execOp, ho]
                simp only [Sem.run_bind, hev x (by simp [ho, Op.operands]), hx, conc_agg ρ cs, Instr.field, underlying, run_program, Result.andThen_ok, hu, Sem.run_pure, hf, asAgg, run_part (n := n) (.inr ⟨ha, hv⟩)]
            · cases h
          · cases h
        · cases h
      · cases h
    · cases h
  · rename_i S x ix ho
    split at h
    · rename_i s k n hu ha hn
      split at h
      · rename_i ht
        cases h
        refine POk.tst ht (fun _ _ => trivial) (fun hc ρ w ev hev => ?_)
        rw [execOp, ho]
        simp only [Sem.run_bind, hev x (by simp [ho, Op.operands]), hev ix (by simp [ho, Op.operands]), ha, hn, conc_int]
        rw [show conc ρ (.string s) = .string s from rfl, Rk.run_index_str hu (of_decide_eq_true hc)]
        rfl
      · cases h
    · exact hp h
  · rename_i c ho
    split at h
    · rename_i k off tg n cp hcal hargs
      split at h
      · rename_i el hu
        cases h
        refine POk.of (fun _ _ => trivial) (fun ρ w ev hev => ?_)
        obtain ⟨t, ht, hu⟩ := Option.bind_eq_some_iff.1 hu
        have e1 : c.args.map ev = #[conc ρ (.slice (some ⟨k, off, some tg⟩) n cp)] := by
          apply Array.ext'
          rw [Array.toList_map, List.map_congr_left (g := fun x => conc ρ (e x)) (fun x hx => hev x (by simp [ho, Op.operands, Call.operands, hcal]; simpa using hx)), show (fun x => conc ρ (e x)) = conc ρ ∘ e from rfl, ← List.map_map, hargs]
          rfl
        rw [execOp, ho]
        simp only [Sem.run_bind, resolve, hcal, e1, Sem.run_pure, Result.andThen_ok, invoke, builtin, conc, cS, run_len ht hu]
      · cases h
    · cases h
    · cases h
    · exact hp h
    · cases h
  · exact hp h
  · split at h
    · exact hp h
    · cases h
  · exact hp h
  · cases h
end
end Rm
end Go.Proofs.YtpophgfjdlkgiaaGreatDoor
