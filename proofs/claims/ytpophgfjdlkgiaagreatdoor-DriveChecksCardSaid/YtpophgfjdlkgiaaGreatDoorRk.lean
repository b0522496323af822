/- A reckoner: a function's own text run by the kernel, its own memory told by numbers of its own, tests that hang on unknown numbers decided by a list that is handed in and owed as premises; what it answers the machine's call answers. -/
import Derived.Deep.Quiet
import Derived.LoopN
import Derived.Tactics
import Derived.KernelRfl
import Derived.Below
import Derived.Laws.CopyRow
import Derived.Laws.CopyOwn
import Derived.Laws.Cells
import Derived.Laws.Rows
import Derived.Laws.Strings
import Derived.Laws.BytesString
namespace Go.Proofs.YtpophgfjdlkgiaaGreatDoor
namespace Rk
open Go Go.RowKit

/-! ### Decisions -/
abbrev Orc := List (Nat × Bool)

/-- A test: by itself, or as the list says; what the list says is owed. -/
def tst (b : Bool) (q : Orc) (ob : Prop) : Bool × Orc × Prop :=
  match q with
  | [] => (b, [], ob)
  | (0, c) :: r => (c, r, b = c ∧ ob)
  | (n + 1, c) :: r => (b, (n, c) :: r, ob)

theorem tst_ok {b : Bool} {q : Orc} {ob : Prop} (h : (tst b q ob).2.2) : (tst b q ob).1 = b ∧ ob := by
  match q, h with
  | [], h => exact ⟨rfl, h⟩
  | (0, c) :: r, h => exact ⟨h.1.symm, h.2⟩
  | (n + 1, c) :: r, h => exact ⟨rfl, h⟩

/-! ### What is read of memory that is not the function's own -/
abbrev Kn := Addr → Option (Value × Option Prop)

def Knows (kn : Kn) (w : World) : Prop := ∀ a v o, kn a = some (v, o) → (∀ p, o = some p → p) → w.cell? a = some v

theorem Knows.below {kn : Kn} {w w' : World} (h : Knows kn w) (b : Below w.heap.size w w') : Knows kn w' := by
  intro a v o ha ho
  have hc := h a v o ha ho
  rw [b.cell (World.block_lt_of_cell? w a hc)]
  exact hc

def run {α : Type} (P : Program) (kn : Kn) : Sem α → Prop → Option (α × Prop)
  | .pure a, ob => some (a, ob)
  | .load _ a k, ob => match kn a with
    | some (v, none) => run P kn (k v) ob
    | some (v, some o) => run P kn (k v) (o ∧ ob)
    | none => none
  | .program k, ob => run P kn (k P) ob
  | .mark _ k, ob => run P kn k ob
  | _, _ => none

theorem run_ok {α : Type} {P : Program} {kn : Kn} (s : Sem α) : ∀ {ob ob' : Prop} {r : α}, run P kn s ob = some (r, ob') → (ob' → ob) ∧ (ob' → ∀ w, Knows kn w → s.run P w = .ok r w) := by
  induction s with
  | pure a =>
    intro ob ob' r h
    simp only [run, Option.some.injEq, Prod.mk.injEq] at h
    obtain ⟨rfl, rfl⟩ := h
    exact ⟨id, fun _ _ _ => rfl⟩
  | load m a k ih =>
    intro ob ob' r h
    simp only [run] at h
    split at h
    · rename_i v hv
      obtain ⟨h1, h2⟩ := ih v h
      refine ⟨h1, fun x w hk => ?_⟩
      simp only [Sem.run, hk a v none hv (fun p hp => by cases hp)]
      exact h2 x w hk
    · rename_i v o hv
      obtain ⟨h1, h2⟩ := ih v h
      refine ⟨fun x => (h1 x).2, fun x w hk => ?_⟩
      simp only [Sem.run, hk a v (some o) hv (fun p hp => by cases hp; exact (h1 x).1)]
      exact h2 x w hk
    · cases h
  | program k ih =>
    intro ob ob' r h
    simp only [run] at h
    obtain ⟨h1, h2⟩ := ih P h
    exact ⟨h1, fun x w hk => by simp only [Sem.run]; exact h2 x w hk⟩
  | mark m k ih =>
    intro ob ob' r h
    simp only [run] at h
    obtain ⟨h1, h2⟩ := ih h
    exact ⟨h1, fun x w hk => by simp only [Sem.run]; exact h2 x w hk⟩
  | _ => intro ob ob' r h; simp only [run] at h; cases h

/-! ### Own memory: an address with a spot is one of the function's own blocks, by number -/
def untag : Value → Bool
  | .pointer (some a) => a.spot.isNone
  | .slice (some a) _ _ => a.spot.isNone
  | _ => true

def conc (β : List Nat) : Value → Value
  | .pointer (some ⟨i, o, some _⟩) => .pointer (some ⟨β.getD i 0, o, none⟩)
  | .slice (some ⟨i, o, some _⟩) n c => .slice (some ⟨β.getD i 0, o, none⟩) n c
  | v => v

def sc (n : Nat) : Value → Prop
  | .pointer (some ⟨i, _, some _⟩) => i < n
  | .slice (some ⟨i, _, some _⟩) _ _ => i < n
  | _ => True

theorem conc_untag {β : List Nat} {v : Value} (h : untag v = true) : conc β v = v := by
  unfold conc
  split
  · simp [untag] at h
  · simp [untag] at h
  · rfl

theorem sc_untag {n : Nat} {v : Value} (h : untag v = true) : sc n v := by
  unfold sc
  split
  · simp [untag] at h
  · simp [untag] at h
  · trivial

theorem conc_ext {β l : List Nat} {v : Value} (h : sc β.length v) : conc (β ++ l) v = conc β v := by
  unfold conc
  split
  · simp only [sc] at h; simp [List.getD, List.getElem?_append_left h]
  · simp only [sc] at h; simp [List.getD, List.getElem?_append_left h]
  · rfl

theorem sc_mono {n m : Nat} {v : Value} (hnm : n ≤ m) (h : sc n v) : sc m v := by
  unfold sc at *
  split <;> first | trivial | (simp only at h; omega)

theorem conc_bool {β : List Nat} {v : Value} {b : Bool} : conc β v = .bool b ↔ v = .bool b := by
  unfold conc
  split <;> simp

theorem conc_undef {β : List Nat} : conc β undef = undef := rfl

def ev (t : Array Value) (x : Operand) : Value := Act.eval ⟨t, []⟩ x

def okc : Operand → Bool
  | .const v => untag v
  | _ => true

def ScF (n : Nat) (t : Array Value) : Prop := ∀ i, sc n (t.getD i undef)

theorem getD_map (t : Array Value) (β : List Nat) (i : Nat) : (t.map (conc β)).getD i undef = conc β (t.getD i undef) := by
  by_cases h : i < t.size
  · simp [Array.getD, h]
  · simp [Array.getD, h, conc_undef]

theorem ev_conc {t : Array Value} {β : List Nat} {ds : List Deferred} {x : Operand} (h : okc x = true) : Act.eval ⟨t.map (conc β), ds⟩ x = conc β (ev t x) := by
  cases x with
  | tmp i => exact getD_map t β i
  | const v => exact (conc_untag h).symm
  | global g => rfl
  | func f => rfl

theorem sc_ev {n : Nat} {t : Array Value} {x : Operand} (ht : ScF n t) (h : okc x = true) : sc n (ev t x) := by
  cases x with
  | tmp i => exact ht i
  | const v => exact sc_untag h
  | global g => trivial
  | func f => trivial

def put (t : Array Value) (dst : Option Tmp) (v : Value) : Array Value :=
  match dst with
  | some d => t.setIfInBounds d v
  | none => t

theorem put_act (t : Array Value) (ds : List Deferred) (dst : Option Tmp) (v : Value) : (Act.mk t ds).put dst v = ⟨put t dst v, ds⟩ := by
  cases dst <;> rfl

theorem put_map (t : Array Value) (β : List Nat) (dst : Option Tmp) (v : Value) : put (t.map (conc β)) dst (conc β v) = (put t dst v).map (conc β) := by
  cases dst with
  | none => rfl
  | some d => simp [put]

theorem ScF.put {n : Nat} {t : Array Value} (ht : ScF n t) {v : Value} (hv : sc n v) (dst : Option Tmp) : ScF n (put t dst v) := by
  intro i
  cases dst with
  | none => exact ht i
  | some d =>
    simp only [Rk.put]
    by_cases h : d = i
    · subst h
      by_cases hd : d < t.size
      · simpa [Array.getD, hd] using hv
      · have := ht d
        simpa [Array.getD, hd] using this
    · have := ht i
      by_cases hi : i < t.size
      · simpa [Array.getD, hi, Array.getElem_setIfInBounds, h] using this
      · simpa [Array.getD, hi] using this

theorem ScF.mono {n m : Nat} {t : Array Value} (h : ScF n t) (hnm : n ≤ m) : ScF m t := fun i => sc_mono hnm (h i)

theorem map_ext {t : Array Value} {β l : List Nat} (h : ScF β.length t) : t.map (conc (β ++ l)) = t.map (conc β) := by
  apply Array.ext
  · simp
  · intro i h1 h2
    simp only [Array.getElem_map]
    have hi : i < t.size := by simpa using h1
    have := h i
    simp only [Array.getD, hi, dif_pos] at this
    exact conc_ext (by simpa using this)

structure Blk where
  cells : List Value
  ty : TypeId

/-- The world holds the function's own blocks, at the places β; what lay below is as it was. -/
structure R (w0 : World) (β : List Nat) (H : List Blk) (w : World) : Prop where
  len : β.length = H.length
  nodup : β.Nodup
  below : Below w0.heap.size w0 w
  blk : ∀ (i b : Nat) (k : Blk), β[i]? = some b → H[i]? = some k → w0.heap.size ≤ b ∧ w.heap[b]? = some (.cells (k.cells.map (conc β)).toArray k.ty (0, 0)) ∧ ∀ v ∈ k.cells, sc β.length v

theorem R.start (w : World) : R w [] [] w := ⟨rfl, List.nodup_nil, Below.refl _ _, fun i b k h => by simp at h⟩

theorem R.drew {w0 w : World} {β : List Nat} {H : List Blk} (h : R w0 β H w) : R w0 β H { w with drawn := w.drawn + 1 } :=
  ⟨h.len, h.nodup, h.below.drew, fun i b k hb hk => h.blk i b k hb hk⟩

theorem R.at_lt {w0 w : World} {β : List Nat} {H : List Blk} (h : R w0 β H w) {b : Nat} (hb : b ∈ β) : b < w.heap.size := by
  obtain ⟨i, hi⟩ := List.getElem?_of_mem hb
  have hlt : i < H.length := by rw [← h.len]; exact (List.getElem?_eq_some_iff.1 hi).1
  obtain ⟨_, h2, _⟩ := h.blk i b H[i] hi (List.getElem?_eq_getElem hlt)
  exact (Array.getElem?_eq_some_iff.1 h2).1

theorem R.call {w0 w w' : World} {β : List Nat} {H : List Blk} (h : R w0 β H w) (hb : Below w.heap.size w w') : R w0 β H w' :=
  ⟨h.len, h.nodup, h.below.trans (hb.mono h.below.size), fun i b k hi hk => by
    obtain ⟨h1, h2, h3⟩ := h.blk i b k hi hk
    exact ⟨h1, by rw [hb.block b (h.at_lt (List.mem_of_getElem? hi))]; exact h2, h3⟩⟩

theorem R.knows {w0 w : World} {β : List Nat} {H : List Blk} {kn : Kn} (h : R w0 β H w) (hk : Knows kn w0) : Knows kn w := hk.below h.below

theorem map_conc_ext {β l : List Nat} {cs : List Value} (h : ∀ v ∈ cs, sc β.length v) : cs.map (conc (β ++ l)) = cs.map (conc β) :=
  List.map_congr_left fun v hv => conc_ext (h v hv)

/-- A new block. -/
theorem R.alloc {w0 w : World} {β : List Nat} {H : List Blk} (h : R w0 β H w) (cs : List Value) (T : TypeId) (hs : ∀ v ∈ cs, sc β.length v) :
    R w0 (β ++ [w.heap.size]) (H ++ [⟨cs, T⟩]) (w.alloc (.cells (cs.map (conc β)).toArray T)) := by
  refine ⟨by simp [h.len], ?_, h.below.alloc h.below.size _, ?_⟩
  · rw [List.nodup_append]
    refine ⟨h.nodup, by simp, ?_⟩
    intro a ha b hb
    have := h.at_lt ha
    simp only [List.mem_singleton] at hb
    omega
  · intro i b k hb hk
    by_cases hi : i < β.length
    · rw [List.getElem?_append_left hi] at hb
      rw [List.getElem?_append_left (by rw [← h.len]; exact hi)] at hk
      obtain ⟨h1, h2, h3⟩ := h.blk i b k hb hk
      refine ⟨h1, ?_, fun v hv => sc_mono (by simp) (h3 v hv)⟩
      rw [Below.heap_alloc _ _ _ (h.at_lt (List.mem_of_getElem? hb)), map_conc_ext h3]
      exact h2
    · rw [List.getElem?_append_right (by omega)] at hb
      rw [List.getElem?_append_right (by rw [← h.len]; omega)] at hk
      have hi0 : i - β.length = 0 := by
        by_cases e : i - β.length = 0
        · exact e
        · rw [List.getElem?_eq_none (by simp; omega)] at hb; cases hb
      rw [hi0] at hb
      rw [← h.len, hi0] at hk
      simp only [List.getElem?_cons_zero, Option.some.injEq] at hb hk
      subst hb; subst hk
      refine ⟨h.below.size, ?_, fun v hv => sc_mono (by simp) (hs v hv)⟩
      rw [heap_alloc_new, map_conc_ext hs]

/-- A block written over. -/
theorem R.setRow {w0 w : World} {β : List Nat} {H : List Blk} (h : R w0 β H w) {i b : Nat} {k : Blk} (hb : β[i]? = some b) (hk : H[i]? = some k) (cs : List Value) (hs : ∀ v ∈ cs, sc β.length v) :
    R w0 β (H.set i ⟨cs, k.ty⟩) (w.setRow b (cs.map (conc β)).toArray) := by
  obtain ⟨h1, h2, h3⟩ := h.blk i b k hb hk
  refine ⟨by simp [h.len], h.nodup, below_setRow h.below h1 _, ?_⟩
  intro j c l hc hl
  by_cases e : j = i
  · subst e
    rw [hb] at hc
    cases hc
    have hj : j < H.length := (List.getElem?_eq_some_iff.1 hk).1
    rw [List.getElem?_set_self hj] at hl
    cases hl
    exact ⟨h1, setRow_heap w b _ _ _ _ h2, hs⟩
  · rw [List.getElem?_set_ne (by omega)] at hl
    obtain ⟨g1, g2, g3⟩ := h.blk j c l hc hl
    refine ⟨g1, ?_, g3⟩
    rw [setRow_other w b c _ (fun e2 => e ?_)]
    · exact g2
    · subst e2
      have hi : i < β.length := (List.getElem?_eq_some_iff.1 hb).1
      have hj : j < β.length := (List.getElem?_eq_some_iff.1 hc).1
      have e1 := (List.getElem?_eq_some_iff.1 hb).2
      have e3 := (List.getElem?_eq_some_iff.1 hc).2
      have hp := List.pairwise_iff_getElem.1 h.nodup
      rcases Nat.lt_or_gt_of_ne e with hlt | hlt
      · exact absurd (e3.trans e1.symm) (hp j i hj hi hlt)
      · exact absurd (e1.trans e3.symm) (hp i j hi hj hlt)

/-! ### Frames as they are run: what was written last stands first -/
structure Fr where
  n : Nat
  l : List (Nat × Value)

def look : List (Nat × Value) → Nat → Value
  | [], _ => undef
  | (j, v) :: r, i => match Nat.beq j i with
    | true => v
    | false => look r i

def Fr.get (f : Fr) (i : Nat) : Value :=
  match Nat.blt i f.n with
  | true => look f.l i
  | false => undef

def Fr.arr (f : Fr) : Array Value := ⟨(List.range f.n).map (look f.l)⟩

theorem Fr.arr_getD (f : Fr) (i : Nat) : f.arr.getD i undef = f.get i := by
  unfold Fr.get
  by_cases h : i < f.n
  · have e : Nat.blt i f.n = true := by simpa [Nat.blt_eq] using h
    rw [e]
    simp [Fr.arr, Array.getD, h]
  · have e : Nat.blt i f.n = false := by
      cases hb : Nat.blt i f.n with
      | false => rfl
      | true => exact absurd (by simpa [Nat.blt_eq] using hb) h
    rw [e]
    simp [Fr.arr, Array.getD, h]

def evF (f : Fr) : Operand → Value
  | .tmp i => f.get i
  | .const v => v
  | .global g => .pointer (some ⟨g, 0, none⟩)
  | .func f => .func (.func f) #[] #[]

theorem evF_eq (f : Fr) : evF f = ev f.arr := by
  funext x
  cases x with
  | tmp i => exact (f.arr_getD i).symm
  | _ => rfl

def putF (f : Fr) (dst : Option Tmp) (v : Value) : Fr :=
  match dst with
  | some d => ⟨f.n, (d, v) :: f.l⟩
  | none => f

theorem putF_arr (f : Fr) (dst : Option Tmp) (v : Value) : (putF f dst v).arr = put f.arr dst v := by
  cases dst with
  | none => rfl
  | some d =>
    apply Array.ext
    · simp [putF, Fr.arr, put]
    · intro i h1 h2
      have hi : i < f.n := by simpa [putF, Fr.arr] using h1
      simp only [putF, Fr.arr, put]
      by_cases h : d = i
      · subst h
        simp [look]
      · have hb : Nat.beq d i = false := by
          cases hb : Nat.beq d i with
          | false => rfl
          | true => exact absurd (Nat.eq_of_beq_eq_true hb) h
        simp [look, hb, h]

def yieldedF (all : Array Oper) (f : Fr) (j : Nat) : Option Bool :=
  match (all[j]?).bind (·.dst) with
  | some d => match f.get d with
    | .bool b => some b
    | _ => none
  | none => none

theorem yieldedF_eq (all : Array Oper) (f : Fr) : yieldedF all f = yielded all f.arr := by
  funext j
  unfold yieldedF yielded
  cases h : (all[j]?).bind (·.dst) with
  | none => rfl
  | some d =>
    simp only [Option.bind_some]
    rw [← f.arr_getD d]
    by_cases hd : d < f.arr.size
    · have e1 : f.arr[d]? = some f.arr[d] := Array.getElem?_eq_getElem hd
      have e2 : f.arr.getD d undef = f.arr[d] := by simp [Array.getD, hd]
      rw [e1, e2]
      cases f.arr[d] <;> rfl
    · have e1 : f.arr[d]? = none := Array.getElem?_eq_none (Nat.le_of_not_lt hd)
      have e2 : f.arr.getD d undef = undef := by simp [Array.getD, hd]
      rw [e1, e2]
      rfl

/-! ### One operation -/
def szOf (P : Program) (t : TypeId) : Option Nat := (P.info? t).map (·.size)
def isAg (P : Program) (t : TypeId) : Option Bool :=
  match P.underlying t with
  | some (.struct _) => some true
  | some (.array _ _) => some true
  | some _ => some false
  | none => none

theorem run_isAgg {P : Program} {t : TypeId} {b : Bool} (h : isAg P t = some b) (w : World) : (isAgg t).run P w = .ok b w := by
  unfold isAg at h
  unfold isAgg
  split at h <;> rename_i hu <;> simp only [Sem.run_bind, underlying, run_program, Result.andThen_ok, hu] <;> cases h <;> try rfl
  rename_i d h1 h2
  cases d <;> first | rfl | (exfalso; first | exact h1 _ rfl | exact h2 _ _ rfl)

theorem run_sizeOf {P : Program} {t : TypeId} {n : Nat} (h : szOf P t = some n) (w : World) : (sizeOf t).run P w = .ok n w := by
  unfold szOf at h
  cases hi : P.info? t with
  | none => simp [hi] at h
  | some i =>
    simp only [hi, Option.map_some, Option.some.injEq] at h
    simp [sizeOf, typeInfo, hi, h]

def ldLoc (P : Program) (T : TypeId) (k : Blk) (o : Nat) : Option Value :=
  match isAg P T, szOf P T with
  | some true, some n => if ((k.cells.drop o).take n).length = n ∧ ((k.cells.drop o).take n).all untag = true then some (.agg ⟨(k.cells.drop o).take n⟩) else none
  | some false, some _ => k.cells[o]?
  | _, _ => none

theorem cell_blk {w : World} {b : Nat} {β : List Nat} {k : Blk} (hb : w.heap[b]? = some (.cells (k.cells.map (conc β)).toArray k.ty (0, 0))) (j : Nat) : w.cell? ⟨b, j, none⟩ = (k.cells[j]?).map (conc β) := by
  rw [cell_of_row w b j _ _ _ hb]
  simp

theorem addr_add (b o n : Nat) : (⟨b, o, none⟩ : Addr).add n = ⟨b, o + n, none⟩ := by
  unfold Addr.add
  split
  · subst_vars; rfl
  · rfl

theorem run_ldLoc {P : Program} {T : TypeId} {k : Blk} {o b : Nat} {v : Value} {β : List Nat} {w : World} (h : ldLoc P T k o = some v) (hb : w.heap[b]? = some (.cells (k.cells.map (conc β)).toArray k.ty (0, 0))) :
    (loadVar T ⟨b, o, none⟩).run P w = .ok (conc β v) w := by
  unfold ldLoc at h
  split at h
  · rename_i n ha hs
    split at h
    · rename_i hl
      cases h
      have hc : conc β (.agg ⟨(k.cells.drop o).take n⟩) = .agg ⟨(k.cells.drop o).take n⟩ := rfl
      have hld : (loadCells ⟨b, o, none⟩ n).run P w = .ok (((k.cells.drop o).take n)).toArray w := by
        have := run_loadCells_list (P := P) w ⟨b, o, none⟩ ((k.cells.drop o).take n) (fun j v hv => by
          have hj : j < n := by
            have := (List.getElem?_eq_some_iff.1 hv).1
            omega
          rw [List.getElem?_take_of_lt hj, List.getElem?_drop] at hv
          have hu : untag v = true := by
            refine List.all_eq_true.1 hl.2 v ?_
            refine List.mem_of_getElem? (i := j) ?_
            rw [List.getElem?_take_of_lt hj, List.getElem?_drop]; exact hv
          rw [addr_add, cell_blk hb, hv]
          simp [conc_untag hu])
        rwa [hl.1] at this
      rw [hc]
      simp only [loadVar, Sem.run_bind, run_isAgg ha, Result.andThen_ok, if_true, run_sizeOf hs, hld]
      rfl
    · cases h
  · rename_i ha hs
    simp only [loadVar, Sem.run_bind, run_isAgg ha, Result.andThen_ok, Bool.false_eq_true, if_false]
    have hc : w.cell? ⟨b, o, none⟩ = some (conc β v) := by rw [cell_blk hb, h]; rfl
    simp [hc]
  · cases h

theorem ldLoc_sc {P : Program} {T : TypeId} {k : Blk} {o n : Nat} {v : Value} (h : ldLoc P T k o = some v) (hs : ∀ v ∈ k.cells, sc n v) : sc n v := by
  unfold ldLoc at h
  split at h
  · split at h
    · cases h; trivial
    · cases h
  · exact hs v (List.mem_of_getElem? h)
  · cases h

def cellsOk : Value → Bool
  | .agg cs => cs.toList.all untag
  | _ => true

theorem cells_conc {v : Value} {β : List Nat} (h : cellsOk v = true) : (conc β v).cells.toList = v.cells.toList.map (conc β) := by
  cases v with
  | agg cs =>
    show cs.toList = cs.toList.map (conc β)
    simp only [cellsOk, List.all_eq_true] at h
    have := List.map_congr_left (f := conc β) (g := id) (l := cs.toList) (fun v hv => conc_untag (h v hv))
    simpa using this.symm
  | pointer a =>
    cases a with
    | none => rfl
    | some a => obtain ⟨i, o, s⟩ := a; cases s <;> rfl
  | slice a n c =>
    cases a with
    | none => rfl
    | some a => obtain ⟨i, o, s⟩ := a; cases s <;> rfl
  | _ => rfl

theorem cells_sc {v : Value} {n : Nat} (h : cellsOk v = true) (hs : sc n v) : ∀ u ∈ v.cells.toList, sc n u := by
  cases v with
  | agg cs =>
    simp only [cellsOk, List.all_eq_true] at h
    exact fun u hu => sc_untag (h u hu)
  | _ => intro u hu; simp only [Value.cells, List.mem_singleton] at hu; subst hu; exact hs

theorem one_conc {v : Value} {β : List Nat} (h : v.oneCell' = true) : (conc β v).oneCell' = true := by
  cases v with
  | pointer a =>
    cases a with
    | none => exact h
    | some a => obtain ⟨i, o, s⟩ := a; cases s <;> exact h
  | slice a n c =>
    cases a with
    | none => exact h
    | some a => obtain ⟨i, o, s⟩ := a; cases s <;> exact h
  | _ => exact h

structure Res where
  v : Value
  H : List Blk
  q : Orc
  ob : Prop

def fin (v : Value) (H : List Blk) (q : Orc) (ob : Prop) : Res :=
  match v with
  | .bool b => ⟨.bool (tst b q ob).1, H, (tst b q ob).2.1, (tst b q ob).2.2⟩
  | v => ⟨v, H, q, ob⟩

theorem fin_ok {v : Value} {H : List Blk} {q : Orc} {ob : Prop} : (fin v H q ob).H = H ∧ ((fin v H q ob).ob → (fin v H q ob).v = v ∧ ob) := by
  cases v <;> first
    | exact ⟨rfl, fun h => ⟨rfl, h⟩⟩
    | exact ⟨rfl, fun h => ⟨congrArg Value.bool (tst_ok h).1, (tst_ok h).2⟩⟩

/-- What is known of calls. -/
abbrev Call := FuncId → Array Value → Orc → Prop → Option (Value × Orc × Prop)
def Good (P : Program) (kn : Kn) (call : Call) : Prop :=
  ∀ f args q ob v q' ob', call f args q ob = some (v, q', ob') → ∀ w, Knows kn w → ob' → ob ∧ Calls P f args w fun e w' => e = .returned v ∧ Below w.heap.size w w'

def isSel : Op → Bool
  | .select _ _ => true
  | _ => false

def pureOp (P : Program) (kn : Kn) (call : Call) (o : Oper) (e : Operand → Value) (H : List Blk) (q : Orc) (ob : Prop) : Option Res :=
  if isSel o.op = false ∧ o.op.operands.toList.all (fun x => okc x && untag (e x)) = true then
    match run P kn (execOp e o) ob with
    | some (.value v, ob1) => if untag v = true then some (fin v H q ob1) else none
    | some (.skip, ob1) => some ⟨undef, H, q, ob1⟩
    | some (.enter f args, ob1) => match call f args q ob1 with
      | some (v, q1, ob2) => if untag v = true then some (fin v H q1 ob2) else none
      | none => none
    | _ => none
  else none

section
variable {P : Program} {kn : Kn} {call : Call} {w0 : World}

/-- What a quiet operation does. -/
def QOk (P : Program) (w0 : World) (o : Oper) (t : Array Value) (H : List Blk) (ob : Prop) (r : Res) : Prop :=
  r.H = H ∧ (r.ob → ob) ∧ (r.ob → ∀ β w, R w0 β H w → ScF β.length t → sc β.length r.v ∧ o.quietAt P ⟨t.map (conc β), []⟩ (R w0 β H) w (conc β r.v))

theorem pureOp_ok (hk : Knows kn w0) (hg : Good P kn call) {o : Oper} {t : Array Value} {H : List Blk} {q : Orc} {ob : Prop} {r : Res} (h : pureOp P kn call o (ev t) H q ob = some r) : QOk P w0 o t H ob r := by
  unfold pureOp at h
  split at h
  · rename_i hc
    obtain ⟨hsel, hops⟩ := hc
    have hcong : ∀ β, execOp (Act.eval ⟨t.map (conc β), []⟩) o = execOp (ev t) o := fun β =>
      execOp_congr o (fun cs b e => by rw [e] at hsel; cases hsel) (fun x hx => by
        have := List.all_eq_true.1 hops x (by simpa using hx)
        simp only [Bool.and_eq_true] at this
        rw [ev_conc this.1, conc_untag this.2])
    split at h
    · rename_i v ob1 hr
      obtain ⟨g1, g2⟩ := run_ok _ hr
      split at h
      · rename_i hu
        cases h
        obtain ⟨f1, f2⟩ := fin_ok (v := v) (H := H) (q := q) (ob := ob1)
        refine ⟨f1, fun x => g1 (f2 x).2, fun x β w hR _ => ?_⟩
        rw [(f2 x).1]
        refine ⟨sc_untag hu, ?_⟩
        unfold Oper.quietAt
        rw [hcong, g2 (f2 x).2 w (hR.knows hk), conc_untag hu]
        exact ⟨rfl, rfl⟩
      · cases h
    · rename_i ob1 hr
      obtain ⟨g1, g2⟩ := run_ok _ hr
      cases h
      refine ⟨rfl, g1, fun x β w hR _ => ⟨trivial, ?_⟩⟩
      unfold Oper.quietAt
      rw [hcong, g2 x w (hR.knows hk)]
      exact ⟨rfl, rfl⟩
    · rename_i f args ob1 hr
      obtain ⟨g1, g2⟩ := run_ok _ hr
      split at h
      · rename_i v q1 ob2 hcall
        have hgc := hg f args q ob1 v q1 ob2 hcall
        have c1 : ob2 → ob1 := fun x => (hgc w0 hk x).1
        have c2 : ob2 → ∀ w, Knows kn w → Calls P f args w fun e w' => e = .returned v ∧ Below w.heap.size w w' := fun x w hkw => (hgc w hkw x).2
        split at h
        · rename_i hu
          cases h
          obtain ⟨f1, f2⟩ := fin_ok (v := v) (H := H) (q := q1) (ob := ob2)
          refine ⟨f1, fun x => g1 (c1 (f2 x).2), fun x β w hR _ => ?_⟩
          rw [(f2 x).1]
          refine ⟨sc_untag hu, ?_⟩
          unfold Oper.quietAt
          rw [hcong, g2 (c1 (f2 x).2) w (hR.knows hk), conc_untag hu]
          exact ⟨rfl, (c2 (f2 x).2 w (hR.knows hk)).mono fun e w' he => ⟨he.1, hR.call he.2⟩⟩
        · cases h
      · cases h
    · cases h
  · cases h
end

/-- Where an address of a frame lies in the world. -/
def pl (β : List Nat) (i : Nat) (sp : Option Nat) : Nat :=
  match sp with
  | some _ => β.getD i 0
  | none => i

theorem conc_ptr (β : List Nat) (i o : Nat) (sp : Option Nat) : conc β (.pointer (some ⟨i, o, sp⟩)) = .pointer (some ⟨pl β i sp, o, none⟩) := by cases sp <;> rfl
theorem conc_slc (β : List Nat) (i o : Nat) (sp : Option Nat) (n c : Nat) : conc β (.slice (some ⟨i, o, sp⟩) n c) = .slice (some ⟨pl β i sp, o, none⟩) n c := by cases sp <;> rfl
theorem sc_ptr {n i o o' : Nat} {sp : Option Nat} (h : sc n (.pointer (some ⟨i, o, sp⟩))) : sc n (.pointer (some ⟨i, o', sp⟩)) := by cases sp <;> exact h
theorem sc_slc {n i o o' l c : Nat} {sp : Option Nat} (h : sc n (.slice (some ⟨i, o, sp⟩) l c)) : sc n (.pointer (some ⟨i, o', sp⟩)) := by cases sp <;> exact h

/-- Whole numbers' operations that need no look. -/
def intOp (op : BinOp) (k : IntKind) (a b : Int) : Option Value :=
  match op with
  | .add => some (.int k (k.wrap (a + b)))
  | .sub => some (.int k (k.wrap (a - b)))
  | .mul => some (.int k (k.wrap (a * b)))
  | .eql => some (.bool (a == b))
  | .neq => some (.bool (a != b))
  | .lss => some (.bool (a < b))
  | .leq => some (.bool (a ≤ b))
  | .gtr => some (.bool (a > b))
  | .geq => some (.bool (a ≥ b))
  | _ => none

/-- Functions that have a body, and are called plainly. -/
def OkF (P : Program) (okf : FuncId → Bool) : Prop := ∀ g, okf g = true → ∃ fn, P.funcs[g]? = some fn ∧ (fn.name == "runtime.NumGoroutine") = false ∧ fn.body.isNone = false

def bnd (e : Operand → Value) (x : Option Operand) (dflt y : Nat) (q : Orc) (ob : Prop) : Option (Nat × Orc × Prop) :=
  match x with
  | none => some (dflt, q, ob)
  | some z => if okc z = true then
      match e z with
      | .int _ n => if (tst (decide (0 ≤ n ∧ n ≤ y)) q ob).1 = true then some (n.toNat, (tst (decide (0 ≤ n ∧ n ≤ y)) q ob).2.1, (tst (decide (0 ≤ n ∧ n ≤ y)) q ob).2.2) else none
      | _ => none
    else none

def bytesOf : List Value → Option (List Int)
  | [] => some []
  | .int .u8 n :: r => match bytesOf r with
    | some l => some (n :: l)
    | none => none
  | _ => none
theorem bytesOf_ok : ∀ {l : List Value} {ns : List Int}, bytesOf l = some ns → l = ns.map (Value.int .u8)
  | [], ns, h => by simp only [bytesOf, Option.some.injEq] at h; subst h; rfl
  | v :: r, ns, h => by
    unfold bytesOf at h
    split at h
    · rename_i e; cases e
    · rename_i n r' e
      split at h
      · rename_i l hl
        cases h
        cases e
        rw [List.map_cons, ← bytesOf_ok hl]
      · cases h
    · cases h
theorem push_bytes : ∀ (ns : List Int) (a : ByteArray), ns.foldl (fun r n => r.push (UInt8.ofNat n.toNat)) a = ⟨a.data ++ (ns.map fun n => UInt8.ofNat n.toNat).toArray⟩
  | [], a => by simp
  | n :: r, a => by
    rw [List.foldl_cons, push_bytes r]
    congr 1
    apply Array.ext'
    simp [ByteArray.push]

def opQ (P : Program) (okf : FuncId → Bool) (kn : Kn) (call : Call) (o : Oper) (e : Operand → Value) (H : List Blk) (q : Orc) (ob : Prop) : Option Res :=
  match o.op with
  | .move x => if okc x = true then some ⟨e x, H, q, ob⟩ else none
  | .assign x => if okc x = true then some ⟨e x, H, q, ob⟩ else none
  | .pick c a b => if (okc c && okc a && okc b) = true then
      match e c with
      | .bool s => some ⟨if s then e a else e b, H, q, ob⟩
      | _ => none
    else none
  | .load T a => match e a with
    | .pointer (some ⟨i, off, some _⟩) => if okc a = true then
        match H[i]? with
        | some k => match ldLoc P T k off with
          | some v => some ⟨v, H, q, ob⟩
          | none => none
        | none => none
      else none
    | _ => pureOp P kn call o e H q ob
  | .fieldAddr S x f => match e x with
    | .pointer (some ⟨i, off, sp⟩) => if okc x = true then
        match P.underlying S with
        | some (.struct fs) => match fs[f]? with
          | some fd => match szOf P fd.type with
            | some (_ + 1) => some ⟨.pointer (some ⟨i, off + fd.offset, sp⟩), H, q, ob⟩
            | _ => none
          | none => none
        | _ => none
      else none
    | _ => none
  | .indexAddr S x ix => if (okc x && okc ix) = true then
      match e ix, P.underlying S, e x with
      | .int _ n, some (.array len el), .pointer (some ⟨i, off, sp⟩) =>
        match szOf P el with
        | some s => if (tst (decide (0 ≤ n ∧ n < len)) q ob).1 = true then some ⟨.pointer (some ⟨i, off + n.toNat * s, sp⟩), H, (tst (decide (0 ≤ n ∧ n < len)) q ob).2.1, (tst (decide (0 ≤ n ∧ n < len)) q ob).2.2⟩ else none
        | none => none
      | .int _ n, some (.slice el), .slice (some ⟨i, off, sp⟩) len _ =>
        match szOf P el with
        | some s => if (tst (decide (0 ≤ n ∧ n < len)) q ob).1 = true then some ⟨.pointer (some ⟨i, off + n.toNat * s, sp⟩), H, (tst (decide (0 ≤ n ∧ n < len)) q ob).2.1, (tst (decide (0 ≤ n ∧ n < len)) q ob).2.2⟩ else none
        | none => none
      | _, _, _ => none
    else none
  | .index S x ix => match P.underlying S, e x, e ix with
    | some .string, .string s, .int _ n => if (okc x && okc ix) = true then
        if (tst (decide (0 ≤ n ∧ n < s.size)) q ob).1 = true then some ⟨.int .u8 ((s.data.toList.getD n.toNat 0).toNat : Int), H, (tst (decide (0 ≤ n ∧ n < s.size)) q ob).2.1, (tst (decide (0 ≤ n ∧ n < s.size)) q ob).2.2⟩ else none
      else none
    | _, _, _ => pureOp P kn call o e H q ob
  | .slice S x lo hi none => match P.underlying S, e x with
    | some .string, .string s => if okc x = true then
        match bnd e hi s.size s.size q ob with
        | some (h, q1, ob1) => match bnd e lo 0 h q1 ob1 with
          | some (l, q2, ob2) => some ⟨.string (s.extract l h), H, q2, ob2⟩
          | none => none
        | none => none
      else none
    | some (.array len el), .pointer (some ⟨i, off, some tg⟩) => if okc x = true then
        match szOf P el with
        | some 1 => match bnd e hi len len q ob with
          | some (h, q1, ob1) => match bnd e lo 0 h q1 ob1 with
            | some (l, q2, ob2) => if l < len then some ⟨.slice (some ⟨i, off + l, some tg⟩) (h - l) (len - l), H, q2, ob2⟩ else none
            | none => none
          | none => none
        | _ => none
      else none
    | _, _ => pureOp P kn call o e H q ob
  | .binOp bop _ x y _ => match e x, e y with
    | .int k a, .int k' b => if (okc x && okc y && decide (k = k')) = true then
        match intOp bop k a b with
        | some v => some (fin v H q ob)
        | none => pureOp P kn call o e H q ob
      else none
    | .string a, .string b => if (okc x && okc y) = true then
        match bop with
        | .eql => some (fin (.bool (a.data.toList == b.data.toList)) H q ob)
        | .neq => some (fin (.bool !(a.data.toList == b.data.toList)) H q ob)
        | .add => if (tst (decide (((a.size + b.size : Nat) : Int) ≤ 9223372036854775807)) q ob).1 = true then some ⟨.string (a ++ b), H, (tst (decide (((a.size + b.size : Nat) : Int) ≤ 9223372036854775807)) q ob).2.1, (tst (decide (((a.size + b.size : Nat) : Int) ≤ 9223372036854775807)) q ob).2.2⟩ else none
        | _ => pureOp P kn call o e H q ob
      else none
    | _, _ => pureOp P kn call o e H q ob
  | .convert src dst x => match e x, P.underlying src, P.underlying dst with
    | .int _ n, some _, some (.int k) => if okc x = true then some ⟨.int k (k.wrap n), H, q, ob⟩ else none
    | .slice (some ⟨i, off, some _⟩) n _, some (.slice el), some .string => if okc x = true then
        match P.underlying el, H[i]? with
        | some (.int .u8), some k => match bytesOf ((k.cells.drop off).take n) with
          | some ns => if ns.length = n then some ⟨.string ⟨⟨ns.map fun n => UInt8.ofNat n.toNat⟩⟩, H, q, ob⟩ else none
          | none => none
        | _, _ => none
      else none
    | _, _, _ => pureOp P kn call o e H q ob
  | .extract x i => match e x with
    | .tuple vs => match vs[i]? with
      | some v => if (okc x && untag v) = true then some ⟨v, H, q, ob⟩ else none
      | none => none
    | _ => none
  | .call c => match c.callee with
    | .value f => match e f with
      | .func (.func g) ⟨[]⟩ ⟨[]⟩ => if (okc f && okf g && c.args.toList.all (fun x => okc x && untag (e x))) = true then
          match call g (c.args.map e) q ob with
          | some (v, q1, ob1) => if untag v = true then some (fin v H q1 ob1) else none
          | none => none
        else pureOp P kn call o e H q ob
      | _ => pureOp P kn call o e H q ob
    | _ => pureOp P kn call o e H q ob
  | _ => pureOp P kn call o e H q ob

section
variable {P : Program} {okf : FuncId → Bool} {kn : Kn} {call : Call} {w0 : World}

theorem quietAt_value {o : Oper} {a : Act} {C : World → Prop} {w : World} {v : Value} (h : (execOp a.eval o).run P w = .ok (.value v) w) : o.quietAt P a C w v := by
  unfold Oper.quietAt; rw [h]; exact ⟨rfl, rfl⟩

theorem run_fieldAt {S : TypeId} {f : Nat} {fs : Array Field} {fd : Field} {n b off : Nat} (hu : P.underlying S = some (.struct fs)) (hf : fs[f]? = some fd) (hs : szOf P fd.type = some (n + 1)) (w : World) :
    (Instr.fieldAt S (.pointer (some ⟨b, off, none⟩)) f).run P w = .ok (.pointer (some ⟨b, off + fd.offset, none⟩)) w := by
  simp only [Instr.fieldAt, Sem.run_bind, underlying, run_program, Result.andThen_ok, hu, Sem.run_pure, hf, Instr.sureAddr, fieldPlace, run_sizeOf hs]
  simp [addr_add]

theorem run_indexAt_arr {S : TypeId} {len e s : Nat} {k : IntKind} {n : Int} {b off : Nat} (hu : P.underlying S = some (.array len e)) (hs : szOf P e = some s) (h : 0 ≤ n ∧ n < len) (w : World) :
    (Instr.indexAt S (.pointer (some ⟨b, off, none⟩)) (.int k n)).run P w = .ok (.pointer (some ⟨b, off + n.toNat * s, none⟩)) w := by
  simp only [Instr.indexAt, asIntOf, Sem.run_bind, underlying, run_program, Result.andThen_ok, hu, Sem.run_pure, Instr.sureAddr, h, and_self, if_true, run_sizeOf hs, addr_add]

theorem run_indexAt_slc {S : TypeId} {len c e s : Nat} {k : IntKind} {n : Int} {b off : Nat} (hu : P.underlying S = some (.slice e)) (hs : szOf P e = some s) (h : 0 ≤ n ∧ n < len) (w : World) :
    (Instr.indexAt S (.slice (some ⟨b, off, none⟩) len c) (.int k n)).run P w = .ok (.pointer (some ⟨b, off + n.toNat * s, none⟩)) w := by
  simp only [Instr.indexAt, asIntOf, Sem.run_bind, underlying, run_program, Result.andThen_ok, hu, Sem.run_pure, h, and_self, if_true, run_sizeOf hs, addr_add]

theorem run_index_str {S : TypeId} {k : IntKind} {n : Int} {s : ByteArray} (hu : P.underlying S = some .string) (h : 0 ≤ n ∧ n < s.size) (w : World) :
    (Instr.index S (.string s) (.int k n)).run P w = .ok (.int .u8 ((s.data.toList.getD n.toNat 0).toNat : Int)) w := by
  have hlt : n.toNat < s.size := by omega
  have hlt2 : n.toNat < s.data.size := hlt
  have e : s[n.toNat]? = some (s.data.toList.getD n.toNat 0) := by
    have e1 : s[n.toNat]? = some s[n.toNat] := by simp [hlt]
    rw [e1]
    simp only [List.getD, Array.getElem?_toList, Array.getElem?_eq_getElem hlt2]
    rfl
  simp only [Instr.index, asIntOf, Sem.run_bind, underlying, run_program, Result.andThen_ok, hu, Sem.run_pure, h.1, if_true, e]

theorem run_intOp {op : BinOp} {k : IntKind} {a b : Int} {v : Value} (h : intOp op k a b = some v) (S : TypeId) (x y : Operand) (w : World) :
    ((do eqGuard op S x y (.int k a) (.int k b); binOp op S (.int k a) (.int k b)) : Sem Value).run P w = .ok v w := by
  cases op <;> simp only [intOp, Option.some.injEq] at h <;> first | (cases h; done) | (subst h; simp [eqGuard, binOp, Op.intArith, Op.intCmp])

theorem toList_data (a : ByteArray) : a.toList = a.data.toList := Go.ByteArray.toList_eq a

theorem bnd_ok {t : Array Value} {x : Option Operand} {dflt y : Nat} {q q1 : Orc} {ob ob1 : Prop} {r : Nat} (h : bnd (ev t) x dflt y q ob = some (r, q1, ob1)) :
    (ob1 → ob) ∧ (ob1 → ∀ β, (x = none ∧ r = dflt) ∨ (∃ z k n, x = some z ∧ Act.eval ⟨t.map (conc β), []⟩ z = .int k n ∧ 0 ≤ n ∧ n ≤ y ∧ r = n.toNat)) := by
  unfold bnd at h
  split at h
  · simp only [Option.some.injEq, Prod.mk.injEq] at h
    obtain ⟨rfl, rfl, rfl⟩ := h
    exact ⟨id, fun _ _ => .inl ⟨rfl, rfl⟩⟩
  · rename_i z
    split at h
    · rename_i hz
      split at h
      · rename_i k n hn
        split at h
        · rename_i ht
          simp only [Option.some.injEq, Prod.mk.injEq] at h
          obtain ⟨rfl, rfl, rfl⟩ := h
          refine ⟨fun x => (tst_ok x).2, fun x β => .inr ⟨z, k, n, rfl, ?_, ?_⟩⟩
          · rw [ev_conc hz, hn]; rfl
          · have := (tst_ok x).1
            rw [ht] at this
            have h2 := of_decide_eq_true this.symm
            exact ⟨h2.1, h2.2, rfl⟩
        · cases h
      · cases h
    · cases h

theorem run_sliceBound_ok {k : IntKind} {n : Int} {y : Nat} {code : BoundsCode} (h0 : 0 ≤ n) (h1 : n ≤ y) (w : World) : (Instr.sliceBound (.int k n) y code).run P w = .ok n.toNat w := by
  simp only [Instr.sliceBound, asIntOf, Sem.run_bind, Sem.run_pure, Result.andThen_ok, h0, h1, and_self, if_true]

theorem opQ_ok (hk : Knows kn w0) (hg : Good P kn call) {o : Oper} {t : Array Value} {H : List Blk} {q : Orc} {ob : Prop} {r : Res} (hf : OkF P okf) (h : opQ P okf kn call o (ev t) H q ob = some r) : QOk P w0 o t H ob r := by
  have hp := pureOp_ok (P := P) (kn := kn) (call := call) (w0 := w0) hk hg (o := o) (t := t) (H := H) (q := q) (ob := ob) (r := r)
  unfold opQ at h
  split at h
  · rename_i x ho
    split at h
    · rename_i hx
      cases h
      exact ⟨rfl, id, fun _ β w _ hs => ⟨sc_ev hs hx, quietAt_value (by rw [execOp, ho]; simp only [ev_conc hx]; rfl)⟩⟩
    · cases h
  · rename_i x ho
    split at h
    · rename_i hx
      cases h
      exact ⟨rfl, id, fun _ β w _ hs => ⟨sc_ev hs hx, quietAt_value (by rw [execOp, ho]; simp only [ev_conc hx]; rfl)⟩⟩
    · cases h
  · rename_i c a b ho
    split at h
    · rename_i hx
      simp only [Bool.and_eq_true] at hx
      split at h
      · rename_i s hs
        cases h
        refine ⟨rfl, id, fun _ β w _ hsc => ⟨?_, quietAt_value ?_⟩⟩
        · cases s
          · exact sc_ev hsc hx.2
          · exact sc_ev hsc hx.1.2
        · rw [execOp, ho]
          simp only [ev_conc hx.1.1, ev_conc hx.1.2, ev_conc hx.2, hs]
          cases s <;> rfl
      · cases h
    · cases h
  · rename_i T a ho
    split at h
    · rename_i i off tag ha
      split at h
      · rename_i hx
        split at h
        · rename_i k hk2
          split at h
          · rename_i v hv
            cases h
            refine ⟨rfl, id, fun _ β w hR hsc => ?_⟩
            have hlt : i < β.length := by have := sc_ev hsc hx; rw [ha] at this; exact this
            obtain ⟨b1, b2, b3⟩ := hR.blk i β[i] k (List.getElem?_eq_getElem hlt) hk2
            refine ⟨ldLoc_sc hv b3, quietAt_value ?_⟩
            have e1 : Act.eval ⟨t.map (conc β), []⟩ a = .pointer (some ⟨β[i], off, none⟩) := by
              rw [ev_conc hx, ha, conc_ptr]
              simp [pl, List.getD, List.getElem?_eq_getElem hlt]
            rw [execOp, ho]
            simp only [Sem.run_bind, Instr.loadAt, e1, Instr.sureAddr, Sem.run_pure, Result.andThen_ok, run_ldLoc hv b2]
          · cases h
        · cases h
      · cases h
    · exact hp h
  · rename_i S x f ho
    split at h
    · rename_i i off sp ha
      split at h
      · rename_i hx
        split at h
        · rename_i fs hu
          split at h
          · rename_i fd hf
            split at h
            · rename_i n hs
              cases h
              refine ⟨rfl, id, fun _ β w hR hsc => ⟨?_, quietAt_value ?_⟩⟩
              · have := sc_ev hsc hx; rw [ha] at this; exact sc_ptr this
              · rw [execOp, ho]
                simp only [Sem.run_bind, ev_conc hx, ha, conc_ptr, run_fieldAt hu hf hs, Result.andThen_ok, Sem.run_pure]
            · cases h
          · cases h
        · cases h
      · cases h
    · cases h
  · rename_i S x ix ho
    split at h
    · rename_i hx
      simp only [Bool.and_eq_true] at hx
      split at h
      · rename_i k n len e i off sp hn hu ha
        split at h
        · rename_i s hs
          split at h
          · rename_i ht
            cases h
            refine ⟨rfl, fun x => (tst_ok x).2, fun x β w hR hsc => ?_⟩
            have hb := (tst_ok x).1
            rw [ht] at hb
            have hb2 := of_decide_eq_true hb.symm
            refine ⟨?_, quietAt_value ?_⟩
            · have := sc_ev hsc hx.1; rw [ha] at this; exact sc_ptr this
            · rw [execOp, ho]
              simp only [Sem.run_bind, ev_conc hx.1, ev_conc hx.2, ha, hn, conc_ptr]
              rw [show conc β (.int k n) = .int k n from rfl, run_indexAt_arr hu hs hb2]
              rfl
          · cases h
        · cases h
      · rename_i k n e i off sp len c hn hu ha
        split at h
        · rename_i s hs
          split at h
          · rename_i ht
            cases h
            refine ⟨rfl, fun x => (tst_ok x).2, fun x β w hR hsc => ?_⟩
            have hb := (tst_ok x).1
            rw [ht] at hb
            have hb2 := of_decide_eq_true hb.symm
            refine ⟨?_, quietAt_value ?_⟩
            · have := sc_ev hsc hx.1; rw [ha] at this; exact sc_slc this
            · rw [execOp, ho]
              simp only [Sem.run_bind, ev_conc hx.1, ev_conc hx.2, ha, hn, conc_slc, conc_ptr]
              rw [show conc β (.int k n) = .int k n from rfl, run_indexAt_slc hu hs hb2]
              rfl
          · cases h
        · cases h
      · cases h
    · cases h
  · rename_i S x ix ho
    split at h
    · rename_i s k n hu ha hn
      split at h
      · rename_i hx
        simp only [Bool.and_eq_true] at hx
        split at h
        · rename_i ht
          cases h
          refine ⟨rfl, fun x => (tst_ok x).2, fun x β w hR hsc => ?_⟩
          have hb := (tst_ok x).1
          rw [ht] at hb
          have hb2 := of_decide_eq_true hb.symm
          refine ⟨trivial, quietAt_value ?_⟩
          rw [execOp, ho]
          simp only [Sem.run_bind, ev_conc hx.1, ev_conc hx.2, ha, hn]
          rw [show conc β (.int k n) = .int k n from rfl, show conc β (.string s) = .string s from rfl, run_index_str hu hb2]
          rfl
        · cases h
      · cases h
    · exact hp h
  · rename_i S x lo hi ho
    split at h
    · rename_i s hu ha
      split at h
      · rename_i hx
        split at h
        · rename_i hh q1 ob1 hb1
          split at h
          · rename_i l q2 ob2 hb2
            cases h
            obtain ⟨g1, g2⟩ := bnd_ok hb1
            obtain ⟨f1, f2⟩ := bnd_ok hb2
            refine ⟨rfl, fun x => g1 (f1 x), fun x β w hR hsc => ⟨trivial, quietAt_value ?_⟩⟩
            rw [execOp, ho]
            simp only [Sem.run_bind, ev_conc hx, ha]
            rw [show conc β (.string s) = .string s from rfl]
            have h1 := g2 (f1 x) β
            have h2 := f2 x β
            simp only [Instr.sliceAt, Instr.slice, Sem.run_bind, underlying, run_program, Result.andThen_ok, hu, Sem.run_pure, Option.map_none, Option.isSome_none, Bool.false_eq_true, if_false, Instr.sliceBounds]
            rcases h1 with ⟨rfl, rfl⟩ | ⟨z, k, n, rfl, hz, z0, z1, rfl⟩ <;> rcases h2 with ⟨rfl, rfl⟩ | ⟨y, j, m, rfl, hy, y0, y1, rfl⟩
            · simp; rfl
            · simp [hy, run_sliceBound_ok y0 y1]; rfl
            · simp [hz, run_sliceBound_ok z0 z1]; rfl
            · simp [hz, hy, run_sliceBound_ok z0 z1, run_sliceBound_ok y0 y1]; rfl
          · cases h
        · cases h
      · cases h
    · rename_i len el i off tg hu ha
      split at h
      · rename_i hx
        split at h
        · rename_i hsz
          split at h
          · rename_i hh q1 ob1 hb1
            split at h
            · rename_i l q2 ob2 hb2
              split at h
              · rename_i hl
                cases h
                obtain ⟨g1, g2⟩ := bnd_ok hb1
                obtain ⟨f1, f2⟩ := bnd_ok hb2
                refine ⟨rfl, fun x => g1 (f1 x), fun x β w hR hsc => ⟨?_, quietAt_value ?_⟩⟩
                · have := sc_ev hsc hx; rw [ha] at this; exact this
                · rw [execOp, ho]
                  simp only [Sem.run_bind, ev_conc hx, ha, conc_ptr, conc_slc]
                  have h1 := g2 (f1 x) β
                  have h2 := f2 x β
                  have hne : ¬ len = l := by omega
                  simp only [Instr.sliceAt, Instr.sureAddr, Sem.run_bind, underlying, run_program, Result.andThen_ok, hu, Sem.run_pure, Option.map_none, Instr.sliceBounds]
                  rcases h1 with ⟨rfl, rfl⟩ | ⟨z, k, n, rfl, hz, z0, z1, rfl⟩ <;> rcases h2 with ⟨rfl, rfl⟩ | ⟨y, j, m, rfl, hy, y0, y1, rfl⟩
                  · simp [run_sizeOf hsz, hne, addr_add]
                  · simp [hy, run_sliceBound_ok y0 y1, run_sizeOf hsz, hne, addr_add]
                  · simp [hz, run_sliceBound_ok z0 z1, run_sizeOf hsz, hne, addr_add]
                  · simp [hz, hy, run_sliceBound_ok z0 z1, run_sliceBound_ok y0 y1, run_sizeOf hsz, hne, addr_add]
              · cases h
            · cases h
          · cases h
        · cases h
      · cases h
    · exact hp h
  · rename_i bop S x y T' ho
    split at h
    · rename_i k a k' b hx hy
      split at h
      · rename_i hc
        simp only [Bool.and_eq_true, decide_eq_true_eq] at hc
        obtain ⟨⟨c1, c2⟩, rfl⟩ := hc
        split at h
        · rename_i v hv
          cases h
          obtain ⟨f1, f2⟩ := fin_ok (v := v) (H := H) (q := q) (ob := ob)
          have hu : untag v = true := by
            cases bop <;> simp only [intOp, Option.some.injEq] at hv <;> first | (cases hv; done) | (subst hv; rfl)
          refine ⟨f1, fun x => (f2 x).2, fun z β w hR hs => ?_⟩
          rw [(f2 z).1]
          refine ⟨sc_untag hu, quietAt_value ?_⟩
          rw [execOp, ho]
          simp only [Sem.run_bind, ev_conc c1, ev_conc c2, hx, hy, conc_untag hu]
          have := run_intOp (P := P) hv S x y w
          simp only [Sem.run_bind] at this
          simp only [show ∀ k n, conc β (.int k n) = .int k n from fun _ _ => rfl, this, Result.andThen_ok, Sem.run_pure]
        · exact hp h
      · cases h
    · rename_i a b hx hy
      split at h
      · rename_i hc
        simp only [Bool.and_eq_true] at hc
        split at h
        · cases h
          obtain ⟨f1, f2⟩ := fin_ok (v := .bool (a.data.toList == b.data.toList)) (H := H) (q := q) (ob := ob)
          refine ⟨f1, fun x => (f2 x).2, fun z β w hR hs => ?_⟩
          rw [(f2 z).1]
          refine ⟨trivial, quietAt_value ?_⟩
          rw [execOp, ho]
          simp only [Sem.run_bind, ev_conc hc.1, ev_conc hc.2, hx, hy]
          simp [eqGuard, binOp, Op.stringOp, toList_data, conc]
        · cases h
          obtain ⟨f1, f2⟩ := fin_ok (v := .bool !(a.data.toList == b.data.toList)) (H := H) (q := q) (ob := ob)
          refine ⟨f1, fun x => (f2 x).2, fun z β w hR hs => ?_⟩
          rw [(f2 z).1]
          refine ⟨trivial, quietAt_value ?_⟩
          rw [execOp, ho]
          simp only [Sem.run_bind, ev_conc hc.1, ev_conc hc.2, hx, hy]
          simp [eqGuard, binOp, Op.stringOp, toList_data, conc]
        · split at h
          · rename_i ht
            cases h
            refine ⟨rfl, fun x => (tst_ok x).2, fun z β w hR hs => ?_⟩
            have hb := (tst_ok z).1
            rw [ht] at hb
            have hb2 := of_decide_eq_true hb.symm
            refine ⟨trivial, quietAt_value ?_⟩
            rw [execOp, ho]
            have hn : ¬ (((a.size + b.size : Nat) : Int) > IntKind.i64.max) := by
              have : IntKind.i64.max = 9223372036854775807 := rfl
              rw [this]; omega
            simp only [Sem.run_bind, ev_conc hc.1, ev_conc hc.2, hx, hy, show ∀ s, conc β (.string s) = .string s from fun _ => rfl, eqGuard, binOp, Op.stringOp, if_neg hn]
            rfl
          · cases h
        · exact hp h
      · cases h
    · exact hp h
  · rename_i src dst x ho
    split at h
    · rename_i kk n d1 k hx hu hv
      split at h
      · rename_i hc
        cases h
        refine ⟨rfl, id, fun _ β w _ hs => ⟨trivial, quietAt_value ?_⟩⟩
        rw [execOp, ho]
        simp only [Sem.run_bind, ev_conc hc, hx, convert, underlying, run_program, Result.andThen_ok, hu, hv, Sem.run_pure, show ∀ k n, conc β (.int k n) = .int k n from fun _ _ => rfl]
        cases d1 <;> rfl
      · cases h
    · rename_i i off tg n cp el hx hu hv
      split at h
      · rename_i hc
        split at h
        · rename_i k hel hk2
          split at h
          · rename_i ns hns
            split at h
            · rename_i hl
              cases h
              refine ⟨rfl, id, fun _ β w hR hsc => ⟨trivial, quietAt_value ?_⟩⟩
              have hlt : i < β.length := by have := sc_ev hsc hc; rw [hx] at this; exact this
              obtain ⟨b1, b2, b3⟩ := hR.blk i β[i] k (List.getElem?_eq_getElem hlt) hk2
              have hcells := bytesOf_ok hns
              have hld : (loadCells ⟨β[i], off, none⟩ n).run P w = .ok (ns.map (Value.int .u8)).toArray w := by
                have := run_loadCells_list (P := P) w ⟨β[i], off, none⟩ (ns.map (Value.int .u8)) (fun j v hv => by
                  have hj : j < n := by
                    have := (List.getElem?_eq_some_iff.1 hv).1
                    simp at this
                    omega
                  rw [← hcells, List.getElem?_take_of_lt hj, List.getElem?_drop] at hv
                  have hm : v ∈ ns.map (Value.int .u8) := by
                    rw [← hcells]
                    refine List.mem_of_getElem? (i := j) ?_
                    rw [List.getElem?_take_of_lt hj, List.getElem?_drop]; exact hv
                  obtain ⟨m, _, rfl⟩ := List.mem_map.1 hm
                  rw [addr_add, cell_blk b2, hv]
                  rfl)
                rwa [List.length_map, hl] at this
              rw [execOp, ho]
              have e : β.getD i 0 = β[i] := by simp [List.getD, List.getElem?_eq_getElem hlt]
              simp only [Sem.run_bind, ev_conc hc, hx, conc_slc, pl, e, convert, underlying, run_program, Result.andThen_ok, hu, hv, hel, run_bytesToString w ⟨β[i], off, none⟩ n cp ns hld, Sem.run_pure, push_bytes]
              simp [conc]
            · cases h
          · cases h
        · cases h
      · cases h
    · exact hp h
  · rename_i x i ho
    split at h
    · rename_i vs hx
      split at h
      · rename_i v hv
        split at h
        · rename_i hc
          simp only [Bool.and_eq_true] at hc
          cases h
          refine ⟨rfl, id, fun _ β w _ hs => ⟨sc_untag hc.2, quietAt_value ?_⟩⟩
          rw [execOp, ho]
          simp only [Sem.run_bind, ev_conc hc.1, hx, show conc β (.tuple vs) = .tuple vs from rfl, Instr.extract, hv, Sem.run_pure, Result.andThen_ok, conc_untag hc.2]
        · cases h
      · cases h
    · cases h
  · rename_i c ho
    split at h
    · rename_i f hcal
      split at h
      · rename_i g hf2
        split at h
        · rename_i hc
          simp only [Bool.and_eq_true] at hc
          obtain ⟨⟨c1, c2⟩, c3⟩ := hc
          split at h
          · rename_i v q1 ob1 hcall
            split at h
            · rename_i hu
              cases h
              obtain ⟨f1, f2⟩ := fin_ok (v := v) (H := H) (q := q1) (ob := ob1)
              have hgc := hg g _ q ob v q1 ob1 hcall
              refine ⟨f1, fun x => (hgc w0 hk (f2 x).2).1, fun z β w hR hs => ?_⟩
              rw [(f2 z).1]
              refine ⟨sc_untag hu, ?_⟩
              obtain ⟨fn, n1, n2, n3⟩ := hf g c2
              have hargs : c.args.map (Act.eval ⟨t.map (conc β), []⟩) = c.args.map (ev t) := Array.map_congr_left fun x hx => by
                have := List.all_eq_true.1 c3 x (by simpa using hx)
                simp only [Bool.and_eq_true] at this
                rw [ev_conc this.1, conc_untag this.2]
              have hrun : (execOp (Act.eval ⟨t.map (conc β), []⟩) o).run P w = .ok (.enter g (c.args.map (ev t))) w := by
                rw [execOp, ho]
                simp only [resolve, hcal, ev_conc c1, hf2, show ∀ g, conc β (.func (.func g) #[] #[]) = .func (.func g) #[] #[] from fun _ => rfl, Deferred.ofValue, Sem.run_bind, Sem.run_pure, Result.andThen_ok, invoke, callFunc, run_program, n1, n2, n3, hargs]
                simp
              unfold Oper.quietAt
              rw [hrun, conc_untag hu]
              exact ⟨rfl, ((hgc w (hR.knows hk) (f2 z).2).2).mono fun e w' he => ⟨he.1, hR.call he.2⟩⟩
            · cases h
          · cases h
        · exact hp h
      · exact hp h
    · exact hp h
  · exact hp h
end

/-- Operations that make a block, or write one. -/
def opA (P : Program) (okf : FuncId → Bool) (kn : Kn) (call : Call) (o : Oper) (e : Operand → Value) (H : List Blk) (q : Orc) (ob : Prop) : Option Res :=
  match o.op with
  | .alloc T => match (P.info? T).bind (·.zero) with
    | some z => if z.cells.toList.all untag = true then some ⟨.pointer (some ⟨H.length, 0, some 0⟩), H ++ [⟨z.cells.toList, T⟩], q, ob⟩ else none
    | none => none
  | .box T x => if (okc x && cellsOk (e x)) = true then some ⟨.pointer (some ⟨H.length, 0, some 0⟩), H ++ [⟨(e x).cells.toList, T⟩], q, ob⟩ else none
  | .store T a x => match e a with
    | .pointer (some ⟨i, off, some _⟩) => if (okc a && okc x && cellsOk (e x) && (e x).cells.toList.all Value.oneCell') = true then
        match H[i]?, szOf P T with
        | some k, some n => if n = (e x).cells.toList.length ∧ off + (e x).cells.toList.length ≤ k.cells.length then
            some ⟨undef, H.set i ⟨k.cells.take off ++ (e x).cells.toList ++ k.cells.drop (off + (e x).cells.toList.length), k.ty⟩, q, ob⟩
          else none
        | _, _ => none
      else none
    | _ => none
  | _ => opQ P okf kn call o e H q ob

section
variable {P : Program} {okf : FuncId → Bool} {kn : Kn} {call : Call} {w0 : World}

/-- What an operation does. -/
def AOk (P : Program) (w0 : World) (o : Oper) (t : Array Value) (H : List Blk) (ob : Prop) (r : Res) : Prop :=
  (r.ob → ob) ∧ (r.ob → ∀ β w, R w0 β H w → ScF β.length t → ∀ (K : Act → World → Prop) (Q : Exit → Act → World → Prop),
    (∀ β' w', R w0 β' r.H w' → ScF β'.length (put t o.dst r.v) → K ⟨(put t o.dst r.v).map (conc β'), []⟩ w') → o.wp P ⟨t.map (conc β), []⟩ w K Q)

theorem QOk.aok {o : Oper} {t : Array Value} {H : List Blk} {ob : Prop} {r : Res} (h : QOk P w0 o t H ob r) : AOk P w0 o t H ob r := by
  obtain ⟨h1, h2, h3⟩ := h
  refine ⟨h2, fun x β w hR hs K Q hK => ?_⟩
  refine Oper.wp_of_quiet (C := R w0 β H) (K := fun a => ∀ w', R w0 β H w' → K a w') hR (fun a w' hw' hk => hk w' hw') ⟨conc β r.v, fun w1 hw1 => (h3 x β w1 hw1 hs).2, fun w' hw' => ?_⟩
  rw [put_act, put_map]
  exact hK β w' (by rw [h1]; exact hw') (hs.put (h3 x β w hR hs).1 _)

theorem wp_value {o : Oper} {a : Act} {w w' : World} {v : Value} {K : Act → World → Prop} {Q : Exit → Act → World → Prop} (h : (execOp a.eval o).run P w = .ok (.value v) w') (hK : K (a.put o.dst v) w') : o.wp P a w K Q := by
  unfold Oper.wp; rw [h]; exact hK

theorem wp_skip' {o : Oper} {a : Act} {w w' : World} {K : Act → World → Prop} {Q : Exit → Act → World → Prop} (h : (execOp a.eval o).run P w = .ok .skip w') (hK : K (a.put o.dst undef) w') : o.wp P a w K Q := by
  unfold Oper.wp; rw [h]; exact hK

theorem new_ok {o : Oper} {t : Array Value} {H : List Blk} {ob : Prop} {q : Orc} {cs : List Value} {T : TypeId}
    (hs : ∀ n, ScF n t → ∀ v ∈ cs, sc n v)
    (hrun : ∀ β w, (execOp (Act.eval ⟨t.map (conc β), []⟩) o).run P w = .ok (.value (.pointer (some ⟨w.heap.size, 0, none⟩))) (w.alloc (.cells (cs.map (conc β)).toArray T))) :
    AOk P w0 o t H ob ⟨.pointer (some ⟨H.length, 0, some 0⟩), H ++ [⟨cs, T⟩], q, ob⟩ := by
  refine ⟨id, fun _ β w hR hsc K Q hK => wp_value (hrun β w) ?_⟩
  have hR2 := hR.alloc cs T (hs _ hsc)
  have hv : conc (β ++ [w.heap.size]) (.pointer (some ⟨H.length, 0, some 0⟩)) = .pointer (some ⟨w.heap.size, 0, none⟩) := by
    rw [conc_ptr]
    simp [pl, List.getD, ← hR.len]
  rw [put_act, ← hv, ← map_ext (l := [w.heap.size]) hsc, put_map]
  exact hK _ _ hR2 ((hsc.mono (by simp)).put (by simp [sc, ← hR.len]) _)

theorem opA_ok (hk : Knows kn w0) (hg : Good P kn call) {o : Oper} {t : Array Value} {H : List Blk} {q : Orc} {ob : Prop} {r : Res} (hf : OkF P okf) (h : opA P okf kn call o (ev t) H q ob = some r) : AOk P w0 o t H ob r := by
  unfold opA at h
  split at h
  · rename_i T ho
    split at h
    · rename_i z hz
      split at h
      · rename_i hu
        cases h
        have hid : ∀ β, z.cells.toList.map (conc β) = z.cells.toList := fun β => by
          have := List.map_congr_left (f := conc β) (g := id) (l := z.cells.toList) (fun v hv => conc_untag (List.all_eq_true.1 hu v hv))
          simpa using this
        refine new_ok (fun n _ v hv => sc_untag (List.all_eq_true.1 hu v hv)) (fun β w => ?_)
        rw [hid, execOp, ho]
        have hzr : (zeroValue T).run P w = .ok z w := by
          cases hi : P.info? T with
          | none => simp [hi] at hz
          | some i =>
            simp only [hi, Option.bind_some] at hz
            simp [zeroValue, typeInfo, hi, hz]
        simp only [Sem.run_bind, Instr.alloc, hzr, Result.andThen_ok, newVar, newRow, run_newObj, Sem.run_pure]
        rfl
      · cases h
    · cases h
  · rename_i T x ho
    split at h
    · rename_i hx
      simp only [Bool.and_eq_true] at hx
      cases h
      refine new_ok (fun n hn => cells_sc hx.2 (sc_ev hn hx.1)) (fun β w => ?_)
      rw [execOp, ho]
      simp only [Sem.run_bind, Instr.box, newVar, newRow, run_newObj, Sem.run_pure, Result.andThen_ok, ev_conc hx.1]
      rw [← cells_conc hx.2]
      simp
    · cases h
  · rename_i T a x ho
    split at h
    · rename_i i off tag ha
      split at h
      · rename_i hx
        simp only [Bool.and_eq_true] at hx
        obtain ⟨⟨⟨x1, x2⟩, x3⟩, x4⟩ := hx
        split at h
        · rename_i k n hk2 hn
          split at h
          · rename_i hl
            obtain ⟨l1, l2⟩ := hl
            cases h
            refine ⟨id, fun _ β w hR hsc K Q hK => ?_⟩
            have hlt : i < β.length := by have := sc_ev hsc x1; rw [ha] at this; exact this
            obtain ⟨b1, b2, b3⟩ := hR.blk i β[i] k (List.getElem?_eq_getElem hlt) hk2
            have e1 : Act.eval ⟨t.map (conc β), []⟩ a = .pointer (some ⟨β[i], off, none⟩) := by
              rw [ev_conc x1, ha, conc_ptr]
              simp [pl, List.getD, List.getElem?_eq_getElem hlt]
            have hvs : ∀ v ∈ k.cells.take off ++ (ev t x).cells.toList ++ k.cells.drop (off + (ev t x).cells.toList.length), sc β.length v := by
              intro v hv
              simp only [List.mem_append] at hv
              rcases hv with (hv | hv) | hv
              · exact b3 v (List.mem_of_mem_take hv)
              · exact cells_sc x3 (sc_ev hsc x2) v hv
              · exact b3 v (List.mem_of_mem_drop hv)
            have hst := run_storeCells_at (P := P) β[i] off k.ty ((ev t x).cells.toList.map (conc β)) 0 (k.cells.map (conc β)).toArray w b2 (by simpa using l2)
              (fun v hv => by
                obtain ⟨u, hu, rfl⟩ := List.mem_map.1 hv
                exact one_conc (List.all_eq_true.1 x4 u hu))
            have hR2 := hR.setRow (List.getElem?_eq_getElem hlt) hk2 _ hvs
            refine wp_skip' (w' := w.setRow β[i] ((k.cells.take off ++ (ev t x).cells.toList ++ k.cells.drop (off + (ev t x).cells.toList.length)).map (conc β)).toArray) ?_ ?_
            · have hsz : (conc β (ev t x)).cells.size = n := by
                rw [← Array.length_toList, cells_conc x3, List.length_map, l1]
              rw [execOp, ho]
              simp only [Sem.run_bind, Instr.storeAt, e1, Instr.sureAddr, Sem.run_pure, Result.andThen_ok, storeVar, ev_conc x2, run_sizeOf hn, hsz, ne_eq, not_true_eq_false, if_false, cells_conc x3, hst]
              simp
            · rw [put_act, ← conc_undef (β := β), put_map]
              exact hK _ _ hR2 (hsc.put (v := undef) trivial _)
          · cases h
        · cases h
      · cases h
    · cases h
  · exact (opQ_ok hk hg hf h).aok
end

/-! ### A body -/
structure St where
  t : Fr
  H : List Blk
  q : Orc
  ob : Prop

def ops (P : Program) (okf : FuncId → Bool) (kn : Kn) (call : Call) (draw : Bool) (all : Array Oper) : List Oper → St → Option St
  | [], s => some s
  | o :: rest, s =>
    if Region.wanted o (yieldedF all s.t) = true then
      match (if draw then opQ P okf kn call o (evF s.t) s.H s.q s.ob else opA P okf kn call o (evF s.t) s.H s.q s.ob) with
      | some r => ops P okf kn call draw all rest ⟨putF s.t o.dst r.v, r.H, r.q, r.ob⟩
      | none => none
    else ops P okf kn call draw all rest ⟨putF s.t o.dst undef, s.H, s.q, s.ob⟩

inductive Ex where
  | nrm
  | ex (id : Nat)
  | rt

def Ex.up : Ex → Exit
  | .nrm => .normal
  | .ex id => .exit id
  | .rt => .ret

def code (P : Program) (okf : FuncId → Bool) (kn : Kn) (call : Call) : Nat → Code → St → Option (Ex × St)
  | 0, _, _ => none
  | n + 1, c, s => match c with
    | .skip => some (.nrm, s)
    | .label _ => some (.nrm, s)
    | .region _ os draw =>
      if (!draw || Region.lexB .any os) = true then
        match ops P okf kn call draw os os.toList s with
        | some s' => some (.nrm, s')
        | none => none
      else none
    | .seq x y => match code P okf kn call n x s with
      | some (.nrm, s') => code P okf kn call n y s'
      | r => r
    | .cond b x y => if okc b = true then
        match evF s.t b with
        | .bool b => code P okf kn call n (if b then x else y) s
        | _ => none
      else none
    | .block id x => match code P okf kn call n x s with
      | some (.ex i, s') => if i = id then some (.nrm, s') else some (.ex i, s')
      | r => r
    | .loop x => match code P okf kn call n x s with
      | some (.nrm, s') => code P okf kn call n (.loop x) s'
      | r => r
    | .exit id => some (.ex id, s)
    | .ret => some (.rt, s)
    | _ => none

section
variable {P : Program} {okf : FuncId → Bool} {kn : Kn} {call : Call} {w0 : World}

theorem yielded_conc (all : Array Oper) (t : Array Value) (β : List Nat) : yielded all (t.map (conc β)) = yielded all t := by
  funext j
  unfold yielded
  cases h : (all[j]?).bind (·.dst) with
  | none => rfl
  | some d =>
    simp only [Option.bind_some, Array.getElem?_map]
    cases hv : t[d]? with
    | none => rfl
    | some v =>
      simp only [Option.map_some]
      cases v with
      | pointer a =>
        cases a with
        | none => rfl
        | some a => obtain ⟨i, o, s⟩ := a; cases s <;> rfl
      | slice a n c =>
        cases a with
        | none => rfl
        | some a => obtain ⟨i, o, s⟩ := a; cases s <;> rfl
      | _ => rfl

theorem ops_ob (hk : Knows kn w0) (hg : Good P kn call) (hf : OkF P okf) {draw : Bool} {all : Array Oper} : ∀ (l : List Oper) {s s' : St}, ops P okf kn call draw all l s = some s' → s'.ob → s.ob
  | [], s, s', h => by simp only [ops, Option.some.injEq] at h; subst h; exact id
  | o :: rest, s, s', h => by
    simp only [ops, yieldedF_eq] at h
    split at h
    · split at h
      · rename_i r hr
        have ih := ops_ob hk hg hf rest h
        cases draw with
        | false => exact fun x => (opA_ok hk hg hf (by simpa [evF_eq] using hr)).1 (ih x)
        | true => exact fun x => (opQ_ok hk hg hf (by simpa [evF_eq] using hr)).2.1 (ih x)
      · cases h
    · have ih := ops_ob hk hg hf rest h
      exact ih

theorem ops_list (hk : Knows kn w0) (hg : Good P kn call) (hf : OkF P okf) {all : Array Oper} {Q : Exit → Act → World → Prop} : ∀ (l : List Oper) {s s' : St}, ops P okf kn call false all l s = some s' → s'.ob →
    (∀ β w, R w0 β s'.H w → ScF β.length s'.t.arr → Q .normal ⟨s'.t.arr.map (conc β), []⟩ w) → ∀ β w, R w0 β s.H w → ScF β.length s.t.arr → wpList P all Q l ⟨s.t.arr.map (conc β), []⟩ w
  | [], s, s', h, _, hq, β, w, hR, hs => by simp only [ops, Option.some.injEq] at h; subst h; exact hq β w hR hs
  | o :: rest, s, s', h, hob, hq, β, w, hR, hs => by
    simp only [ops, yieldedF_eq] at h
    unfold wpList
    simp only [yielded_conc]
    split
    · rename_i hw
      rw [if_pos hw] at h
      split at h
      · rename_i r hr
        left
        have hr' : opA P okf kn call o (ev s.t.arr) s.H s.q s.ob = some r := by simpa [evF_eq] using hr
        have hob' : r.ob := ops_ob hk hg hf rest h hob
        exact (opA_ok hk hg hf hr').2 hob' β w hR hs _ _ (fun β' w' hR' hs' => by rw [← putF_arr] at hs' ⊢; exact ops_list hk hg hf rest h hob hq β' w' hR' hs')
      · cases h
    · rename_i hw
      rw [if_neg hw] at h
      rw [put_act, ← conc_undef (β := β), put_map, ← putF_arr]
      exact ops_list hk hg hf rest h hob hq β w hR (by show ScF _ (putF _ _ _).arr; rw [putF_arr]; exact hs.put (v := undef) trivial _)

theorem ops_quiet (hk : Knows kn w0) (hg : Good P kn call) (hf : OkF P okf) {all : Array Oper} {Q : Act → Prop} : ∀ (l : List Oper) {s s' : St}, ops P okf kn call true all l s = some s' → s'.ob →
    ∀ β w1, R w0 β s.H w1 → ScF β.length s.t.arr → s'.H = s.H ∧ ScF β.length s'.t.arr ∧ (Q ⟨s'.t.arr.map (conc β), []⟩ → wpQuiet P all (R w0 β s.H) Q l ⟨s.t.arr.map (conc β), []⟩)
  | [], s, s', h, _, β, w1, hR, hs => by simp only [ops, Option.some.injEq] at h; subst h; exact ⟨rfl, hs, id⟩
  | o :: rest, s, s', h, hob, β, w1, hR, hs => by
    simp only [ops, yieldedF_eq] at h
    unfold wpQuiet
    simp only [yielded_conc]
    by_cases hw : Region.wanted o (yielded all s.t.arr) = true
    · rw [if_pos hw] at h
      split at h
      · rename_i r hr
        have hr' : opQ P okf kn call o (ev s.t.arr) s.H s.q s.ob = some r := by simpa [evF_eq] using hr
        have hob' : r.ob := ops_ob hk hg hf rest h hob
        obtain ⟨g1, g2, g3⟩ := opQ_ok hk hg hf hr'
        have ih := ops_quiet hk hg hf (Q := Q) rest h hob β w1 (by simpa [g1] using hR) (by show ScF _ (putF _ _ _).arr; rw [putF_arr]; exact hs.put (g3 hob' β w1 hR hs).1 _)
        simp only [g1] at ih
        refine ⟨ih.1, ih.2.1, fun hq => ?_⟩
        rw [if_pos hw]
        refine ⟨conc β r.v, fun w2 hw2 => (g3 hob' β w2 hw2 hs).2, ?_⟩
        rw [put_act, put_map, ← putF_arr]
        exact ih.2.2 hq
      · cases h
    · rw [if_neg hw] at h
      have ih := ops_quiet hk hg hf (Q := Q) rest h hob β w1 hR (by show ScF _ (putF _ _ _).arr; rw [putF_arr]; exact hs.put (v := undef) trivial _)
      refine ⟨ih.1, ih.2.1, fun hq => ?_⟩
      rw [if_neg hw, put_act, ← conc_undef (β := β), put_map, ← putF_arr]
      exact ih.2.2 hq

theorem Ex.up_then {x : Ex} (hx : x ≠ .nrm) {K : Act → World → Prop} {Q : Exit → Act → World → Prop} {a : Act} {w1 : World} (h : Q x.up a w1) : Exit.then K Q x.up a w1 := by
  cases x with
  | nrm => exact absurd rfl hx
  | ex id => exact h
  | rt => exact h

theorem code_ob (hk : Knows kn w0) (hg : Good P kn call) (hf : OkF P okf) : ∀ (n : Nat) (c : Code) (s s' : St) (x : Ex), code P okf kn call n c s = some (x, s') → s'.ob → s.ob := by
  intro n
  induction n with
  | zero => intro c s s' x h; simp [code] at h
  | succ n ih =>
    intro c s s' x h
    cases c with
    | skip => simp only [code, Option.some.injEq, Prod.mk.injEq] at h; obtain ⟨rfl, rfl⟩ := h; exact id
    | label l => simp only [code, Option.some.injEq, Prod.mk.injEq] at h; obtain ⟨rfl, rfl⟩ := h; exact id
    | exit id => simp only [code, Option.some.injEq, Prod.mk.injEq] at h; obtain ⟨rfl, rfl⟩ := h; exact fun x => x
    | ret => simp only [code, Option.some.injEq, Prod.mk.injEq] at h; obtain ⟨rfl, rfl⟩ := h; exact id
    | region id os draw =>
      simp only [code] at h
      split at h
      · split at h
        · rename_i s1 h1
          simp only [Option.some.injEq, Prod.mk.injEq] at h
          obtain ⟨rfl, rfl⟩ := h
          exact ops_ob hk hg hf _ h1
        · cases h
      · cases h
    | seq a b =>
      simp only [code] at h
      split at h
      · rename_i s1 h1
        exact fun x => ih _ _ _ _ h1 (ih _ _ _ _ h x)
      · exact ih _ _ _ _ h
    | cond b y z =>
      simp only [code] at h
      split at h
      · split at h
        · exact ih _ _ _ _ h
        · cases h
      · cases h
    | block id y =>
      simp only [code] at h
      split at h
      · rename_i i s1 h1
        split at h <;> simp only [Option.some.injEq, Prod.mk.injEq] at h <;> obtain ⟨rfl, rfl⟩ := h <;> exact ih _ _ _ _ h1
      · exact ih _ _ _ _ h
    | loop y =>
      simp only [code] at h
      split at h
      · rename_i s1 h1
        exact fun x => ih _ _ _ _ h1 (ih _ _ _ _ h x)
      · exact ih _ _ _ _ h
    | _ => simp [code] at h

abbrev Post (w0 : World) (s' : St) (x : Ex) (Q : Exit → Act → World → Prop) : Prop := ∀ β w, R w0 β s'.H w → ScF β.length s'.t.arr → Q x.up ⟨s'.t.arr.map (conc β), []⟩ w

theorem code_all (hm : P.follows .mixedOrders = true) (hk : Knows kn w0) (hg : Good P kn call) (hf : OkF P okf) : ∀ (n : Nat),
    (∀ (c : Code) (s s' : St) (x : Ex) (Q : Exit → Act → World → Prop), code P okf kn call n c s = some (x, s') → s'.ob → Post w0 s' x Q → ∀ β w, R w0 β s.H w → ScF β.length s.t.arr → c.wp P Q ⟨s.t.arr.map (conc β), []⟩ w) ∧
    (∀ (c : Code) (s s' : St) (x : Ex) (Q : Exit → Act → World → Prop), code P okf kn call n (.loop c) s = some (x, s') → s'.ob → Post w0 s' x Q → ∀ β w, R w0 β s.H w → ScF β.length s.t.arr → Code.rounds P c Q n ⟨s.t.arr.map (conc β), []⟩ w) := by
  intro n
  induction n with
  | zero => exact ⟨fun c s s' x Q h => by simp [code] at h, fun c s s' x Q h => by simp [code] at h⟩
  | succ n ih =>
    obtain ⟨ihA, ihB⟩ := ih
    have hB : ∀ (c : Code) (s s' : St) (x : Ex) (Q : Exit → Act → World → Prop), code P okf kn call (n + 1) (.loop c) s = some (x, s') → s'.ob → Post w0 s' x Q → ∀ β w, R w0 β s.H w → ScF β.length s.t.arr → Code.rounds P c Q (n + 1) ⟨s.t.arr.map (conc β), []⟩ w := by
      intro c s s' x Q h hob hq β w hR hs
      rw [rounds_succ]
      simp only [code] at h
      split at h
      · rename_i s1 h1
        exact ihA c s s1 .nrm _ h1 (code_ob hk hg hf _ _ _ _ _ h hob) (fun β2 w2 hR2 hs2 => ihB c s1 s' x Q h hob hq β2 w2 hR2 hs2) β w hR hs
      · rename_i h1
        refine ihA c s s' x _ h hob (fun β2 w2 hR2 hs2 => Ex.up_then (fun e => ?_) (hq β2 w2 hR2 hs2)) β w hR hs
        subst e
        exact h1 _ h
    refine ⟨?_, hB⟩
    intro c s s' x Q h hob hq β w hR hs
    cases c with
    | skip => simp only [code, Option.some.injEq, Prod.mk.injEq] at h; obtain ⟨rfl, rfl⟩ := h; exact wp_skip (hq β w hR hs)
    | label l => simp only [code, Option.some.injEq, Prod.mk.injEq] at h; obtain ⟨rfl, rfl⟩ := h; exact wp_label (hq β w hR hs)
    | region id os draw =>
      simp only [code] at h
      split at h
      · rename_i hd
        split at h
        · rename_i s1 h1
          simp only [Option.some.injEq, Prod.mk.injEq] at h
          obtain ⟨rfl, rfl⟩ := h
          cases draw with
          | false => exact wp_region_list (ops_list hk hg hf _ h1 hob hq β w hR hs)
          | true =>
            have hB2 : Region.lexB .any os = true := by simpa using hd
            obtain ⟨g1, g2, g3⟩ := ops_quiet hk hg hf (Q := fun a' => ∀ w', R w0 β s.H w' → Q .normal a' w') _ h1 hob β w hR hs
            exact wp_region_quiet (C := R w0 β s.H) hm hB2 hR.drew (g3 fun w' hw' => hq β w' (by rw [g1]; exact hw') g2)
        · cases h
      · cases h
    | seq a b =>
      simp only [code] at h
      refine wp_seq ?_
      split at h
      · rename_i s1 h1
        exact ihA a s s1 .nrm _ h1 (code_ob hk hg hf _ _ _ _ _ h hob) (fun β2 w2 hR2 hs2 => ihA b s1 s' x Q h hob hq β2 w2 hR2 hs2) β w hR hs
      · rename_i h1
        refine ihA a s s' x _ h hob (fun β2 w2 hR2 hs2 => Ex.up_then (fun e => ?_) (hq β2 w2 hR2 hs2)) β w hR hs
        subst e
        exact h1 _ h
    | cond b y z =>
      simp only [code] at h
      split at h
      · rename_i hb
        split at h
        · rename_i v hv
          have e : Act.eval ⟨s.t.arr.map (conc β), []⟩ b = .bool v := by rw [ev_conc hb, ← evF_eq, hv]; rfl
          exact wp_cond e (ihA _ s s' x Q h hob hq β w hR hs)
        · cases h
      · cases h
    | block id y =>
      simp only [code] at h
      refine wp_block ?_
      split at h
      · rename_i i s1 h1
        by_cases e : i = id
        · rw [if_pos e] at h
          simp only [Option.some.injEq, Prod.mk.injEq] at h
          obtain ⟨rfl, rfl⟩ := h
          refine ihA y s s1 (.ex i) _ h1 hob (fun β2 w2 hR2 hs2 => ?_) β w hR hs
          show Exit.inBlock id Q (.exit i) _ w2
          simp only [Exit.inBlock]
          rw [if_pos e]; exact hq β2 w2 hR2 hs2
        · rw [if_neg e] at h
          simp only [Option.some.injEq, Prod.mk.injEq] at h
          obtain ⟨rfl, rfl⟩ := h
          refine ihA y s s1 (.ex i) _ h1 hob (fun β2 w2 hR2 hs2 => ?_) β w hR hs
          show Exit.inBlock id Q (.exit i) _ w2
          simp only [Exit.inBlock]
          rw [if_neg e]; exact hq β2 w2 hR2 hs2
      · rename_i h1
        refine ihA y s s' x _ h hob (fun β2 w2 hR2 hs2 => ?_) β w hR hs
        have := hq β2 w2 hR2 hs2
        cases x with
        | nrm => exact this
        | ex i => exact absurd h (h1 i s')
        | rt => exact this
    | loop y => exact wp_loop_rounds (n + 1) (hB y s s' x Q h hob hq β w hR hs)
    | exit id => simp only [code, Option.some.injEq, Prod.mk.injEq] at h; obtain ⟨rfl, rfl⟩ := h; exact wp_exit (hq β w hR hs)
    | ret => simp only [code, Option.some.injEq, Prod.mk.injEq] at h; obtain ⟨rfl, rfl⟩ := h; exact wp_ret (hq β w hR hs)
    | _ => simp [code] at h
end

/-! ### A function -/
def res1 (P : Program) (s : St) : ResultVar → Option Value
  | .tmp i => some (s.t.get i)
  | .cell a T => match s.t.get a with
    | .pointer (some ⟨i, off, some _⟩) => match s.H[i]? with
      | some k => ldLoc P T k off
      | none => none
    | _ => none

def resL (P : Program) (s : St) : List ResultVar → Option (List Value)
  | [] => some []
  | r :: rs => match res1 P s r, resL P s rs with
    | some v, some vs => if untag v = true then some (v :: vs) else none
    | _, _ => none

def res (P : Program) (g : Func) (s : St) : Option Value :=
  match resL P s g.results.toList with
  | some [v] => some v
  | some vs => some (.tuple ⟨vs⟩)
  | none => none

def resF (t : Array Value) : ResultVar → Sem Value
  | .tmp i => pure (t.getD i undef)
  | .cell a T => do loadVar T (← asAddr (t.getD a undef))

theorem results_eq (g : Func) (t : Array Value) : results g t = (do let vs ← g.results.mapM (resF t); pure (if h : vs.size = 1 then vs[0] else .tuple vs)) := rfl

theorem res1_run {P : Program} {w0 w : World} {s : St} {β : List Nat} (hR : R w0 β s.H w) (hs : ScF β.length s.t.arr) {r : ResultVar} {v : Value} (h : res1 P s r = some v) (hu : untag v = true) :
    (resF (s.t.arr.map (conc β)) r).run P w = .ok v w := by
  cases r with
  | tmp i =>
    simp only [res1, Option.some.injEq] at h
    simp only [resF, Sem.run_pure, getD_map, s.t.arr_getD, h, conc_untag hu]
  | cell a T =>
    simp only [res1] at h
    split at h
    · rename_i i off tag ha
      split at h
      · rename_i k hk
        have hlt : i < β.length := by have := hs a; rw [s.t.arr_getD, ha] at this; exact this
        obtain ⟨b1, b2, b3⟩ := hR.blk i β[i] k (List.getElem?_eq_getElem hlt) hk
        simp only [resF, getD_map, s.t.arr_getD, ha, conc_ptr, pl, Sem.run_bind, asAddr, Sem.run_pure, Result.andThen_ok]
        have e : β.getD i 0 = β[i] := by simp [List.getD, List.getElem?_eq_getElem hlt]
        rw [e, run_ldLoc h b2, conc_untag hu]
      · cases h
    · cases h

theorem resL_run {P : Program} {w0 w : World} {s : St} {β : List Nat} (hR : R w0 β s.H w) (hs : ScF β.length s.t.arr) : ∀ (l : List ResultVar) {vs : List Value}, resL P s l = some vs →
    (l.mapM (resF (s.t.arr.map (conc β)))).run P w = .ok vs w
  | [], vs, h => by simp only [resL, Option.some.injEq] at h; subst h; rfl
  | r :: rs, vs, h => by
    simp only [resL] at h
    split at h
    · rename_i v us hv hus
      split at h
      · rename_i hu
        cases h
        have h1 := res1_run hR hs hv hu
        have ih := resL_run hR hs rs hus
        rw [List.mapM_cons, Sem.run_bind, h1]
        simp only [Result.andThen_ok, Sem.run_bind, ih, Sem.run_pure]
      · cases h
    · cases h

theorem res_run {P : Program} {w0 w : World} {s : St} {β : List Nat} (hR : R w0 β s.H w) (hs : ScF β.length s.t.arr) {g : Func} {v : Value} (h : res P g s = some v) :
    (results g (s.t.arr.map (conc β))).run P w = .ok v w := by
  unfold res at h
  have hmap : ∀ {vs : List Value}, resL P s g.results.toList = some vs → (g.results.mapM (resF (s.t.arr.map (conc β)))).run P w = .ok vs.toArray w := by
    intro vs hvs
    rw [Array.mapM_eq_mapM_toList, Sem.run_map]
    have e := resL_run hR hs g.results.toList hvs
    rw [e]
    rfl
  rw [results_eq]
  split at h
  · rename_i u hu
    cases h
    simp only [Sem.run_bind]
    rw [hmap hu]
    rfl
  · rename_i vs hne hvs
    cases h
    simp only [Sem.run_bind]
    rw [hmap hvs]
    simp only [Result.andThen_ok, Sem.run_pure]
    have hsz : ¬ vs.toArray.size = 1 := by
      intro e
      match vs, e with
      | [u], _ => exact hne u rfl
    rw [dif_neg hsz]
  · cases h

/-- A frame as a call enters it. -/
def enterF (args : Array Value) (k : Nat) : Fr := ⟨args.size + k, args.toList.zipIdx.map fun x => (x.2, x.1)⟩

theorem look_zip : ∀ (l : List Value) (s i : Nat), look ((l.zipIdx s).map fun x => (x.2, x.1)) (s + i) = l.getD i undef
  | [], s, i => by simp [look]
  | v :: l, s, 0 => by simp [look]
  | v :: l, s, i + 1 => by
    have ih := look_zip l (s + 1) i
    have hb : Nat.beq s (s + (i + 1)) = false := by
      cases hb : Nat.beq s (s + (i + 1)) with
      | false => rfl
      | true => have := Nat.eq_of_beq_eq_true hb; omega
    simp only [List.zipIdx_cons, List.map_cons, look, hb]
    rw [show s + (i + 1) = s + 1 + i by omega, ih]
    simp [List.getD]

theorem enterF_arr (args : Array Value) (k : Nat) : (enterF args k).arr = args ++ Array.replicate k undef := by
  apply Array.ext
  · simp [enterF, Fr.arr]
  · intro i h1 h2
    have e : (enterF args k).arr[i] = look ((args.toList.zipIdx 0).map fun x => (x.2, x.1)) (0 + i) := by
      simp [enterF, Fr.arr]
    rw [e, look_zip]
    by_cases h : i < args.size
    · simp [h, List.getD]
    · simp [Array.getElem_append, h, List.getD]

/-- A function's answer: by 'sum' where that knows it, else by its text: calls nest n deep at the most, a body takes m steps in depth. -/
def fn (P : Program) (okf : FuncId → Bool) (kn : Kn) (sum : Call) (m : Nat) : Nat → Call
  | 0 => sum
  | n + 1 => fun f args q ob => match sum f args q ob with
    | some r => some r
    | none => match P.funcs[f]? with
      | none => none
      | some g => match g.body with
        | none => none
        | some c => if args.toList.all untag = true then
            match code P okf kn (fn P okf kn sum m n) m c ⟨enterF args (g.ntmps - args.size), [], q, ob⟩ with
            | some (.nrm, s) => match res P g s with
              | some v => some (v, s.q, s.ob)
              | none => none
            | some (.rt, s) => match res P g s with
              | some v => some (v, s.q, s.ob)
              | none => none
            | _ => none
          else none

theorem sc_start {args : Array Value} {k : Nat} (h : args.toList.all untag = true) : ScF 0 (args ++ Array.replicate k undef) := by
  intro i
  refine sc_untag ?_
  by_cases h1 : i < args.size
  · have e : (args ++ Array.replicate k undef).getD i undef = args[i] := by
      simp [Array.getD, h1]
      omega
    rw [e]
    exact List.all_eq_true.1 h _ (by simp)
  · have e : (args ++ Array.replicate k undef).getD i undef = undef := by
      by_cases h2 : i < args.size + k
      · simp [Array.getD, Array.getElem_append, h1, h2]
      · simp [Array.getD, h2]
    rw [e]; rfl

theorem map_start {args : Array Value} {k : Nat} (h : args.toList.all untag = true) : (args ++ Array.replicate k undef).map (conc []) = args ++ Array.replicate k undef := by
  have e : args.map (conc []) = args := by
    apply Array.ext
    · simp
    · intro i h1 h2
      simp only [Array.getElem_map]
      exact conc_untag (List.all_eq_true.1 h _ (by simp))
  simp [e, conc_undef]

theorem fn_good {P : Program} {okf : FuncId → Bool} {kn : Kn} {sum : Call} {m : Nat} (hm : P.follows .mixedOrders = true) (hokf : OkF P okf) (hs : Good P kn sum) : ∀ n, Good P kn (fn P okf kn sum m n) := by
  intro n
  induction n with
  | zero => exact hs
  | succ n ih =>
    intro f args q ob v q' ob' h
    simp only [fn] at h
    split at h
    · rename_i r hr
      cases h
      exact hs f args q ob _ _ _ hr
    · split at h
      · cases h
      · rename_i g hf
        split at h
        · cases h
        · rename_i c hb
          split at h
          · rename_i hu
            intro w hk o
            have key : ∀ (x : Ex) (s : St), code P okf kn (fn P okf kn sum m n) m c ⟨enterF args (g.ntmps - args.size), [], q, ob⟩ = some (x, s) → (x = .nrm ∨ x = .rt) → res P g s = some v → s.ob = ob' →
                ob ∧ Calls P f args w fun e w' => e = .returned v ∧ Below w.heap.size w w' := by
              intro x s hc hx hv hob
              subst hob
              refine ⟨code_ob (w0 := w) hk ih hokf m c _ s x hc o, ?_⟩
              refine calls_of_wp hf hb ?_
              rw [← map_start hu, ← enterF_arr]
              refine (code_all (w0 := w) hm hk ih hokf m).1 c _ s x _ hc o (fun β w2 hR hsc => ?_) [] w (R.start w) (by show ScF 0 (enterF args (g.ntmps - args.size)).arr; rw [enterF_arr]; exact sc_start hu)
              have hr := res_run hR hsc hv
              rcases hx with rfl | rfl
              · exact ⟨rfl, v, hr, rfl, hR.below⟩
              · exact ⟨rfl, v, hr, rfl, hR.below⟩
            split at h
            · rename_i s hc
              split at h
              · rename_i u hv
                simp only [Option.some.injEq, Prod.mk.injEq] at h
                obtain ⟨rfl, rfl, rfl⟩ := h
                exact key .nrm s hc (.inl rfl) hv rfl
              · cases h
            · rename_i s hc
              split at h
              · rename_i u hv
                simp only [Option.some.injEq, Prod.mk.injEq] at h
                obtain ⟨rfl, rfl, rfl⟩ := h
                exact key .rt s hc (.inr rfl) hv rfl
              · cases h
            · cases h
          · cases h

def noSum : Call := fun _ _ _ _ => none
theorem noSum_good {P : Program} {kn : Kn} : Good P kn noSum := fun _ _ _ _ _ _ _ h => by cases h
def noKn : Kn := fun _ => none
theorem noKn_knows (w : World) : Knows noKn w := fun _ _ _ h => by cases h

/-- What is known of some calls, plainly. -/
abbrev Spec := FuncId → Array Value → Option Value
def SGood (P : Program) (kn : Kn) (s : Spec) : Prop :=
  ∀ f args v, s f args = some v → ∀ w, Knows kn w → Calls P f args w fun e w' => e = .returned v ∧ Below w.heap.size w w'
def ofSpec (s : Spec) : Call := fun f args q ob => match s f args with
  | some v => some (v, q, ob)
  | none => none
theorem ofSpec_good {P : Program} {kn : Kn} {s : Spec} (h : SGood P kn s) : Good P kn (ofSpec s) := by
  intro f args q ob v q' ob' hc w hk o
  unfold ofSpec at hc
  split at hc
  · rename_i u hu
    simp only [Option.some.injEq, Prod.mk.injEq] at hc
    obtain ⟨rfl, rfl, rfl⟩ := hc
    exact ⟨o, h f args _ hu w hk⟩
  · cases hc

/-- A call by the reckoner, nothing being owed. -/
theorem calls_fn {P : Program} {okf : FuncId → Bool} {kn : Kn} {s : Spec} {m n : Nat} {f : FuncId} {args : Array Value} {v : Value} {q : Orc} (hm : P.follows .mixedOrders = true) (hokf : OkF P okf) (hs : SGood P kn s)
    (h : fn P okf kn (ofSpec s) m n f args [] True = some (v, q, True)) (w : World) (hk : Knows kn w) : Calls P f args w fun e w' => e = .returned v ∧ Below w.heap.size w w' :=
  (fn_good hm hokf (ofSpec_good hs) n f args [] True v q True h w hk trivial).2

/-- A call by the reckoner, what is owed being given. -/
theorem calls_owed {P : Program} {okf : FuncId → Bool} {kn : Kn} {s : Spec} {m n : Nat} {f : FuncId} {args : Array Value} {v : Value} {q q' : Orc} {ob : Prop} (hm : P.follows .mixedOrders = true) (hokf : OkF P okf) (hs : SGood P kn s)
    (h : fn P okf kn (ofSpec s) m n f args q True = some (v, q', ob)) (o : ob) (w : World) (hk : Knows kn w) : Calls P f args w fun e w' => e = .returned v ∧ Below w.heap.size w w' :=
  (fn_good hm hokf (ofSpec_good hs) n f args q True v q' ob h w hk o).2

def noSpec : Spec := fun _ _ => none
theorem noSpec_good {P : Program} {kn : Kn} : SGood P kn noSpec := fun _ _ _ h => by cases h
end Rk
end Go.Proofs.YtpophgfjdlkgiaaGreatDoor
