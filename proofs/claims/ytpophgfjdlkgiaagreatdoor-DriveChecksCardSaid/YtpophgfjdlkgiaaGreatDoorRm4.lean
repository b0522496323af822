/- A reckoner with memory, part 4: operations that write memory, or make it. -/
import Derived.Test.YtpophgfjdlkgiaaGreatDoorRm3
namespace Go.Proofs.YtpophgfjdlkgiaaGreatDoor
namespace Rm
open Go Go.RowKit
open Rk (Orc tst tst_ok Kn run run_ok szOf isAg run_isAgg run_sizeOf)

def splice (cs : List Value) (off : Nat) (vs : List Value) : List Value := cs.take off ++ vs ++ cs.drop (off + vs.length)
def over (f : Nat → Value) (off : Nat) (vs : List Value) : Nat → Value := fun j => if off ≤ j ∧ j < off + vs.length then vs.getD (j - off) undef else f j

def opSt (P : Program) (T : TypeId) (p x : Value) (H : Heap) (nx : Nat) (q : Orc) (ob : Prop) : Option Res :=
  match p with
  | .pointer (some ⟨k, off, some 0⟩) => match lk H k with
    | some (.row cs ty) => match cellsV x, szOf P T with
      | some vs, some n => if vs.length = n ∧ off + n ≤ cs.length ∧ vs.all oneT = true then some ⟨undef, upd H k (.row (splice cs off vs) ty), nx, k, if unt x = true then nx else k, q, ob⟩ else none
      | _, _ => none
    | some (.room cs ty sz) => match cellsV x, szOf P T with
      | some vs, some n => if vs.length = n ∧ off + n ≤ cs.length ∧ vs.all oneT = true then some ⟨undef, upd H k (.room (splice cs off vs) ty sz), nx, k, if unt x = true then nx else k, q, ob⟩ else none
      | _, _ => none
    | some (.big n f ty) => match szOf P T with
      | some m => match x with
        | .pointer (some ⟨k2, _, some 2⟩) => match lk H k2 with
          | some (.snap n2 g) => if off = 0 ∧ m = n ∧ n2 = n then some ⟨undef, upd H k (.big n g ty), nx, k, nx, q, ob⟩ else none
          | _ => none
        | _ => match cellsV x with
          | some vs => if vs.length = m ∧ off + m ≤ n ∧ untL vs = true ∧ vs.all oneT = true then some ⟨undef, upd H k (.big n (over f off vs) ty), nx, k, nx, q, ob⟩ else none
          | none => none
      | none => none
    | _ => none
  | _ => none

/-- The zero values that are great, by functions. -/
abbrev BZ := TypeId → Option (Nat × (Nat → Value))
def BZOk (P : Program) (bz : BZ) : Prop := ∀ T n f, bz T = some (n, f) → (∃ i, P.info? T = some i ∧ i.zero = some (.agg ⟨(List.range n).map f⟩) ∧ i.size = n) ∧ plainF f

def opAl (P : Program) (bz : BZ) (T : TypeId) (H : Heap) (nx : Nat) (q : Orc) (ob : Prop) : Option Res :=
  match bz T with
  | some (n, f) => some ⟨.pointer (some ⟨nx, 0, some 0⟩), (nx, .big n f T) :: H, nx + 1, nx, nx, q, ob⟩
  | none => match (P.info? T).bind (·.zero) with
    | some z => if untL z.cells.toList = true then some ⟨.pointer (some ⟨nx, 0, some 0⟩), (nx, .row z.cells.toList T) :: H, nx + 1, nx, nx, q, ob⟩ else none
    | none => none
def opBox (T : TypeId) (x : Value) (H : Heap) (nx : Nat) (q : Orc) (ob : Prop) : Option Res :=
  match x with
  | .pointer (some ⟨k2, _, some 2⟩) => match lk H k2 with
    | some (.snap n g) => some ⟨.pointer (some ⟨nx, 0, some 0⟩), (nx, .big n g T) :: H, nx + 1, nx, nx, q, ob⟩
    | _ => none
  | _ => match cellsV x with
    | some vs => some ⟨.pointer (some ⟨nx, 0, some 0⟩), (nx, .row vs T) :: H, nx + 1, nx, nx, q, ob⟩
    | none => none

section
variable {P : Program} {B : Nat} {kn : Kn}

theorem Low.fresh {H : Heap} {nx : Nat} {b : Blk} {r : Res} (h : r.H = (nx, b) :: H) : Low H nx r := fun j c _ hj hc => by rw [h, lk_cons, if_neg (by omega)]; exact hc
theorem Low.upd {H : Heap} {nx k : Nat} {b : Blk} {r : Res} (h : r.H = upd H k b) (hl : r.lo = k) : Low H nx r := fun j c hj _ hc => by rw [h, lk_upd, if_neg (by omega)]; exact hc

theorem exec_store {T : TypeId} {p x : Operand} {o : Oper} (ho : o.op = .store T p x) {ev : Operand → Value} {b off n : Nat} {arr : Array Value} {ty : TypeId} (hp : ev p = .pointer (some ⟨b, off, none⟩)) {us : List Value} (hx : (ev x).cells = ⟨us⟩)
    {w : World} (hb : w.heap[b]? = some (.cells arr ty (0, 0))) (hs : szOf P T = some n) (hl : us.length = n) (hle : off + us.length ≤ arr.size) (h1 : ∀ u ∈ us, u.oneCell' = true) :
    (execOp ev o).run P w = .ok .skip (w.setRow b (arr.toList.take off ++ us ++ arr.toList.drop (off + us.length)).toArray) := by
  have hst := run_storeCells_at (P := P) b off ty us 0 arr w hb (by simpa using hle) h1
  rw [execOp, ho]
  have hsz : ¬ (⟨us⟩ : Array Value).size ≠ n := fun q => q hl
  simp only [Sem.run_bind, Instr.storeAt, hp, Instr.sureAddr, Sem.run_pure, Result.andThen_ok, storeVar, run_sizeOf hs, hx]
  rw [if_neg hsz, hst]
  simp

theorem concL_splice (ρ : Env) (cs vs : List Value) (off : Nat) (rest : List Value) (h : off + vs.length ≤ cs.length) :
    (concL ρ cs ++ rest).take off ++ concL ρ vs ++ (concL ρ cs ++ rest).drop (off + (concL ρ vs).length) = concL ρ (splice cs off vs) ++ rest := by
  simp only [concL_map, splice, List.map_append, List.map_take, List.map_drop, List.length_map]
  rw [List.take_append_of_le_length (by simp; omega), List.drop_append_of_le_length (by simp; omega)]
  simp

theorem concL_len (ρ : Env) (l : List Value) : (concL ρ l).length = l.length := by rw [concL_map, List.length_map]

theorem over_list (f : Nat → Value) (off n : Nat) (vs : List Value) (h : off + vs.length ≤ n) :
    ((List.range n).map f).take off ++ vs ++ ((List.range n).map f).drop (off + vs.length) = (List.range n).map (over f off vs) := by
  apply List.ext_getElem?
  intro j
  by_cases h1 : j < off
  · rw [List.append_assoc, List.getElem?_append_left (by simp; omega), List.getElem?_take, if_pos h1, List.getElem?_map, List.getElem?_map, List.getElem?_range (by omega)]
    simp only [Option.map_some, over]
    rw [if_neg (by omega)]
  · by_cases h2 : j < off + vs.length
    · rw [List.append_assoc, List.getElem?_append_right (by simp; omega), List.getElem?_append_left (by simp; omega), List.getElem?_map, List.getElem?_range (by omega)]
      simp only [Option.map_some, over]
      rw [if_pos ⟨by omega, h2⟩]
      have e : min off n = off := by omega
      simp only [List.length_take, List.length_map, List.length_range, e, List.getD]
      rw [List.getElem?_eq_getElem (show j - off < vs.length by omega)]
      rfl
    · have e : (((List.range n).map f).take off ++ vs).length = off + vs.length := by simp; omega
      rw [List.getElem?_append_right (by omega), e, List.getElem?_drop, show off + vs.length + (j - (off + vs.length)) = j by omega]
      by_cases h3 : j < n
      · rw [List.getElem?_map, List.getElem?_map, List.getElem?_range h3]
        simp only [Option.map_some, over]
        rw [if_neg (by omega)]
      · rw [List.getElem?_eq_none (by simp; omega), List.getElem?_eq_none (by simp; omega)]

theorem over_plain {f : Nat → Value} {off : Nat} {vs : List Value} (hf : plainF f) (h1 : untL vs = true) (h2 : vs.all oneT = true) : plainF (over f off vs) := fun j => by
  unfold over
  split
  · rename_i h
    have e : vs.getD (j - off) undef = vs[j - off]'(by omega) := by simp [List.getD, List.getElem?_eq_getElem (show j - off < vs.length by omega)]
    rw [e]
    have hm : vs[j - off]'(by omega) ∈ vs := List.getElem_mem _
    have hu := (untL_all vs).1 h1 _ hm
    have ho := (oneT_ok (List.all_eq_true.1 h2 _ hm) (fun _ => ⟨0, 0, undef⟩)).1
    rw [conc_unt _ _ hu] at ho
    exact ⟨hu, ho⟩
  · exact hf j

theorem splice_len (cs vs : List Value) (off : Nat) (h : off + vs.length ≤ cs.length) : (splice cs off vs).length = cs.length := by
  simp [splice]; omega
theorem splice_sc {n : Nat} {cs vs : List Value} (off : Nat) (h1 : scL n cs) (h2 : scL n vs) : scL n (splice cs off vs) := by
  refine (scL_all n _).2 fun v hv => ?_
  simp only [splice, List.mem_append] at hv
  rcases hv with (hv | hv) | hv
  · exact (scL_all n _).1 h1 v (List.mem_of_mem_take hv)
  · exact (scL_all n _).1 h2 v hv
  · exact (scL_all n _).1 h1 v (List.mem_of_mem_drop hv)

theorem opSt_ok {T : TypeId} {p x : Operand} {o : Oper} {e : Operand → Value} {H : Heap} {nx : Nat} {q : Orc} {ob : Prop} {r : Res} (ho : o.op = .store T p x) (h : opSt P T (e p) (e x) H nx q ob = some r) : MOk P B kn o e H nx ob r := by
  have hop : p ∈ o.op.operands.toList := by simp [ho, Op.operands]
  have hox : x ∈ o.op.operands.toList := by simp [ho, Op.operands]
  unfold opSt at h
  split at h
  · rename_i k off hp
    split at h
    · rename_i cs ty hk
      split at h
      · rename_i vs n hv hs
        split at h
        · rename_i hc
          obtain ⟨l1, l2, l3⟩ := hc
          cases h
          refine ⟨id, Low.upd rfl rfl, fun _ ρ w hR _ hsc a ha K Q hK => ?_⟩
          obtain ⟨g1, g2, g3, g4⟩ := hR.mem k _ hk
          obtain ⟨c1, c2⟩ := cellsV_ok hv
          have hrun := exec_store (P := P) ho (ev := a.eval) (us := concL ρ vs) (by rw [ha p hop, hp, conc_ptr]) (by rw [ha x hox]; exact c1 ρ) g2 hs (by rw [concL_len]; exact l1) (by simp [concL_len]; omega)
            (fun u hu => by
              rw [concL_map] at hu
              obtain ⟨y, hy, rfl⟩ := List.mem_map.1 hu
              exact (oneT_ok (List.all_eq_true.1 l3 y hy) ρ).1)
          have hsp := concL_splice ρ cs vs off [] (by omega)
          simp only [List.append_nil] at hsp
          simp only [hsp] at hrun
          obtain ⟨hR2, hE2⟩ := hR.turn (w' := w.setRow (ρ k).b (concL ρ (splice cs off vs)).toArray) (b' := .row (splice cs off vs) ty) hk rfl rfl (splice_sc off g3 (c2 _ (hsc x hox))) (setRow_heap w _ _ _ _ _ g2) (fun y hy => setRow_other w _ _ _ hy) (by simp) rfl rfl rfl
          exact Rk.wp_skip' hrun (hK _ _ hR2 hE2 trivial)
        · cases h
      · cases h
    · rename_i cs ty sz hk
      split at h
      · rename_i vs n hv hs
        split at h
        · rename_i hc
          obtain ⟨l1, l2, l3⟩ := hc
          cases h
          refine ⟨id, Low.upd rfl rfl, fun _ ρ w hR _ hsc a ha K Q hK => ?_⟩
          obtain ⟨g1, ⟨rest, m, g2, g5, g6⟩, g3, g4⟩ := hR.mem k _ hk
          obtain ⟨c1, c2⟩ := cellsV_ok hv
          have hrun := exec_store (P := P) ho (ev := a.eval) (us := concL ρ vs) (by rw [ha p hop, hp, conc_ptr]) (by rw [ha x hox]; exact c1 ρ) g2 hs (by rw [concL_len]; exact l1) (by simp [concL_len]; omega)
            (fun u hu => by
              rw [concL_map] at hu
              obtain ⟨y, hy, rfl⟩ := List.mem_map.1 hu
              exact (oneT_ok (List.all_eq_true.1 l3 y hy) ρ).1)
          have hsp := concL_splice ρ cs vs off rest (by omega)
          simp only [hsp] at hrun
          have hsl := splice_len cs vs off (by omega)
          obtain ⟨hR2, hE2⟩ := hR.turn (w' := w.setRow (ρ k).b (concL ρ (splice cs off vs) ++ rest).toArray) (b' := .room (splice cs off vs) ty sz) hk rfl rfl (splice_sc off g3 (c2 _ (hsc x hox))) ⟨rest, m, setRow_heap w _ _ _ _ _ g2, by rw [← g5]; simp [concL_len, hsl], by rw [hsl]; exact g6⟩ (fun y hy => setRow_other w _ _ _ hy) (by simp) rfl rfl rfl
          exact Rk.wp_skip' hrun (hK _ _ hR2 hE2 trivial)
        · cases h
      · cases h
    · rename_i n f ty hk
      split at h
      · rename_i m hs
        split at h
        · rename_i k2 o2 hx2
          split at h
          · rename_i n2 g hk2
            split at h
            · rename_i hc
              obtain ⟨rfl, hmn, hnn⟩ := hc
              subst hnn
              subst hmn
              cases h
              refine ⟨id, Low.upd rfl rfl, fun _ ρ w hR _ hsc a ha K Q hK => ?_⟩
              obtain ⟨g1, ⟨g2, gp⟩, g3, g4⟩ := hR.mem k _ hk
              obtain ⟨s1, ⟨s2, sp⟩, s3, s4⟩ := hR.mem k2 _ hk2
              have hval : conc ρ (e x) = .agg ⟨(List.range m).map g⟩ := by rw [hx2]; simpa [conc, cP] using s2
              have hrun := exec_store (P := P) ho (ev := a.eval) (us := (List.range m).map g) (by rw [ha p hop, hp, conc_ptr]) (by rw [ha x hox, hval]; rfl) g2 hs (by simp) (by simp)
                (fun u hu => by
                  obtain ⟨j, _, rfl⟩ := List.mem_map.1 hu
                  exact (sp j).2)
              have hsp : ((⟨(List.range m).map f⟩ : Array Value).toList.take 0 ++ (List.range m).map g ++ (⟨(List.range m).map f⟩ : Array Value).toList.drop (0 + ((List.range m).map g).length)) = (List.range m).map g := by
                simp
              rw [hsp] at hrun
              obtain ⟨hR2, hE2⟩ := hR.turn (w' := w.setRow (ρ k).b ((List.range m).map g).toArray) (b' := .big m g ty) hk rfl rfl trivial ⟨setRow_heap w _ _ _ _ _ g2, sp⟩ (fun y hy => setRow_other w _ _ _ hy) (by simp) rfl rfl rfl
              exact Rk.wp_skip' hrun (hK _ _ hR2 hE2 trivial)
            · cases h
          · cases h
        · split at h
          · rename_i vs hv
            split at h
            · rename_i hc
              obtain ⟨l1, l2, l3, l4⟩ := hc
              cases h
              refine ⟨id, Low.upd rfl rfl, fun _ ρ w hR _ hsc a ha K Q hK => ?_⟩
              obtain ⟨g1, ⟨g2, gp⟩, g3, g4⟩ := hR.mem k _ hk
              obtain ⟨c1, c2⟩ := cellsV_ok hv
              have hun := concL_unt ρ vs l3
              have hrun := exec_store (P := P) ho (ev := a.eval) (us := vs) (by rw [ha p hop, hp, conc_ptr]) (by rw [ha x hox, c1 ρ, hun]) g2 hs l1 (by simp; omega)
                (fun u hu => by
                  have := (oneT_ok (List.all_eq_true.1 l4 u hu) ρ).1
                  rwa [conc_unt ρ u ((untL_all vs).1 l3 u hu)] at this)
              rw [over_list f off n vs (by omega)] at hrun
              obtain ⟨hR2, hE2⟩ := hR.turn (w' := w.setRow (ρ k).b ((List.range n).map (over f off vs)).toArray) (b' := .big n (over f off vs) ty) hk rfl rfl trivial ⟨setRow_heap w _ _ _ _ _ g2, over_plain gp l3 l4⟩ (fun y hy => setRow_other w _ _ _ hy) (by simp) rfl rfl rfl
              exact Rk.wp_skip' hrun (hK _ _ hR2 hE2 trivial)
            · cases h
          · cases h
      · cases h
    · cases h
  · cases h

/-- A new block behind an operation. -/
theorem new_ok {o : Oper} {e : Operand → Value} {H : Heap} {nx : Nat} {q : Orc} {ob : Prop} {b : Blk}
    (h : ∀ (ρ : Env) (w : World), R B ρ H nx w → (∀ x ∈ o.op.operands.toList, sc nx (e x)) → b.sc (nx + 1) ∧ ∀ a : Act, (∀ x ∈ o.op.operands.toList, a.eval x = conc ρ (e x)) →
      ∃ ob2, (execOp a.eval o).run P w = .ok (.value (.pointer (some ⟨w.heap.size, 0, none⟩))) (w.alloc ob2) ∧ ∀ w' : World, w'.heap[w.heap.size]? = some ob2 → BAt (bind ρ nx ⟨w.heap.size, 0, undef⟩) w' ⟨w.heap.size, 0, undef⟩ b) :
    MOk P B kn o e H nx ob ⟨.pointer (some ⟨nx, 0, some 0⟩), (nx, b) :: H, nx + 1, nx, nx, q, ob⟩ := by
  refine ⟨id, Low.fresh rfl, fun _ ρ w hR _ hsc a ha K Q hK => ?_⟩
  obtain ⟨h1, h2⟩ := h ρ w hR hsc
  obtain ⟨ob2, hrun, hb⟩ := h2 a ha
  obtain ⟨hR2, hE2⟩ := hR.fresh (w' := w.alloc ob2) (e := ⟨w.heap.size, 0, undef⟩) (fun _ => rfl) (hb _ (heap_alloc_new w _)) h1 (fun x hx => heap_alloc_old w _ x hx) (by simp) rfl rfl rfl
  refine Rk.wp_value hrun ?_
  have := hK _ _ hR2 hE2 (Nat.lt_succ_self nx)
  rw [conc_ptr, bind_at] at this
  exact this

theorem opAl_ok {bz : BZ} (hbz : BZOk P bz) {T : TypeId} {o : Oper} {e : Operand → Value} {H : Heap} {nx : Nat} {q : Orc} {ob : Prop} {r : Res} (ho : o.op = .alloc T) (h : opAl P bz T H nx q ob = some r) : MOk P B kn o e H nx ob r := by
  unfold opAl at h
  split at h
  · rename_i n f hb
    cases h
    obtain ⟨⟨i, hi, hz, _⟩, hp⟩ := hbz T n f hb
    refine new_ok fun ρ w hR _ => ⟨trivial, fun a _ => ⟨.cells ⟨(List.range n).map f⟩ T, ?_, fun w' hw' => ⟨hw', hp⟩⟩⟩
    have hzr : (zeroValue T).run P w = .ok (.agg ⟨(List.range n).map f⟩) w := by simp [zeroValue, typeInfo, hi, hz]
    rw [execOp, ho]
    simp only [Sem.run_bind, Instr.alloc, hzr, Result.andThen_ok, newVar, newRow, run_newObj, Sem.run_pure]
    rfl
  · split at h
    · rename_i z hz
      split at h
      · rename_i hu
        cases h
        refine new_ok fun ρ w hR _ => ⟨scL_unt _ _ hu, fun a _ => ⟨.cells z.cells T, ?_, fun w' hw' => ?_⟩⟩
        · have hzr : (zeroValue T).run P w = .ok z w := by
            cases hi : P.info? T with
            | none => simp [hi] at hz
            | some i =>
              simp only [hi, Option.bind_some] at hz
              simp [zeroValue, typeInfo, hi, hz]
          rw [execOp, ho]
          simp only [Sem.run_bind, Instr.alloc, hzr, Result.andThen_ok, newVar, newRow, run_newObj, Sem.run_pure]
          rfl
        · show w'.heap[w.heap.size]? = some (.cells ⟨concL _ z.cells.toList⟩ T (0, 0))
          rw [concL_unt _ _ hu]; exact hw'
      · cases h
    · cases h

theorem opBox_ok {T : TypeId} {x : Operand} {o : Oper} {e : Operand → Value} {H : Heap} {nx : Nat} {q : Orc} {ob : Prop} {r : Res} (ho : o.op = .box T x) (h : opBox T (e x) H nx q ob = some r) : MOk P B kn o e H nx ob r := by
  have hox : x ∈ o.op.operands.toList := by simp [ho, Op.operands]
  have hrun : ∀ (ev : Operand → Value) (w : World) (us : List Value), (ev x).cells = ⟨us⟩ → (execOp ev o).run P w = .ok (.value (.pointer (some ⟨w.heap.size, 0, none⟩))) (w.alloc (.cells ⟨us⟩ T)) := fun ev w us hu => by
    rw [execOp, ho]
    simp only [Sem.run_bind, Instr.box, newVar, newRow, run_newObj, Sem.run_pure, Result.andThen_ok, hu]
    rfl
  unfold opBox at h
  split at h
  · rename_i k2 o2 hx
    split at h
    · rename_i n g hk2
      cases h
      refine new_ok fun ρ w hR _ => ⟨trivial, fun a ha => ⟨.cells ⟨(List.range n).map g⟩ T, hrun _ _ _ ?_, fun w' hw' => ⟨hw', ?_⟩⟩⟩
      · obtain ⟨s1, ⟨s2, sp⟩, s3, s4⟩ := hR.mem k2 _ hk2
        have hval : conc ρ (e x) = .agg ⟨(List.range n).map g⟩ := by rw [hx]; simpa [conc, cP] using s2
        rw [ha x hox, hval]; rfl
      · exact (hR.mem k2 _ hk2).2.1.2
    · cases h
  · split at h
    · rename_i vs hv
      cases h
      obtain ⟨c1, c2⟩ := cellsV_ok hv
      refine new_ok fun ρ w hR hsc => ⟨scL_mono (Nat.le_succ _) _ (c2 _ (hsc x hox)), fun a ha => ⟨.cells ⟨concL ρ vs⟩ T, hrun _ _ _ ?_, fun w' hw' => ?_⟩⟩
      · rw [ha x hox]; exact c1 ρ
      · show w'.heap[w.heap.size]? = some (.cells ⟨concL _ vs⟩ T (0, 0))
        rw [← concL_same (bind_same ρ nx ⟨w.heap.size, 0, undef⟩) vs (c2 _ (hsc x hox))]; exact hw'
    · cases h
end
end Rm
end Go.Proofs.YtpophgfjdlkgiaaGreatDoor
