/- A reckoner with memory, part 8: great structs that are built; any operation. -/
import Derived.Test.YtpophgfjdlkgiaaGreatDoorRm7
namespace Go.Proofs.YtpophgfjdlkgiaaGreatDoor
namespace Rm
open Go Go.RowKit
open Rk (Orc tst tst_ok Kn run run_ok szOf isAg run_isAgg run_sizeOf)

def bigParts (P : Program) (fs : Array Field) : List (Nat × Value) → Nat → (Nat → Value) → Option (Nat → Value)
  | [], _, f => some f
  | (i, v) :: r, n, f => match fs[i]? with
    | some fd => match szOf P fd.type, cellsV v with
      | some s, some vs => if (decide (vs.length = s ∧ fd.offset + s ≤ n) && untL vs && vs.all oneT) = true then bigParts P fs r n (over f fd.offset vs) else none
      | _, _ => none
    | none => none

/-- A great struct of parts, taken whole. -/
def opBB (P : Program) (bz : BZ) (T : TypeId) (parts : List (Nat × Value)) (H : Heap) (nx : Nat) (q : Orc) (ob : Prop) : Option Res :=
  match bz T, P.underlying T with
  | some (n, f), some (.struct fs) => match fs.toList.mapM (fun f => (P.info? f.type).map fun i => (f.offset, i.size)), bigParts P fs parts n f with
    | some _, some g => some ⟨.pointer (some ⟨nx, 0, some 2⟩), (nx, .snap n g) :: H, nx + 1, nx, nx, q, ob⟩
    | _, _ => none
  | _, _ => none

section
variable {P : Program} {B : Nat} {kn : Kn}
theorem foldl_set (off : Nat) : ∀ (vs : List Value) (j : Nat) (cs : Array Value), off + j + vs.length ≤ cs.size →
    ((vs.zipIdx j).foldl (fun cs x => cs.setIfInBounds (off + x.2) x.1) cs).toList = cs.toList.take (off + j) ++ vs ++ cs.toList.drop (off + j + vs.length)
  | [], j, cs, h => by simp
  | v :: r, j, cs, h => by
    simp only [List.zipIdx_cons, List.foldl_cons]
    rw [foldl_set off r (j + 1) _ (by simp at h ⊢; omega)]
    rw [Array.toList_setIfInBounds]
    have hlt : off + j < cs.toList.length := by simp at h ⊢; omega
    have e1 : (cs.toList.set (off + j) v).take (off + (j + 1)) = cs.toList.take (off + j) ++ [v] := by
      rw [show off + (j + 1) = off + j + 1 by omega, List.take_succ_eq_append_getElem (by simpa using hlt)]
      rw [List.take_set_of_le (Nat.le_refl _)]
      simp
    have e2 : (cs.toList.set (off + j) v).drop (off + (j + 1) + r.length) = cs.toList.drop (off + j + (r.length + 1)) := by
      rw [List.drop_set_of_lt (by omega)]
      congr 1; omega
    rw [e1, e2]
    simp

theorem places_at : ∀ (fs : List Field) (places : List (Nat × Nat)), fs.mapM (fun f => (P.info? f.type).map fun i => (f.offset, i.size)) = some places → ∀ (i : Nat) (fd : Field), fs[i]? = some fd → ∃ it, P.info? fd.type = some it ∧ places[i]? = some (fd.offset, it.size)
  | [], places, h, i, fd, hf => by simp at hf
  | f :: fs, places, h, i, fd, hf => by
    simp only [List.mapM_cons, Option.bind_eq_bind, Option.pure_def] at h
    cases hi : P.info? f.type with
    | none => simp [hi] at h
    | some it =>
      cases hr : fs.mapM (fun f => (P.info? f.type).map fun i => (f.offset, i.size)) with
      | none => simp [hi, hr] at h
      | some rest =>
        simp [hi, hr] at h
        subst h
        cases i with
        | zero =>
          simp only [List.getElem?_cons_zero, Option.some.injEq] at hf
          subst hf
          exact ⟨it, hi, rfl⟩
        | succ i =>
          rw [List.getElem?_cons_succ] at hf
          obtain ⟨it', h1, h2⟩ := places_at fs rest hr i fd hf
          exact ⟨it', h1, by rw [List.getElem?_cons_succ]; exact h2⟩

theorem bigParts_ok {fs : Array Field} {places : List (Nat × Nat)} (hp : fs.toList.mapM (fun f => (P.info? f.type).map fun i => (f.offset, i.size)) = some places) (ρ : Env) : ∀ (parts : List (Nat × Value)) (n : Nat) (f g : Nat → Value), bigParts P fs parts n f = some g → plainF f →
    plainF g ∧ Instr.fill (places.toArray[·]?) ⟨(List.range n).map f⟩ (parts.map fun p => (p.1, conc ρ p.2)) = some ⟨(List.range n).map g⟩
  | [], n, f, g, h, hf => by simp only [bigParts, Option.some.injEq] at h; subst h; exact ⟨hf, rfl⟩
  | (i, v) :: r, n, f, g, h, hf => by
    simp only [bigParts] at h
    split at h
    · rename_i fd hfd
      split at h
      · rename_i s vs hs hv
        split at h
        · rename_i hc
          simp only [Bool.and_eq_true, decide_eq_true_eq] at hc
          obtain ⟨⟨⟨l1, l2⟩, l3⟩, l4⟩ := hc
          obtain ⟨it, hi, hpl⟩ := places_at fs.toList places hp i fd (by simpa using hfd)
          have hsz : it.size = s := by simpa [szOf, hi] using hs
          obtain ⟨g1, g2⟩ := bigParts_ok hp ρ r n _ g h (over_plain hf l3 l4)
          refine ⟨g1, ?_⟩
          have hcells : (conc ρ v).cells = ⟨vs⟩ := by rw [(cellsV_ok hv).1 ρ, concL_unt ρ vs l3]
          simp only [List.map_cons, Instr.fill, List.getElem?_toArray, hpl, hcells, hsz]
          have hnot : ¬ ((decide ((⟨vs⟩ : Array Value).size ≠ s) || decide (fd.offset + (⟨vs⟩ : Array Value).size > (⟨(List.range n).map f⟩ : Array Value).size)) = true) := by
            simp only [List.size_toArray, List.length_map, List.length_range, Bool.or_eq_true, decide_eq_true_eq]
            omega
          rw [if_neg hnot, ← g2]
          have hfn : (fun x : Nat => places[x]?) = fun x : Nat => places.toArray[x]? := by funext x; simp
          rw [hfn]
          congr 1
          apply Array.ext'
          rw [← Array.foldl_toList]
          have e : ((⟨vs⟩ : Array Value).zipIdx).toList = vs.zipIdx 0 := by simp
          rw [e]
          have := foldl_set fd.offset vs 0 ⟨(List.range n).map f⟩ (by simp; omega)
          simp only [Nat.add_zero] at this
          rw [← over_list f fd.offset n vs (by omega)]
          exact this
        · cases h
      · cases h
    · cases h

theorem opBB_ok {bz : BZ} (hbz : BZOk P bz) {T : TypeId} {parts : Array (Nat × Operand)} {o : Oper} {e : Operand → Value} {H : Heap} {nx : Nat} {q : Orc} {ob : Prop} {r : Res} (ho : o.op = .build T parts)
    (h : opBB P bz T (parts.toList.map fun p => (p.1, e p.2)) H nx q ob = some r) : MOk P B kn o e H nx ob r := by
  have hops : ∀ x, x ∈ parts.toList.map (·.2) → x ∈ o.op.operands.toList := fun x hx => by rw [ho]; simpa [Op.operands] using hx
  unfold opBB at h
  split at h
  · rename_i n f fs hb hu
    split at h
    · rename_i places g hp hg
      cases h
      obtain ⟨⟨it, hi, hz, _⟩, hpf⟩ := hbz T n f hb
      refine ⟨id, Low.fresh rfl, fun _ ρ w hR _ hsc a ha K Q hK => ?_⟩
      obtain ⟨g1, g2⟩ := bigParts_ok hp ρ _ n f g hg hpf
      have hbuilt : P.built T (parts.map fun (i, x) => (i, a.eval x)).toList = some ⟨(List.range n).map g⟩ := by
        rw [parts_map parts (fun x hx => ha x (hops x hx))]
        unfold Program.built
        simp only [hi, hu, hz, hp]
        exact g2
      have hrun : (execOp a.eval o).run P w = .ok (.value (.agg ⟨(List.range n).map g⟩)) w := by
        rw [execOp, ho]
        simp only [Sem.run_bind, run_build (P := P) w T (parts.map fun (i, x) => (i, a.eval x)) _ hbuilt, Result.andThen_ok, Sem.run_pure]
      obtain ⟨hR2, hE2⟩ := hR.fresh (w' := w) (b := .snap n g) (e := ⟨0, 0, .agg ⟨(List.range n).map g⟩⟩) (fun hm => by cases hm) ⟨rfl, g1⟩ trivial (fun _ _ => rfl) (Nat.le_refl _) rfl rfl rfl
      refine Rk.wp_value hrun ?_
      have := hK _ _ hR2 hE2 (Nat.lt_succ_self nx)
      have e2 : conc (bind ρ nx ⟨0, 0, .agg ⟨(List.range n).map g⟩⟩) (.pointer (some ⟨nx, 0, some 2⟩)) = .agg ⟨(List.range n).map g⟩ := by simp [conc, cP, bind]
      rwa [e2] at this
    · cases h
  · cases h
end

/-- Operations that hang on no memory of one's own. -/
def opU (P : Program) (kn : Kn) (bz : BZ) (o : Oper) (e : Operand → Value) (q : Orc) (ob : Prop) : Option PRes :=
  match o.op with
  | .build T parts => match bz T with
    | none => match opBuild P T (parts.toList.map fun p => (p.1, e p.2)) with
      | some v => some ⟨v, q, ob⟩
      | none => none
    | some _ => none
  | _ => opP P true kn o e q ob

/-- Operations that look at memory, write it, or make it. -/
def opW (P : Program) (okf : FuncId → Bool) (kn : Kn) (bz : BZ) (call : Call) (o : Oper) (e : Operand → Value) (H : Heap) (nx : Nat) (q : Orc) (ob : Prop) : Option Res :=
  match o.op with
  | .alloc T => opAl P bz T H nx q ob
  | .box T x => opBox T (e x) H nx q ob
  | .store T p x => opSt P T (e p) (e x) H nx q ob
  | .load T x => opLd P T (e x) H nx q ob
  | .build T parts => opBB P bz T (parts.toList.map fun p => (p.1, e p.2)) H nx q ob
  | .buildSlice S len parts => if len = 0 ∧ parts.size = 0 then opBS0 P S H nx q ob else opBS P S len (parts.toList.map fun p => (p.1, e p.2)) H nx q ob
  | .slice S x lo hi mx => opSl P S (e x) lo hi mx e H nx q ob
  | .call c => match c.callee with
    | .value f => opCl okf call (e f) (c.args.toList.map e) H nx q ob
    | .builtin .append => opAp P kn c.argTypes.toList (c.args.toList.map e) H nx q ob
    | _ => none
  | _ => none

section
variable {P : Program} {B : Nat} {kn : Kn}
theorem opU_ok {bz : BZ} {o : Oper} {e : Operand → Value} {q : Orc} {ob : Prop} {r : PRes} (h : opU P kn bz o e q ob = some r) : POk P B kn o e ob r := by
  unfold opU at h
  split at h
  · rename_i T parts ho
    split at h
    · split at h
      · rename_i v hv
        cases h
        exact opBuild_ok ho hv
      · cases h
    · cases h
  · exact opP_ok h
theorem opW_ok {okf : FuncId → Bool} {bz : BZ} {call : Call} (hbz : BZOk P bz) (hg : Good P B kn call) (hf : Rk.OkF P okf) {o : Oper} {e : Operand → Value} {H : Heap} {nx : Nat} {q : Orc} {ob : Prop} {r : Res} (h : opW P okf kn bz call o e H nx q ob = some r) : MOk P B kn o e H nx ob r := by
  unfold opW at h
  split at h
  · rename_i T ho; exact opAl_ok hbz ho h
  · rename_i T x ho; exact opBox_ok ho h
  · rename_i T p x ho; exact opSt_ok ho h
  · rename_i T x ho; exact opLd_ok ho h
  · rename_i T parts ho; exact opBB_ok hbz ho h
  · rename_i S len parts ho
    split at h
    · rename_i hc
      obtain ⟨rfl, hc⟩ := hc
      exact opBS0_ok ho hc h
    · exact opBS_ok ho h
  · rename_i S x lo hi mx ho; exact opSl_ok ho h
  · rename_i c ho
    split at h
    · rename_i f hc; exact opCl_ok hg hf ho hc h
    · rename_i hc; exact opAp_ok ho hc h
    · cases h
  · cases h
end
end Rm
end Go.Proofs.YtpophgfjdlkgiaaGreatDoor
