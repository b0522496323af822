/- Where the listed variables read as the program's text lays them, the cells of memory.kinds and of micro.jumps are known. -/
import Derived.Test.YtpophgfjdlkgiaaGreatDoorLaid
import Derived.Test.YtpophgfjdlkgiaaGreatDoorRmX
import Derived.Lay
import Derived.ChangeSame
import Derived.ChangeSlices
namespace Go.Proofs.YtpophgfjdlkgiaaGreatDoor
open Go Go.ChangeShapes Go.WideShapes Go.ChangeAt Go.RowKit
set_option maxRecDepth 100000
theorem own : ownKnob Tryz.prog.godebug = none := by kernel_rfl
theorem laidVars_mem {P : Program} {w : World} : ∀ {l : List (String × DataW Unit)} {ps : List MemPlace}, DataW.LaidVars P w l ps → ∀ x ∈ l,
    ∃ g t cs fuel p, P.globalNamed x.1 = some g ∧ (P.globals[g]?).map (·.type) = some t ∧ w.var? P x.1 = some cs ∧ DataW.trod (fun _ => ()) P w 0 (fun _ => true) false fuel t cs.toList = some (x.2, p)
  | [], _, _, x, hx => by cases hx
  | (n, d) :: r, ps, h, x, hx => by
    obtain ⟨g, t, cs, fuel, p, q, hg, ht, hv, hd, hr, _⟩ := h
    rcases List.mem_cons.1 hx with rfl | hx
    · exact ⟨g, t, cs, fuel, p, hg, ht, hv, hd⟩
    · exact laidVars_mem hr x hx
theorem var_cells {P : Program} {W : World} {laid : List (String × DataW Unit)} (h : laidMet P laid W) (n : String) (d : DataW Unit) (g m i : Nat) (hx : laid[i]? = some (n, d)) (hg : P.globalNamed n = some g)
    (hl : layB P m ((P.globals[g]?).map (·.type)).get! = true) (j : Nat) (v : Value) (hv : (flat d)[j]? = some v) : W.cell? ⟨g, j, none⟩ = some v := by
  obtain ⟨ps, hp, _⟩ := h
  obtain ⟨g', t, cs, fuel, p, hg', ht, hvar, hd⟩ := laidVars_mem hp _ (List.mem_of_getElem? hx)
  obtain rfl := Option.some.inj (hg.symm.trans hg')
  rw [ht] at hl
  have hc := flat_of m t hl fuel cs.toList _ hd
  have := World.var?_cell hg hvar j
  rw [this, ← Array.getElem?_toList, hc]
  exact hv

theorem gKinds : Tryz.prog.globalNamed "cochineal/memory.kinds" = some 0 := by kernel_rfl
theorem gJumps : Tryz.prog.globalNamed "cochineal/micro.jumps" = some 1 := by kernel_rfl
theorem layKinds : layB Tryz.prog 4 ((Tryz.prog.globals[0]?).map (·.type)).get! = true := by kernel_rfl
theorem flatKinds : flat Rows.laid_cochineal_memory_kinds = Rm.kindsL := by kernel_rfl
theorem tJumps : (Tryz.prog.globals[1]?).map (·.type) = some 245 := by kernel_rfl
theorem cells244 : Tryz.prog.cellsOf 244 = 4 := by kernel_rfl
theorem cells99 : Tryz.prog.cellsOf 99 = 3 := by kernel_rfl
theorem cells22 : Tryz.prog.cellsOf 22 = 1 := by kernel_rfl
theorem cells3 : Tryz.prog.cellsOf 3 = 1 := by kernel_rfl
theorem lay99 : layB Tryz.prog 3 99 = true := by kernel_rfl

def rowN : DataW Unit × List Int := (.nil, [])
/-- A row of micro.jumps: what is plain, and the steps. -/
def rowD (x : DataW Unit × List Int) : DataW Unit := .agg [x.1, .slice (lits .i64 x.2) []]
def jD : List (DataW Unit × List Int) :=
  let o (s : List UInt8) (a b : Int) : DataW Unit := .agg [.lit (.string s), .lit (.int .i64 a), .lit (.int .i64 b)]
  [(o [74, 77, 80] 6 4, [1, 24]), (o [74, 77, 80] 11 4, [1, 2, 22, 23]), (o [74, 83, 82] 6 4, [1, 13, 14, 15, 24]), (o [82, 84, 83] 0 4, [0, 13, 18, 19, 25]), (o [82, 84, 73] 0 4, [0, 13, 20, 18, 19]), (o [80, 72, 65] 0 4, [0, 17]), (o [80, 72, 80] 0 4, [0, 16]), (o [80, 76, 65] 0 4, [0, 13, 21]), (o [80, 76, 80] 0 4, [0, 13, 20]), (o [66, 82, 75] 0 4, [25, 14, 15, 16, 29, 30])]
theorem jD_laid : Rows.laid_cochineal_micro_jumps = DataW.agg (jD.map rowD) := by kernel_rfl

theorem lits_inj {k : IntKind} : ∀ {a b : List Int}, lits (H := Unit) k a = lits k b → a = b
  | [], [], _ => rfl
  | [], _ :: _, h => by simp [lits] at h
  | _ :: _, [], h => by simp [lits] at h
  | a :: l, b :: m, h => by
    simp only [lits, List.map_cons, List.cons.injEq, DataW.lit.injEq, Lit.int.injEq, true_and] at h
    rw [h.1, lits_inj h.2]

/-- One row's cells. -/
theorem row_cells {W : World} {fuel : Nat} {cs : List Value} {d : DataW Unit} {zs : List Int} {pl : List MemPlace} (hz : 0 < zs.length) (h : tr Tryz.prog W 0 (fun _ => true) false fuel 244 cs = some (rowD (d, zs), pl)) :
    ∃ t : Nat × Nat × Nat, cs = flat d ++ [.slice (some ⟨t.1, t.2.1, none⟩) zs.length t.2.2] ∧ ∀ i, i < zs.length → W.cell? ⟨t.1, t.2.1 + i, none⟩ = some (.int .i64 (zs.getD i 0)) := by
  obtain ⟨y0, y1, m, hx, hl, h0, h1⟩ := trod_struct2 Tryz.underlying244 h
  rw [cells244] at hl
  simp only [cells99, cells22, List.drop_zero] at h0 h1
  simp only [rowD, Prod.mk.injEq, DataW.agg.injEq, List.cons.injEq, and_true] at hx
  have f0 := flat_of 3 99 lay99 m _ _ h0
  rw [← hx.1.1] at f0
  rcases open_ints Tryz.underlying22 Tryz.underlying3 cells3 h1 with ⟨_, e⟩ | ⟨a, len, cap, us, e1, _, hlc, _, hlen, e2, hcell, _⟩
  · rw [e] at hx
    cases hx.1.2
  · rw [e2] at hx
    simp only [DataW.slice.injEq] at hx
    have hz1 : zs = us.take len := lits_inj hx.1.2.1
    have hz2 : us.drop len = [] := by
      have := hx.1.2.2
      cases hd : us.drop len with
      | nil => rfl
      | cons b m => rw [hd] at this; simp [lits] at this
    simp only [if_true] at hlen
    have hlz : zs.length = len := by rw [hz1, List.length_take]; omega
    have hus : us = zs := by
      rw [hz1, ← List.take_append_drop len us, hz2, List.append_nil, List.take_take, Nat.min_self]
    subst hus
    have hsp : a.spot = none := by
      have := World.cell?_spot (hcell 0 hz)
      simpa [Addr.add] using this
    obtain ⟨B, o, s⟩ := a
    simp only at hsp
    subst hsp
    refine ⟨(B, o, cap), ?_, fun i hi => ?_⟩
    · rw [← f0, hlz, ← e1]
      have e3 : (cs.drop 3).take 1 = cs.drop 3 := List.take_of_length_le (by rw [List.length_drop]; omega)
      rw [e3, List.take_append_drop]
    · have := hcell i hi
      rw [add_plain] at this
      exact this

theorem rows_flat {s : Nat} (R : Nat → List Value) : ∀ (n : Nat) (cs : List Value) (k : Nat), cs.length = n * s → (∀ i, i < n → (cs.drop (i * s)).take s = R (k + i)) → cs = (List.range' k n).flatMap R
  | 0, cs, k, hl, _ => by
    have : cs = [] := List.length_eq_zero_iff.1 (by simpa using hl)
    subst this
    rfl
  | n + 1, cs, k, hl, h => by
    have h0 := h 0 (by omega)
    simp only [Nat.zero_mul, List.drop_zero, Nat.add_zero] at h0
    have ih := rows_flat (s := s) R n (cs.drop s) (k + 1) (by rw [List.length_drop, hl, Nat.succ_mul]; omega) (fun i hi => by
      rw [List.drop_drop, show s + i * s = (i + 1) * s by rw [Nat.succ_mul]; omega, h (i + 1) (by omega)]
      congr 1; omega)
    rw [List.range'_succ, List.flatMap_cons, ← ih, ← h0, List.take_append_drop]

/-- Where the ten slices lie, and that all reads as laid. -/
theorem lit_of {W : World} {laid : List (String × DataW Unit)} (h : laidMetH Tryz.prog laid W) (hh : (laid.all fun x => x.2.handleName?.isNone) = true) (i j : Nat)
    (hi : laid[i]? = some ("cochineal/memory.kinds", Rows.laid_cochineal_memory_kinds)) (hj : laid[j]? = some ("cochineal/micro.jumps", Rows.laid_cochineal_micro_jumps)) :
    ∃ J : Rm.Js, Rm.LitOk W J ∧ W.cell? ⟨J.b 0, J.o 0, none⟩ = some (.int .i64 1) ∧ W.cell? ⟨J.b 0, J.o 0 + 1, none⟩ = some (.int .i64 24) := by
  rw [MakeChecks.laidMetH_plain _ _ _ hh] at h
  have hk := fun jj v => var_cells h _ _ _ 4 i hi gKinds layKinds jj v
  obtain ⟨ps, hp, _⟩ := h
  obtain ⟨g', t, cs, fuel, p, hg', ht, hvar, hd⟩ := laidVars_mem hp _ (List.mem_of_getElem? hj)
  obtain rfl := Option.some.inj (gJumps.symm.trans hg')
  obtain rfl := Option.some.inj (tJumps.symm.trans ht)
  obtain ⟨xs, m, _, ex, hlen, hl, hel⟩ := DataW.trod_array Tryz.underlying245 hd
  rw [cells244] at hel
  have hc245 : Tryz.prog.cellsOf 245 = 10 * 4 := by kernel_rfl
  rw [hc245] at hlen
  have hxs : xs.map (·.1) = jD.map rowD := by
    have := (Prod.mk.inj ex).1
    rw [jD_laid] at this
    exact (DataW.agg.inj this).symm
  have hrow : ∀ n, n < 10 → ∃ t : Nat × Nat × Nat, (cs.toList.drop (n * 4)).take 4 = flat (jD.getD n rowN).1 ++ [.slice (some ⟨t.1, t.2.1, none⟩) (jD.getD n rowN).2.length t.2.2] ∧
      ∀ i, i < (jD.getD n rowN).2.length → W.cell? ⟨t.1, t.2.1 + i, none⟩ = some (.int .i64 ((jD.getD n rowN).2.getD i 0)) := fun n hn => by
    have hx : ∃ x, xs[n]? = some x := ⟨xs[n]'(by omega), List.getElem?_eq_getElem (by omega)⟩
    obtain ⟨x, hx⟩ := hx
    have h1 := hel n hn
    rw [hx] at h1
    have h2 : x.1 = rowD (jD.getD n rowN) := by
      have h3 : (xs.map (·.1))[n]? = some x.1 := by rw [List.getElem?_map, hx]; rfl
      rw [hxs, List.getElem?_map] at h3
      have h4 : jD[n]? = some (jD.getD n rowN) := by
        rw [List.getD_eq_getElem?_getD, List.getElem?_eq_getElem (show n < jD.length from hn)]; rfl
      rw [h4] at h3
      exact (Option.some.inj h3).symm
    have hpos : 0 < (jD.getD n rowN).2.length := by
      have : ((List.range 10).all fun n => decide (0 < (jD.getD n rowN).2.length)) = true := by kernel_rfl
      exact of_decide_eq_true (List.all_eq_true.1 this n (List.mem_range.2 hn))
    exact row_cells (pl := x.2) hpos (h1.trans (by rw [← h2]))
  have hrow2 : ∀ n, ∃ t : Nat × Nat × Nat, n < 10 → (cs.toList.drop (n * 4)).take 4 = flat (jD.getD n rowN).1 ++ [.slice (some ⟨t.1, t.2.1, none⟩) (jD.getD n rowN).2.length t.2.2] ∧
      ∀ i, i < (jD.getD n rowN).2.length → W.cell? ⟨t.1, t.2.1 + i, none⟩ = some (.int .i64 ((jD.getD n rowN).2.getD i 0)) := fun n => by
    by_cases hn : n < 10
    · obtain ⟨t, ht⟩ := hrow n hn
      exact ⟨t, fun _ => ht⟩
    · exact ⟨(0, 0, 0), fun h => absurd h hn⟩
  obtain ⟨f, hf⟩ := Classical.axiomOfChoice hrow2
  let J : Rm.Js := ⟨fun n => (f n).1, fun n => (f n).2.1, fun n => (f n).2.2⟩
  have hcs : cs.toList = (List.range' 0 10).flatMap fun n => flat (jD.getD n rowN).1 ++ [J.sl n (jD.getD n rowN).2.length] :=
    rows_flat (s := 4) _ 10 cs.toList 0 (by simpa using hlen) (fun n hn => by rw [(hf n hn).1, Nat.zero_add]; rfl)
  have hJ : cs.toList = Rm.jumpsL J := hcs.trans (by kernel_rfl)
  refine ⟨J, fun a v ha => ?_, (hf 0 (by omega)).2 0 (by decide), (hf 0 (by omega)).2 1 (by decide)⟩
  obtain ⟨ab, ao, asp⟩ := a
  unfold Rm.litA at ha
  cases asp with
  | some s => cases ha
  | none =>
    simp only at ha
    split at ha
    · rename_i hb
      obtain rfl := Nat.eq_of_beq_eq_true hb
      exact hk ao v (by rw [flatKinds]; exact ha)
    · split at ha
      · rename_i hb
        obtain rfl := Nat.eq_of_beq_eq_true hb
        have := World.var?_cell gJumps hvar ao
        rw [this, ← Array.getElem?_toList, hJ]
        exact ha
      · cases ha
end Go.Proofs.YtpophgfjdlkgiaaGreatDoor
