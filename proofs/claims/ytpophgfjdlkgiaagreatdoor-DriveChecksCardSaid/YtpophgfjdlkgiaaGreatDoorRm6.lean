/- A reckoner with memory, part 6: slices of one's own, what is appended, calls. -/
import Derived.Test.YtpophgfjdlkgiaaGreatDoorRm5
namespace Go.Proofs.YtpophgfjdlkgiaaGreatDoor
namespace Rm
open Go Go.RowKit
open Rk (Orc tst tst_ok Kn run run_ok szOf isAg run_isAgg run_sizeOf)

section
variable {P : Program} {B : Nat} {kn : Kn}
theorem run_hi {e ev : Operand → Value} {ρ : Env} {hi mx : Option Operand} {n m h : Nat} (h0 : bnd2 e hi n m = some h) (hc : (mx.isNone || hi.isSome) = true) (hev : ∀ z, hi = some z → ev z = conc ρ (e z)) (w : World) :
    (match hi.map ev, mx.map ev with | some v, some _ => Instr.sliceBound v m .slice3B | some v, none => Instr.sliceBound v m .sliceAcap | none, none => pure n | none, some _ => stuck "Slice: max without high").run P w = .ok h w := by
  rcases bnd2_ok h0 with ⟨rfl, rfl⟩ | ⟨z, k, j, rfl, hz, g0, g1, rfl⟩
  · cases mx with
    | none => rfl
    | some _ => cases hc
  · simp only [Option.map_some, hev z rfl, hz, conc_int]
    cases mx with
    | none => exact Rk.run_sliceBound_ok g0 g1 w
    | some _ => exact Rk.run_sliceBound_ok g0 g1 w
theorem run_lo {e ev : Operand → Value} {ρ : Env} {lo : Option Operand} {h l : Nat} (h0 : bnd2 e lo 0 h = some l) (hev : ∀ z, lo = some z → ev z = conc ρ (e z)) (c : Bool) (w : World) :
    (match lo.map ev with | some v => Instr.sliceBound v h (if c = true then .slice3C else .sliceB) | none => pure 0).run P w = .ok l w := by
  rcases bnd2_ok h0 with ⟨rfl, rfl⟩ | ⟨z, k, j, rfl, hz, g0, g1, rfl⟩
  · rfl
  · simp only [Option.map_some, hev z rfl, hz, conc_int]
    exact Rk.run_sliceBound_ok g0 g1 w
theorem run_mx {e ev : Operand → Value} {ρ : Env} {mx : Option Operand} {d y c m : Nat} (h0 : bnd2 e mx d y = some m) (hy : y ≤ c) (hd : mx = none → d = c) (hev : ∀ z, mx = some z → ev z = conc ρ (e z)) (w : World) :
    (match mx.map ev with | some v => Instr.sliceBound v c .slice3Acap | none => pure c).run P w = .ok m w := by
  rcases bnd2_ok h0 with ⟨rfl, rfl⟩ | ⟨z, k, j, rfl, hz, g0, g1, rfl⟩
  · rw [hd rfl]; rfl
  · simp only [Option.map_some, hev z rfl, hz, conc_int]
    exact Rk.run_sliceBound_ok g0 (by omega) w

theorem opSl_ok {S : TypeId} {x : Operand} {lo hi mx : Option Operand} {o : Oper} {e : Operand → Value} {H : Heap} {nx : Nat} {q : Orc} {ob : Prop} {r : Res} (ho : o.op = .slice S x lo hi mx) (h : opSl P S (e x) lo hi mx e H nx q ob = some r) : MOk P B kn o e H nx ob r := by
  have hox : x ∈ o.op.operands.toList := by simp [ho, Op.operands]
  have hlo : ∀ z, lo = some z → z ∈ o.op.operands.toList := fun z hz => by subst hz; simp [ho, Op.operands]
  have hhi : ∀ z, hi = some z → z ∈ o.op.operands.toList := fun z hz => by subst hz; simp [ho, Op.operands]
  have hmx : ∀ z, mx = some z → z ∈ o.op.operands.toList := fun z hz => by subst hz; simp [ho, Op.operands]
  have hex : ∀ (el : TypeId), P.underlying S = some (.slice el) → ∀ (ev : Operand → Value) (w : World) (b off n c : Nat) (v : Value), ev x = .slice (some ⟨b, off, none⟩) n c → (Instr.slice S (.slice (some ⟨b, off, none⟩) n c) (lo.map ev) (hi.map ev) (mx.map ev)).run P w = .ok v w → (execOp ev o).run P w = .ok (.value v) w := fun el hu ev w b off n c v h1 h2 => by
    rw [execOp, ho]
    simp only [Sem.run_bind, h1, Instr.sliceAt, underlying, run_program, Result.andThen_ok, hu, Sem.run_pure, h2]
  unfold opSl at h
  split at h
  · rename_i mx' el k off n c hu hx
    split at h
    · rename_i sz m hs hm0
      split at h
      · rename_i hh hh0
        split at h
        · rename_i l hl0
          split at h
          · rename_i hc
            cases h
            refine MOk.val id fun _ ρ w hR _ hsc => ⟨?_, fun a ha => ?_⟩
            · have := hsc x hox; rw [hx] at this; exact this
            · rw [conc_slc]
              refine hex _ hu a.eval w (ρ k).b off n c _ (by rw [ha x hox, hx, conc_slc]) ?_
              exact run_slice_own hu hs (run_mx hm0 (Nat.le_refl _) (fun _ => rfl) (fun z hz => ha z (hmx z hz)) w) (run_hi hh0 hc (fun z hz => ha z (hhi z hz)) w) (run_lo hl0 (fun z hz => ha z (hlo z hz)) _ w)
          · cases h
        · cases h
      · cases h
    · cases h
  · rename_i el k off n c mo hu hx
    split at h
    · rename_i cs ty sz sz' hk hs
      split at h
      · rename_i hroom
        split at h
        · rename_i m hm0
          split at h
          · rename_i hh hh0
            split at h
            · rename_i l hl0
              split at h
              · rename_i hc
                cases h
                refine MOk.val id fun _ ρ w hR _ hsc => ⟨?_, fun a ha => ?_⟩
                · have := hsc x hox; rw [hx] at this; exact this
                · obtain ⟨g1, ⟨rest, cnt, g2, g5, g6, g7, g8⟩, g3, g4⟩ := hR.mem k _ hk
                  have hcn : n + c ≤ cnt := Nat.le_of_mul_le_mul_right (by rw [← g6]; exact hroom.1) hroom.2
                  rw [conc_slc]
                  refine hex _ hu a.eval w (ρ k).b off n ((ρ k).cap - c) _ (by rw [ha x hox, hx, conc_slr]) ?_
                  exact run_slice_own hu hs (run_mx hm0 (by omega) (fun q => by cases q) (fun z hz => ha z (hmx z hz)) w) (run_hi hh0 (by simp [hc]) (fun z hz => ha z (hhi z hz)) w) (run_lo hl0 (fun z hz => ha z (hlo z hz)) _ w)
              · cases h
            · cases h
          · cases h
        · cases h
      · cases h
    · cases h
  · cases h
end

/-- A call of a function value. -/
def opCl (okf : FuncId → Bool) (call : Call) (f : Value) (args : List Value) (H : Heap) (nx : Nat) (q : Orc) (ob : Prop) : Option Res :=
  match f with
  | .func (.func g) ⟨xs⟩ ⟨ys⟩ => if okf g = true then call g (xs ++ args ++ ys) H nx q ob else none
  | _ => none

section
variable {P : Program} {B : Nat} {kn : Kn}
theorem scL_app {n : Nat} {a b : List Value} (h1 : scL n a) (h2 : scL n b) : scL n (a ++ b) := by
  refine (scL_all n _).2 fun v hv => ?_
  rcases List.mem_append.1 hv with hv | hv
  · exact (scL_all n _).1 h1 v hv
  · exact (scL_all n _).1 h2 v hv

theorem opCl_ok {okf : FuncId → Bool} {call : Call} (hg : Good P B kn call) (hf : Rk.OkF P okf) {c : Go.Call} {f : Operand} {o : Oper} {e : Operand → Value} {H : Heap} {nx : Nat} {q : Orc} {ob : Prop} {r : Res} (ho : o.op = .call c) (hc : c.callee = .value f)
    (h : opCl okf call (e f) (c.args.toList.map e) H nx q ob = some r) : MOk P B kn o e H nx ob r := by
  have hof : f ∈ o.op.operands.toList := by simp [ho, Op.operands, Call.operands, hc]
  have hoa : ∀ x ∈ c.args.toList, x ∈ o.op.operands.toList := fun x hx => by simp [ho, Op.operands, Call.operands, hc]; exact .inr (by simpa using hx)
  unfold opCl at h
  split at h
  · rename_i g xs ys hfe
    split at h
    · rename_i hok
      obtain ⟨h1, h2, h3⟩ := hg g _ H nx q ob r h
      refine ⟨h1, h2, fun x ρ w hR hk hsc a ha K Q hK => ?_⟩
      obtain ⟨fn, n1, n2, n3⟩ := hf g hok
      have hfs := hsc f hof
      rw [hfe] at hfs
      have hargs : scL nx (xs ++ c.args.toList.map e ++ ys) := scL_app (scL_app hfs.1 ((scL_all nx _).2 fun v hv => by
        obtain ⟨y, hy, rfl⟩ := List.mem_map.1 hv
        exact hsc y (hoa y hy))) hfs.2
      have hcall := h3 x ρ w hR hk hargs
      have hrun : (execOp a.eval o).run P w = .ok (.enter g ⟨concL ρ (xs ++ c.args.toList.map e ++ ys)⟩) w := by
        have e1 : (⟨concL ρ xs⟩ : Array Value) ++ c.args.map a.eval ++ ⟨concL ρ ys⟩ = ⟨concL ρ (xs ++ c.args.toList.map e ++ ys)⟩ := by
          apply Array.ext'
          simp only [Array.toList_append, Array.toList_map, concL_map, List.map_append, List.map_map]
          congr 2
          exact List.map_congr_left fun y hy => ha y (hoa y hy)
        rw [execOp, ho]
        simp only [resolve, hc, ha f hof, hfe, conc_fun, Deferred.ofValue, Sem.run_bind, Sem.run_pure, Result.andThen_ok, invoke, callFunc, run_program, n1, n2, n3, e1]
        simp
      unfold Oper.wp
      rw [hrun]
      refine Calls.mono hcall ?_
      rintro e2 w' ⟨ρ', rfl, g1, g2, g3⟩
      exact hK ρ' w' g2 g3 g1
    · cases h
  · cases h
end

/-- Cells that are known from the start, one behind the other. -/
def knRow (kn : Kn) (b o : Nat) : Nat → Nat → Prop → Option (List Value × Prop)
  | 0, _, ob => some ([], ob)
  | n + 1, j, ob => match kn ⟨b, o + j, none⟩ with
    | some (v, none) => match knRow kn b o n (j + 1) ob with
      | some (l, ob1) => some (v :: l, ob1)
      | none => none
    | some (v, some p) => match knRow kn b o n (j + 1) ob with
      | some (l, ob1) => some (v :: l, p ∧ ob1)
      | none => none
    | none => none
theorem knRow_ok {kn : Kn} {b o : Nat} : ∀ {n j : Nat} {ob ob' : Prop} {l : List Value}, knRow kn b o n j ob = some (l, ob') → (ob' → ob) ∧ l.length = n ∧ (ob' → ∀ B w, KnB B kn w → ∀ i u, l[i]? = some u → w.cell? ⟨b, o + (j + i), none⟩ = some u)
  | 0, j, ob, ob', l, h => by
    simp only [knRow, Option.some.injEq, Prod.mk.injEq] at h
    obtain ⟨rfl, rfl⟩ := h
    exact ⟨id, rfl, fun _ _ _ _ i u hu => by simp at hu⟩
  | n + 1, j, ob, ob', l, h => by
    simp only [knRow] at h
    split at h
    · rename_i v hv
      split at h
      · rename_i l' ob1 hr
        simp only [Option.some.injEq, Prod.mk.injEq] at h
        obtain ⟨rfl, rfl⟩ := h
        obtain ⟨h1, h2, h3⟩ := knRow_ok hr
        refine ⟨h1, by simp [h2], fun x B w hk i u hu => ?_⟩
        cases i with
        | zero => simp only [List.getElem?_cons_zero, Option.some.injEq] at hu; subst hu; exact (hk _ _ _ hv (fun p hp => by cases hp)).1
        | succ i => rw [List.getElem?_cons_succ] at hu; rw [show j + (i + 1) = j + 1 + i by omega]; exact h3 x B w hk i u hu
      · cases h
    · rename_i v p hv
      split at h
      · rename_i l' ob1 hr
        simp only [Option.some.injEq, Prod.mk.injEq] at h
        obtain ⟨rfl, rfl⟩ := h
        obtain ⟨h1, h2, h3⟩ := knRow_ok hr
        refine ⟨fun x => h1 x.2, by simp [h2], fun x B w hk i u hu => ?_⟩
        cases i with
        | zero => simp only [List.getElem?_cons_zero, Option.some.injEq] at hu; subst hu; exact (hk _ _ _ hv (fun p' hp => by cases hp; exact x.1)).1
        | succ i => rw [List.getElem?_cons_succ] at hu; rw [show j + (i + 1) = j + 1 + i by omega]; exact h3 x.2 B w hk i u hu
      · cases h
    · cases h

/-- The cells of a slice that is appended, and how many elements it has. -/
def srcOf (kn : Kn) (H : Heap) (v : Value) (sz : Nat) (ob : Prop) : Option (List Value × Nat × Prop) :=
  match v with
  | .slice (some ⟨k, off, some _⟩) m _ => match lk H k with
    | some (.row cs _) => if ((cs.drop off).take (m * sz)).length = m * sz ∧ ((cs.drop off).take (m * sz)).all oneT = true then some ((cs.drop off).take (m * sz), m, ob) else none
    | some (.room cs _ _) => if ((cs.drop off).take (m * sz)).length = m * sz ∧ ((cs.drop off).take (m * sz)).all oneT = true then some ((cs.drop off).take (m * sz), m, ob) else none
    | _ => none
  | .slice (some ⟨b, o, none⟩) m _ => match knRow kn b o (m * sz) 0 ob with
    | some (l, ob1) => if untL l = true ∧ l.all oneT = true then some (l, m, ob1) else none
    | none => none
  | _ => none

section
variable {P : Program} {B : Nat} {kn : Kn}
theorem srcOf_ok {H : Heap} {v : Value} {sz : Nat} {ob ob' : Prop} {l : List Value} {m : Nat} (h : srcOf kn H v sz ob = some (l, m, ob')) :
    (ob' → ob) ∧ l.length = m * sz ∧ l.all oneT = true ∧ (ob' → ∀ ρ nx w, R B ρ H nx w → KnB B kn w → scL nx l ∧ ∃ ad c, conc ρ v = .slice (some ad) m c ∧ ad.spot = none ∧ ∀ j u, (concL ρ l)[j]? = some u → w.cell? (ad.add j) = some u) := by
  have own : ∀ (cs : List Value) (k off tg c : Nat) (m : Nat) (l : List Value), l = (cs.drop off).take (m * sz) → ((cs.drop off).take (m * sz)).length = m * sz → (∀ ρ nx w, R B ρ H nx w → scL nx cs ∧ ∃ ty rest, w.heap[(ρ k).b]? = some (.cells ⟨concL ρ cs ++ rest⟩ ty (0, 0))) →
      ∀ ρ nx w, R B ρ H nx w → KnB B kn w → scL nx l ∧ ∃ ad c', conc ρ (.slice (some ⟨k, off, some tg⟩) m c) = .slice (some ad) m c' ∧ ad.spot = none ∧ ∀ j u, (concL ρ l)[j]? = some u → w.cell? (ad.add j) = some u := by
    intro cs k off tg c m l hl hlen hm ρ nx w hR _
    obtain ⟨g1, ty, rest, g2⟩ := hm ρ nx w hR
    subst hl
    refine ⟨(scL_all nx _).2 fun v hv => (scL_all nx _).1 g1 v (List.mem_of_mem_drop (List.mem_of_mem_take hv)), ⟨(ρ k).b, off, none⟩, if tg = 1 then (ρ k).cap - c else c, by simp only [conc, cS], rfl, fun j u hu => ?_⟩
    rw [Rk.addr_add, cell_at g2]
    rw [concL_map, List.getElem?_map] at hu
    cases hj : ((cs.drop off).take (m * sz))[j]? with
    | none => rw [hj] at hu; cases hu
    | some y =>
      rw [hj] at hu
      cases hu
      rw [List.getElem?_take] at hj
      split at hj
      · rw [List.getElem?_drop] at hj
        have hlt : off + j < cs.length := (List.getElem?_eq_some_iff.1 hj).1
        simp only [List.getElem?_toArray]
        rw [List.getElem?_append_left (by rw [concL_map]; simpa using hlt), concL_map, List.getElem?_map, hj]
        rfl
      · cases hj
  unfold srcOf at h
  split at h
  · rename_i k off tg m' c
    split at h
    · rename_i cs ty hk
      split at h
      · rename_i hc
        simp only [Option.some.injEq, Prod.mk.injEq] at h
        obtain ⟨rfl, rfl, rfl⟩ := h
        exact ⟨id, hc.1, hc.2, fun _ => own cs k off tg c _ _ rfl hc.1 (fun ρ nx w hR => ⟨(hR.mem k _ hk).2.2.1, ty, [], by rw [List.append_nil]; exact (hR.mem k _ hk).2.1⟩)⟩
      · cases h
    · rename_i cs ty sz' hk
      split at h
      · rename_i hc
        simp only [Option.some.injEq, Prod.mk.injEq] at h
        obtain ⟨rfl, rfl, rfl⟩ := h
        exact ⟨id, hc.1, hc.2, fun _ => own cs k off tg c _ _ rfl hc.1 (fun ρ nx w hR => by
          obtain ⟨_, ⟨rest, _, g2, _⟩, g3, _⟩ := hR.mem k _ hk
          exact ⟨g3, ty, rest, g2⟩)⟩
      · cases h
    · cases h
  · rename_i b o2 m' c
    split at h
    · rename_i l' ob1 hr
      split at h
      · rename_i hc
        simp only [Option.some.injEq, Prod.mk.injEq] at h
        obtain ⟨rfl, rfl, rfl⟩ := h
        obtain ⟨h1, h2, h3⟩ := knRow_ok hr
        refine ⟨h1, h2, hc.2, fun x ρ nx w hR hk => ⟨scL_unt _ _ hc.1, ⟨b, o2, none⟩, c, rfl, rfl, fun j u hu => ?_⟩⟩
        rw [concL_unt ρ _ hc.1] at hu
        have := h3 x B w hk j u hu
        rw [Rk.addr_add]
        rwa [Nat.zero_add] at this
      · cases h
    · cases h
  · cases h
end
end Rm
end Go.Proofs.YtpophgfjdlkgiaaGreatDoor
