/- 'OpcodeAll' answers true, wherever it is told to stop. -/
import Derived.Test.YtmjmcjfedpchbaaAllS
import Derived.Test.YtmjmcjfedpchbaaOf
namespace Go.Proofs.Ytmjmcjfedpchbaa
open Go Go.RowKit Go.Shelf Go.Proofs
attribute [local go_sem] Oper.semAt_some
set_option maxRecDepth 100000

def ofSpecP : Rk.Spec := fun f args => match f, args with
  | 7, ⟨[.int .u8 x]⟩ => if 0 ≤ x ∧ x < 256 then some (ofV x) else none
  | _, _ => none
theorem ofSpecP_good (kn : Rk.Kn) : Rk.SGood Try.prog kn ofSpecP := by
  intro f args v h w _
  unfold ofSpecP at h
  split at h
  · split at h
    · rename_i hx; cases h; exact of_calls _ hx.1 hx.2 w
    · cases h
  · cases h
theorem awakeP_run : Rk.fn Try.prog okf Rk.noKn (Rk.ofSpec ofSpecP) 60 1 6 #[] [] True = some (.bool true, [], True) := by kernel_rfl
theorem awakeP_calls (w : World) : Calls Try.prog 6 #[] w fun e w' => e = .returned (.bool true) ∧ Below w.heap.size w w' :=
  Rk.calls_fn mixed okf_ok (ofSpecP_good Rk.noKn) awakeP_run w (Rk.noKn_knows w)

theorem ofV_all : ((List.range 256).all fun b => !isOp b || (match ofV (Int.ofNat b) with
    | .tuple ⟨[.agg ⟨[.string ⟨⟨s⟩⟩, .int .i64 m, .int .i64 k]⟩, .int .i64 e]⟩ => s == opName (b : Int) && m == opMode (b : Int) && k == opKind (b : Int) && e == 0
    | _ => false)) = true := by decide +kernel
theorem ofS_calls (x : EntS) (w : World) : Calls Try.prog 7 #[.int .u8 (x.1 : Int)] w fun e w' => e = .returned (.tuple #[rowV x.1, .int .i64 0]) ∧ Below w.heap.size w w' := by
  refine (of_calls (x.1 : Int) (by omega) (by have := x.2.1; omega) w).mono fun e w' h => ?_
  have hx := List.all_eq_true.1 ofV_all x.1 (List.mem_range.2 x.2.1)
  rw [x.2.2] at hx
  simp only [Bool.not_true, Bool.false_or] at hx
  refine ⟨h.1.trans ?_, h.2⟩
  have e1 : (Int.ofNat x.1) = (x.1 : Int) := rfl
  rw [e1] at hx
  split at hx
  · rename_i s m k e2 h2
    simp only [Bool.and_eq_true, beq_iff_eq] at hx
    rw [h2, hx.1.1.1, hx.1.1.2, hx.1.2, hx.2]
  · cases hx

def lastOf (pre : List EntS) : Int := match pre.getLast? with
  | some x => (x.1 : Int)
  | none => -1
theorem lastOf_snoc (pre : List EntS) (x : EntS) : lastOf (pre ++ [x]) = (x.1 : Int) := by unfold lastOf; simp
theorem lastOf_upto : ∀ k : Nat, lastOf (uptoS k) < (k : Int)
  | 0 => by simp [uptoS, lastOf]
  | k + 1 => by
    have := lastOf_upto k
    unfold uptoS
    split
    · rw [lastOf_snoc]; simp; omega
    · omega
theorem uptoS_same : ∀ k : Nat, k ≤ 256 → (uptoS k).length = (upto k).length
  | 0, _ => rfl
  | k + 1, hk => by
    have ih := uptoS_same k (by omega)
    unfold uptoS
    split
    · rename_i h; rw [upto_hit k h.2, List.length_append, List.length_append, ih]; rfl
    · rename_i h
      have hm : isOp k = false := by
        cases e : isOp k with
        | false => rfl
        | true => exact absurd ⟨by omega, e⟩ h
      rw [upto_miss k hm, ih]
theorem uptoS_151 : (uptoS 256).length = 151 := by
  rw [uptoS_same 256 (Nat.le_refl _)]
  decide +kernel

theorem Boxed.below {W W2 : World} {B : Nat} {t : TypeId} {v : Value} (h : Boxed W B t v) (hb : Below W.heap.size W W2) : Boxed W2 B t v := (hb.block _ h.lt).trans h
theorem keeps_of_below {W W2 : World} (h : Below W.heap.size W W2) : KeepsOthers W W2 := ⟨h.size, fun k _ hk _ => (h.block k (Array.getElem?_eq_some_iff.1 hk).1).trans hk⟩

theorem cells3 {W : World} {B : Nat} {t : TypeId} {a b c : Value} (h : W.heap[B]? = some (.cells #[a, b, c] t (0, 0))) : W.cell? ⟨B, 0, none⟩ = some a ∧ W.cell? ⟨B, 1, none⟩ = some b ∧ W.cell? ⟨B, 2, none⟩ = some c := by
  refine ⟨?_, ?_, ?_⟩ <;> simp [World.cell?, h]

/-- What a round that stops the iterator has seen: it stood where it was told to stop, or a byte that did not rise. -/
def badAt (pre : List EntS) : Prop := ∃ q x, pre = q ++ [x] ∧ (x.1 : Int) ≤ lastOf q

set_option maxHeartbeats 4000000 in
theorem oall_calls (stop : Int) (w : World) : Calls Try.prog 3 #[.int .i64 stop] w fun e w' => e = .returned (.bool true) ∧ Below w.heap.size w w' := by
  refine (callsIn_wide (n := 5)).1 ?_
  refine callsIn_of_wp_marks Try.func3 rfl trivial ?_ rfl
  simp only [Try.ntmps3, List.size_toArray, List.length_cons, List.length_nil, Nat.reduceAdd, Nat.reduceSub, Array.replicate_succ, Array.replicate_zero, List.push_toArray, List.append_toArray, List.nil_append, List.cons_append]
  have hnil : ∀ W : World, Sem.run Try.prog (binOp BinOp.eql 23 (Value.func (Fn.func 13) #[] #[]) Value.nilFunc) W = .ok (.bool false) W := fun W => by kernel_rfl
  gi_wp2_with (refine ⟨trivial, ?_⟩; gi_at_call 5; refine (callsIn_wide.2 (all_calls _)).mono ?_; rintro e w' ⟨rfl, hw'⟩)
  have b0 : Boxed w' w.heap.size 3 (.int .i64 stop) := (hw'.block _ (by simp; omega)).trans ((Boxed.new w _ _).alloc _)
  have b1 : Boxed w' (w.heap.size + 1) 4 (.bool false) := (hw'.block _ (by simp)).trans (by have h := Boxed.new (w.alloc (.cells #[.int .i64 stop] 3)) 4 (.bool false); simp only [World.size_alloc] at h; exact h)
  have hB1 : Below w.heap.size w w' := (((Below.refl _ w).alloc (Nat.le_refl _) _).alloc (by simp) _).trans (hw'.mono (by simp; omega))
  have hsz1 : w.heap.size + 2 ≤ w'.heap.size := by have := hw'.size; simp at this; omega
  clear hw'
  gi_wp2
  have c0 := (b0.alloc (.cells #[.int .i64 (-1)] 3)).alloc (.cells #[.int .i64 0] 3)
  have c1 := (b1.alloc (.cells #[.int .i64 (-1)] 3)).alloc (.cells #[.int .i64 0] 3)
  have cL := (Boxed.new w' 3 (.int .i64 (-1))).alloc (.cells #[.int .i64 0] 3)
  have cN := Boxed.new (w'.alloc (.cells #[.int .i64 (-1)] 3)) 3 (.int .i64 0)
  simp only [World.size_alloc] at cN
  have hB0 := (hB1.alloc (by omega) (.cells #[.int .i64 (-1)] 3)).alloc (by simp; omega) (.cells #[.int .i64 0] 3)
  have hsz : ((w'.alloc (.cells #[.int .i64 (-1)] 3)).alloc (.cells #[.int .i64 0] 3)).heap.size = w'.heap.size + 2 := by simp
  obtain ⟨W0, hW0⟩ : ∃ W0, (w'.alloc (.cells #[.int .i64 (-1)] 3)).alloc (.cells #[.int .i64 0] 3) = W0 := ⟨_, rfl⟩
  rw [hW0] at c0 c1 cL cN hB0 hsz ⊢
  obtain ⟨L, hL⟩ : ∃ L, w'.heap.size = L := ⟨_, rfl⟩
  rw [hL] at hsz hsz1 cL cN ⊢
  clear hW0 hL b0 b1 hB1
  refine wpIn_rangeFunc_ownH rfl (by decide) (gf := 13) (lb := #[]) rfl trivial (enters_of Try.func13 (by kernel_rfl) rfl)
    (allS_stops 4 (by decide) w.heap.size W0) belowK_t (belowK_b hB0.size) (Below.refl _ _) (fun _ => rfl)
    (fun pre W => ((((¬ (0 ≤ stop ∧ stop < (pre.length : Int)) ∧ Boxed W w.heap.size 3 (.int .i64 stop)) ∧ Boxed W (w.heap.size + 1) 4 (.bool false)) ∧ Boxed W L 3 (.int .i64 (lastOf pre))) ∧ Boxed W (L + 1) 3 (.int .i64 (pre.length : Int))) ∧ Below w.heap.size w W)
    (fun c pre W => (c = .ret ∧ ∃ v : Bool, (v = true ∨ badAt pre) ∧ Boxed W (w.heap.size + 1) 4 (.bool v)) ∧ Below w.heap.size w W)
    (OwnFrom.and (Own.from (fun s A B row hs hg hr => ⟨⟨⟨⟨hs.1.1.1.1, boxed_own _ _ (fun (_ : Unit) => _) () A B row hs.1.1.1.2 hg hr⟩, boxed_own _ _ (fun (_ : Unit) => _) () A B row hs.1.1.2 hg hr⟩, boxed_own _ _ (fun (_ : Unit) => _) () A B row hs.1.2 hg hr⟩, boxed_own _ _ (fun (_ : Unit) => _) () A B row hs.2 hg hr⟩) _) (ownFrom_below (Nat.le_refl _) hB0.size))
    (fun c => OwnFrom.and (Own.from (fun s A B row hs hg hr => by obtain ⟨h1, v, h2, h3⟩ := hs; exact ⟨h1, v, h2, boxed_own _ _ (fun (_ : Unit) => _) () A B row h3 hg hr⟩) _) (ownFrom_below (Nat.le_refl _) hB0.size))
    ⟨⟨⟨⟨⟨by simp, c0⟩, c1⟩, cL⟩, cN⟩, hB0⟩
    (fun x a' W => ∃ Bx, L + 1 < Bx ∧ W.heap[Bx]? = some (.cells #[.string ⟨⟨opName (x.1 : Int)⟩⟩, .int .i64 (opMode (x.1 : Int)), .int .i64 (opKind (x.1 : Int))] 26 (0, 0)) ∧ a' = { tmps := #[.int .i64 stop, .pointer (some ⟨w.heap.size, 0, none⟩), .pointer (some ⟨w.heap.size + 1, 0, none⟩), .func (.func 13) #[] #[], .pointer (some ⟨L, 0, none⟩), .pointer (some ⟨L + 1, 0, none⟩), .int .u8 (x.1 : Int), .pointer (some ⟨Bx, 0, none⟩), undef, undef, .func (.func 13) #[] #[], .func (.func 13) #[] #[], .bool false, .func (.func 13) #[] #[], .int .u8 (x.1 : Int), rowV x.1, undef, undef, undef, undef, undef, undef, undef, undef, undef, undef, undef, undef, undef, undef, undef, undef, undef, undef, undef, undef, undef, undef, undef, undef, undef, undef, undef, undef, undef, undef, undef, undef, undef, undef, undef, undef, undef, undef, undef], defers := [] })
    (fun x a' _ X Y row hs hg hr => by
      obtain ⟨Bx, h1, h2, h3⟩ := hs
      refine ⟨Bx, h1, (hg.block Bx (Array.getElem?_eq_some_iff.1 h2).1 (fun e => ?_)).trans h2, h3⟩
      obtain ⟨_, o, ho, hc⟩ := hr Bx e.symm
      rw [h2] at ho; cases ho; cases hc)
    ?assign ?body ?done ?stop
  case assign =>
    rintro l pre x W K ⟨⟨⟨⟨⟨hp, c0⟩, c1⟩, cL⟩, cN⟩, hB⟩ hK
    gi_wp2
    exact hK _ _ ((KeepsOthers.alloc _ _).from _) ((Below.refl _ W).alloc hB.size _) ⟨⟨⟨⟨⟨hp, c0.alloc _⟩, c1.alloc _⟩, cL.alloc _⟩, cN.alloc _⟩, hB.alloc hB.size _⟩ ⟨W.heap.size, cN.lt, World.alloc_heap_new W _, rfl⟩
  case body =>
    rintro l pre x a' W hl ⟨r, hr⟩ ⟨⟨⟨⟨⟨hp, c0⟩, c1⟩, cL⟩, cN⟩, hB⟩ ⟨Bx, hBx, hX, rfl⟩ hlt
    have k0 := c0.cell
    have k1 := c1.cell
    have kL := cL.cell
    have kN := cN.cell
    have f1 := c1.frozen
    have fL := cL.frozen
    have fN := cN.frozen
    have h1' : 1 ≤ 3 := by decide
    by_cases hs : (pre.length : Int) = stop
    · have hd : ((pre.length : Int) == stop) = true := beq_iff_eq.2 hs
      gi_wp2_with (refine ⟨trivial, ?_⟩; gi_at_call 6; refine (CallsIn.inRound l (callsIn_wide.2 (awakeP_calls _))).mono ?_; rintro e w2 ⟨rfl, hw2⟩; have q1 := (Boxed.below c1 hw2).cell; have g1 := (Boxed.below c1 hw2).frozen)
      exact ⟨((keeps_of_below hw2).trans (KeepsOthers.setCell _ _ _)).from _, ⟨rfl, true, .inl rfl, (Boxed.below c1 hw2).set _⟩, (hB.trans (hw2.mono hB.size)).setCell (p := ⟨w.heap.size + 1, 0, none⟩) (by simp) _⟩
    · have hd : ((pre.length : Int) == stop) = false := beq_eq_false_iff_ne.2 hs
      have hXl := (Array.getElem?_eq_some_iff.1 hX).1
      have ofx := fun W => ofS_calls x W
      obtain ⟨o, ho⟩ : ∃ o : Obj, o = .cells #[.string ⟨⟨opName (x.1 : Int)⟩⟩, .int .i64 (opMode (x.1 : Int)), .int .i64 (opKind (x.1 : Int))] 26 (0, 0) := ⟨_, rfl⟩
      have facts : ∀ w2, Below W.heap.size W w2 → Boxed (w2.alloc o) (w.heap.size + 1) 4 (.bool false) ∧ Boxed (w2.alloc o) L 3 (.int .i64 (lastOf pre)) ∧ Boxed (w2.alloc o) (L + 1) 3 (.int .i64 (pre.length : Int)) ∧ (w2.alloc o).heap[Bx]? = some o := fun w2 hw2 =>
        ⟨(Boxed.below c1 hw2).alloc o, (Boxed.below cL hw2).alloc o, (Boxed.below cN hw2).alloc o, by
          rw [Below.heap_alloc w2 o Bx (Nat.lt_of_lt_of_le hXl hw2.size), hw2.block _ hXl, hX, ho]⟩
      rw [ho] at facts
      by_cases hle : (x.1 : Int) ≤ lastOf pre
      · have hd2 : decide ((x.1 : Int) ≤ lastOf pre) = true := decide_eq_true hle
        gi_wp2_with (refine ⟨trivial, ?_⟩; gi_at_call 7; refine (CallsIn.inRound l (callsIn_wide.2 (ofx _))).mono ?_; rintro e w2 ⟨rfl, hw2⟩; obtain ⟨d1, dL, dN, dX⟩ := facts w2 hw2; have q1 := d1.cell; have g1 := d1.frozen; have qL := dL.cell)
        exact ⟨(((keeps_of_below hw2).trans (KeepsOthers.alloc _ _)).trans (KeepsOthers.setCell _ _ _)).from _, ⟨rfl, false, .inr ⟨pre, x, rfl, hle⟩, d1.set _⟩, ((hB.trans (hw2.mono hB.size)).alloc (Nat.le_trans hB.size hw2.size) _).setCell (p := ⟨w.heap.size + 1, 0, none⟩) (by simp) _⟩
      · have hd2 : decide ((x.1 : Int) ≤ lastOf pre) = false := decide_eq_false hle
        have hd3 : lastOf pre < (x.1 : Int) := by omega
        gi_wp2_with (refine ⟨trivial, ?_⟩; gi_at_call 7; refine (CallsIn.inRound l (callsIn_wide.2 (ofx _))).mono ?_; rintro e w2 ⟨rfl, hw2⟩; obtain ⟨d1, dL, dN, dX⟩ := facts w2 hw2; have q1 := d1.cell; have g1 := d1.frozen; have qL := dL.cell; have gL := dL.frozen; have qN := dN.cell; have gN := dN.frozen; obtain ⟨x0, x1, x2⟩ := cells3 dX)
        have d0 := (Boxed.below c0 hw2).alloc (.cells #[.string ⟨⟨opName (x.1 : Int)⟩⟩, .int .i64 (opMode (x.1 : Int)), .int .i64 (opKind (x.1 : Int))] 26)
        have hb2 := ((Below.refl w.heap.size W).trans (hw2.mono hB.size)).alloc (Nat.le_trans hB.size hw2.size) (.cells #[.string ⟨⟨opName (x.1 : Int)⟩⟩, .int .i64 (opMode (x.1 : Int)), .int .i64 (opKind (x.1 : Int))] 26)
        have hb3 := (hb2.setCell (p := ⟨L, 0, none⟩) (by simp; omega) (.int .i64 (x.1 : Int))).setCell (p := ⟨L + 1, 0, none⟩) (by simp; omega) (.int .i64 ((pre.length : Int) + 1))
        refine ⟨((((keeps_of_below hw2).trans (KeepsOthers.alloc _ _)).trans (KeepsOthers.setCell _ _ _)).trans (KeepsOthers.setCell _ _ _)).from _, hb3, ⟨⟨⟨⟨?_, (d0.other (by omega) _).other (by omega) _⟩, (d1.other (by omega) _).other (by omega) _⟩, ?_⟩, ?_⟩, hB.trans hb3⟩
        · rw [List.length_append]; simp; omega
        · rw [lastOf_snoc]; exact (dL.set _).other (by omega) _
        · rw [List.length_append]; exact (dN.other (by omega) _).set _
  case done =>
    rintro D zs W hD rfl ⟨⟨⟨⟨⟨hp, c0⟩, c1⟩, cL⟩, cN⟩, hB⟩ hK
    rw [uptoS_151] at hp cN
    have k0 := c0.cell
    have k1 := c1.cell
    have kN := cN.cell
    have f1 := c1.frozen
    have h1' : 1 ≤ 5 := by decide
    have fin : ∀ (w2 : World) (t0 t1 : Value) (ts : List Value), Below W.heap.size W w2 → bodyPostM Fence.wide 5 Try.prog Try.f3 (fun e w' => e = Ending.returned (Value.bool true) ∧ Below w.heap.size w w') Exit.ret { tmps := (t0 :: t1 :: .pointer (some ⟨w.heap.size + 1, 0, none⟩) :: ts).toArray, defers := [{ target := Target.collected D, args := #[] }] } (w2.setCell ⟨w.heap.size + 1, 0, none⟩ (.bool true)) := fun w2 t0 t1 ts hw2 => by
      have hK2 := ((keeps_of_below hw2).trans (KeepsOthers.setCell _ ⟨w.heap.size + 1, 0, none⟩ (.bool true))).same D _ hK rfl
      refine ⟨by simp, .inl ⟨_, _, rfl, run_takeDeferred hK2, ?_⟩⟩
      have q1 := cell_kept ((Boxed.below c1 hw2).set (.bool true)).cell (grownBy_putObj' _ D (.deferred none)) (fun r e => by cases e; exact ⟨_, hK2, rfl⟩)
      refine ⟨.bool true, ?_, rfl, ((hB.trans (hw2.mono hB.size)).setCell (p := ⟨w.heap.size + 1, 0, none⟩) (by simp) _).trans (belowK_b (w := w) (Nat.le_refl _) _ D _ _ (by omega) hK2 rfl rfl)⟩
      simp [results, Try.f3, go_sem, q1]
    by_cases hs : stop < 0
    · have hd : decide (stop < 0) = true := decide_eq_true hs
      gi_wp2_with (refine ⟨trivial, ?_⟩; gi_at_call 6; refine (callsIn_wide.2 (awakeP_calls _)).mono ?_; rintro e w2 ⟨rfl, hw2⟩; have q1 := (Boxed.below c1 hw2).cell; have g1 := (Boxed.below c1 hw2).frozen)
      exact fin w2 _ _ _ hw2
    · have hd : decide (stop < 0) = false := decide_eq_false hs
      have hd2 : decide (stop ≥ 151) = true := decide_eq_true (by simp at hp; omega)
      have hd3 : decide (151 ≤ stop) = true := decide_eq_true (by simp at hp; omega)
      gi_wp2_with (refine ⟨trivial, ?_⟩; gi_at_call 6; refine (callsIn_wide.2 (awakeP_calls _)).mono ?_; rintro e w2 ⟨rfl, hw2⟩; have q1 := (Boxed.below c1 hw2).cell; have g1 := (Boxed.below c1 hw2).frozen)
      exact fin w2 _ _ _ hw2
  case stop =>
    rintro D c pre W hD ⟨k, hk, rfl⟩ ⟨⟨rfl, v, hv, c1⟩, hB⟩ hK
    have hvt : v = true := by
      rcases hv with h | ⟨q, x, hq, hx⟩
      · exact h
      · exfalso
        obtain ⟨h1, h2⟩ := List.append_inj' hq rfl
        have hxk : x = ⟨k, hk⟩ := by simpa using h2.symm
        have hlt := lastOf_upto k
        rw [h1] at hlt
        rw [hxk] at hx
        exact absurd hx (by simp; omega)
    subst hvt
    gi_wp2
    refine ⟨by simp, .inl ⟨_, _, rfl, run_takeDeferred hK, ?_⟩⟩
    have q1 := cell_kept c1.cell (grownBy_putObj' _ D (.deferred none)) (fun r e => by cases e; exact ⟨_, hK, rfl⟩)
    refine ⟨.bool true, ?_, rfl, hB.trans (belowK_b (w := w) (Nat.le_refl _) W D _ _ (by omega) hK rfl rfl)⟩
    simp [results, Try.f3, go_sem, q1]
end Go.Proofs.Ytmjmcjfedpchbaa
