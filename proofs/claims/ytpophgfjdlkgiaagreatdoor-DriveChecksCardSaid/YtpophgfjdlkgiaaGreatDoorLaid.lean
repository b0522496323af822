/- A package-level variable that reads as plain data holds just these values, cell by cell. -/
import Derived.Test.YtpophgfjdlkgiaaGreatDoorRows
import Derived.Test.YtpophgfjdlkgiaaGreatDoorRk
import Derived.LaidMore
import Derived.OpenShut
import Derived.MakeChecks
import Derived.ProofKit
namespace Go.Proofs.YtpophgfjdlkgiaaGreatDoor
open Go Go.RowKit
mutual
def flat : DataW Unit → List Value
  | .lit (.bool b) => [.bool b]
  | .lit (.int k n) => [.int k n]
  | .lit (.string l) => [.string ⟨⟨l⟩⟩]
  | .agg ds => flatL ds
  | _ => []
def flatL : List (DataW Unit) → List Value
  | [] => []
  | d :: ds => flat d ++ flatL ds
end

/-- The fields of a struct lie one behind the other, each of a plain kind. -/
def segB (P : Program) (lay : TypeId → Bool) (total : Nat) : Nat → List Field → Bool
  | o, [] => o == total
  | o, f :: r => f.offset == o && lay f.type && segB P lay total (o + P.cellsOf f.type) r
def layB (P : Program) : Nat → TypeId → Bool
  | 0, _ => false
  | n + 1, t => match P.underlying t with
    | some .bool => true
    | some (.int _) => true
    | some .string => true
    | some (.struct fs) => segB P (layB P n) (P.cellsOf t) 0 fs.toList
    | some (.array k e) => layB P n e && P.cellsOf t == k * P.cellsOf e
    | _ => false

section
variable {P : Program} {w : World} {base : Nat} {sp : Nat → Bool} {held : Bool}
abbrev tr (P : Program) (w : World) (base : Nat) (sp : Nat → Bool) (held : Bool) := DataW.trod (fun _ => ()) P w base sp held

theorem flat_fields {lay : TypeId → Bool} {fuel : Nat} (ih : ∀ t, lay t = true → ∀ (cs : List Value) (x : DataW Unit × List MemPlace), tr P w base sp held fuel t cs = some x → cs = flat x.1) (cs : List Value) :
    ∀ (fs : List Field) (o : Nat) (xs : List (DataW Unit × List MemPlace)), segB P lay cs.length o fs = true → o ≤ cs.length → xs.length = fs.length →
      (∀ (i : Nat) (f : Field), fs[i]? = some f → tr P w base sp held fuel f.type ((cs.drop f.offset).take (P.cellsOf f.type)) = xs[i]?) → cs.drop o = flatL (xs.map (·.1))
  | [], o, xs, hs, ho, hl, h => by
    simp only [segB, beq_iff_eq] at hs
    have : xs = [] := List.length_eq_zero_iff.1 hl
    subst this
    simp [flatL, hs]
  | f :: r, o, [], hs, ho, hl, h => by simp at hl
  | f :: r, o, x :: ys, hs, ho, hl, h => by
    simp only [segB, Bool.and_eq_true, beq_iff_eq] at hs
    obtain ⟨⟨h1, h2⟩, h3⟩ := hs
    have hle : o + P.cellsOf f.type ≤ cs.length := by
      have : ∀ (r : List Field) (o : Nat), segB P lay cs.length o r = true → o ≤ cs.length := by
        intro r
        induction r with
        | nil => intro o h; simp only [segB, beq_iff_eq] at h; omega
        | cons g r ihr =>
          intro o h
          simp only [segB, Bool.and_eq_true, beq_iff_eq] at h
          have := ihr _ h.2
          omega
      exact this r _ h3
    have e1 := ih _ h2 _ _ ((h 0 f rfl).trans rfl)
    have e2 := flat_fields ih cs r _ ys h3 hle (by simpa using hl) (fun i g hg => h (i + 1) g hg)
    rw [h1] at e1
    simp only [List.map_cons, flatL]
    rw [← e1, ← e2, ← List.drop_drop, List.take_append_drop]

theorem flat_rows {n : Nat} {s : Nat} (cs : List Value) (xs : List (DataW Unit × List MemPlace)) (hl : xs.length = n) (hc : cs.length = n * s)
    (h : ∀ i, i < n → ∀ x, xs[i]? = some x → ((cs.drop (i * s)).take s) = flat x.1) : cs = flatL (xs.map (·.1)) := by
  induction n generalizing cs xs with
  | zero =>
    have : xs = [] := List.length_eq_zero_iff.1 hl
    subst this
    have : cs = [] := List.length_eq_zero_iff.1 (by simpa using hc)
    subst this
    rfl
  | succ n ih =>
    match xs, hl with
    | x :: xs, hl =>
      have h0 := h 0 (by omega) x (by simp)
      simp only [Nat.zero_mul, List.drop_zero] at h0
      have ih' := ih (cs.drop s) xs (by simpa using hl) (by simp [hc, Nat.succ_mul]) (fun i hi y hy => by
        have := h (i + 1) (by omega) y (by simpa using hy)
        rw [← this, List.drop_drop, Nat.succ_mul, Nat.add_comm s])
      simp only [List.map_cons, flatL]
      rw [← h0, ← ih', List.take_append_drop]

theorem flat_of : ∀ (n : Nat) (t : TypeId), layB P n t = true → ∀ (fuel : Nat) (cs : List Value) (x : DataW Unit × List MemPlace), tr P w base sp held fuel t cs = some x → cs = flat x.1
  | 0, t, hl, fuel, cs, x, h => by cases hl
  | n + 1, t, hl, fuel, cs, x, h => by
    unfold layB at hl
    split at hl
    · rename_i hu
      obtain ⟨b, e1, e2⟩ := DataW.trod_bool hu h
      subst e1; subst e2; rfl
    · rename_i k hu
      obtain ⟨b, e1, e2, _⟩ := DataW.trod_int hu h
      subst e1; subst e2; rfl
    · rename_i hu
      obtain ⟨b, e1, e2, _⟩ := DataW.trod_string hu h
      subst e1; subst e2; rfl
    · rename_i fs hu
      obtain ⟨xs, m, e1, e2, e3, e4, e5⟩ := DataW.trod_struct hu h
      subst e2
      rw [← e3] at hl
      have := flat_fields (fun t ht cs x hx => flat_of n t ht m cs x hx) cs fs.toList 0 xs hl (Nat.zero_le _) (by simpa using e4) (fun i f hf => e5 i f (by simpa using hf))
      simpa [flat] using this
    · rename_i k e hu
      simp only [Bool.and_eq_true, beq_iff_eq] at hl
      obtain ⟨xs, m, e1, e2, e3, e4, e5⟩ := DataW.trod_array hu h
      subst e2
      have := flat_rows (s := P.cellsOf e) cs xs e4 (by rw [e3]; exact hl.2) (fun i hi y hy => flat_of n e hl.1 m _ y (by rw [← hy]; exact e5 i hi))
      simpa [flat] using this
    · cases hl
end

/-- What a row asks behind a call that has made memory of its own and has turned nothing that was there. -/
theorem post_below {H : Type} {enc : TypeId × Value → H} {P : Program} {f : Func} {s : ChangeSpec} {apart fresh handsOn : Bool} {W W' : World} {args : Array Value} {v : Value} {ds gs : List (DataW H)} {before pa pv : List MemPlace}
    (hW : DataW.Whole enc P f.params.toList s.vars apart W args.toList ds gs before)
    (hres : ∀ (b : Nat) (sp : Nat → Bool) (hd : Bool), DataW.TrodAll enc P W' b sp hd f.resultTypes.toList (v.resultList f.resultTypes.size) (s.fn H (ds ++ gs)).results [])
    (hargs : DataW.TrodAll enc P W' 0 (fun b => decide (b < W.heap.size)) true f.params.toList args.toList (s.fn H (ds ++ gs)).args pa)
    (hvars : DataW.TrodVars enc P W' (fun b => decide (b < W.heap.size)) s.vars (s.fn H (ds ++ gs)).vars pv)
    (hB : Below W.heap.size W W') : s.post enc P f apart fresh handsOn false W args v W' :=
  ⟨ds, gs, before, [], pa, pv, hW, hres _ _ _, hargs, hvars, hB.frame _, fun h => by cases h⟩
end Go.Proofs.YtpophgfjdlkgiaaGreatDoor
