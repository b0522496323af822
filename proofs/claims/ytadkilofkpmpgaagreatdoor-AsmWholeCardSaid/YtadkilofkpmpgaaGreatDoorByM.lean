/- The reference's 'Row' at every name; the two 'Length's at every mode. What 'Byte' answers, by the reference's table. -/
import Derived.Test.YtadkilofkpmpgaaGreatDoorRef
import Derived.Test.YtadkilofkpmpgaaGreatDoorByW
namespace Go.Proofs.YtadkilofkpmpgaaGreatDoor
open Go Go.RowKit
set_option maxRecDepth 100000
theorem nm_run : (List.range 56).map (fun r => Rk.fn Tryz.prog okf Rk.noKn (Rk.ofSpec Rk.noSpec) 60 1 24 #[.int .i64 (Int.ofNat r)] [] True) = (List.range 56).map (fun r => some (.string ⟨⟨refName (Int.ofNat r)⟩⟩, [], True)) := by kernel_rfl
theorem nm_calls (r : Int) (h0 : 0 ≤ r) (h1 : r < 56) (w : World) : Calls Tryz.prog 24 #[.int .i64 r] w fun e w' => e = .returned (.string ⟨⟨refName r⟩⟩) ∧ Below w.heap.size w w' := by
  obtain ⟨n, rfl⟩ := Int.eq_ofNat_of_zero_le h0
  exact Rk.calls_fn mixed okf_ok Rk.noSpec_good (List.map_inj_left.1 nm_run n (List.mem_range.2 (by omega))) w (Rk.noKn_knows w)

def rowL (nm : List UInt8) : List (List UInt8) → Nat → Int
  | [], _ => -1
  | x :: l, i => if (x == nm) = true then Int.ofNat i else rowL nm l (i + 1)
def rowOf (nm : List UInt8) : Int := rowL nm refNames 0
def rowFrom (nm : List UInt8) (i : Nat) : Int := rowL nm (refNames.drop i) i
theorem refNames_len : refNames.length = 56 := by decide +kernel
theorem rowFrom_step (nm : List UInt8) (r : Nat) (h : r < 56) : rowFrom nm r = if (refName (r : Int) == nm) = true then (r : Int) else rowFrom nm (r + 1) := by
  have hl : r < refNames.length := by rw [refNames_len]; exact h
  unfold rowFrom
  rw [List.drop_eq_getElem_cons hl, rowL]
  simp [refName, List.getD, hl]
theorem rowFrom_end (nm : List UInt8) : rowFrom nm 56 = -1 := by
  unfold rowFrom
  rw [List.drop_eq_nil_of_le (by rw [refNames_len]; omega)]
  rfl

set_option maxHeartbeats 400000 in
theorem row_calls (nm : ByteArray) (w : World) : Calls Tryz.prog 30 #[.string nm] w fun e w' => e = .returned (.int .i64 (rowOf nm.data.toList)) ∧ Below w.heap.size w w' := by
  go_enter Tryz.func30, Tryz.ntmps30
  go_wp2
  go_loopw [3] (fun i wr => ∃ r : Nat, r ≤ 56 ∧ i = .int .i64 r ∧ rowOf nm.data.toList = rowFrom nm.data.toList r ∧ Below w.heap.size w wr) (fun i _ => 56 - (intOf i).toNat)
  case atStart => exact ⟨0, by omega, rfl, rfl, Below.refl _ _⟩
  case round =>
    obtain ⟨r, hr, rfl, hf, hB⟩ := hrel
    by_cases hlt : r < 56
    · have hd : decide ((r : Int) < 56) = true := decide_eq_true (by omega)
      rw [rowFrom_step _ _ hlt, ← ByteArray.toList_eq] at hf
      cases hq : (refName (r : Int) == nm.toList) with
      | true =>
        rw [hq, if_pos rfl] at hf
        have HR : Hid (rowOf nm.toList = (r : Int)) := hf
        clear hf
        go_wp2_with (go_at_call 24; refine (nm_calls _ (by omega) (by omega) _).mono ?_; rintro e w' ⟨rfl, hw'⟩)
        go_ret
        exact ⟨by rw [← ByteArray.toList_eq, HR.out]; rfl, hB.trans (hw'.mono hB.size)⟩
      | false =>
        rw [hq, if_neg (by simp)] at hf
        have HR : Hid (rowOf nm.toList = rowFrom nm.toList (r + 1)) := hf
        clear hf
        go_wp2_with (go_at_call 24; refine (nm_calls _ (by omega) (by omega) _).mono ?_; rintro e w' ⟨rfl, hw'⟩)
        exact ⟨⟨r + 1, by omega, by go_num, by rw [← ByteArray.toList_eq]; exact HR.out, hB.trans (hw'.mono hB.size)⟩, by simp [intOf]; omega⟩
    · have hr56 : r = 56 := by omega
      subst hr56
      rw [rowFrom_end] at hf
      have HR : Hid (rowOf nm.data.toList = -1) := hf
      clear hf
      go_wp2
      go_ret
      exact ⟨by rw [HR.out]; rfl, hB⟩
end Go.Proofs.YtadkilofkpmpgaaGreatDoor
namespace Go.Proofs.YtadkilofkpmpgaaGreatDoor
open Go Go.RowKit
set_option maxRecDepth 100000

theorem byteW_in : ((List.range 56).all fun r => (List.range 13).all fun m =>
    byteW (refName (Int.ofNat r)) (Int.ofNat m) opTab 0 14 == (if refAt (Int.ofNat r) (Int.ofNat m) < 0 then (0, 15) else (refAt (Int.ofNat r) (Int.ofNat m), 0))) = true := by decide +kernel
theorem byteW_far (nm : List UInt8) (m : Int) : ∀ (l : List (List UInt8 × Int × Int)) (i : Nat) (e : Int), (∀ x ∈ l, x.2.1 ≠ m) →
    byteW nm m l i e = (0, if (l.any fun x => !x.1.isEmpty && x.1 == nm) = true then 15 else e)
  | [], _, e, _ => by simp [byteW]
  | x :: l, i, e, h => by
    have ih := fun e => byteW_far nm m l (i + 1) e (fun y hy => h y (List.mem_cons_of_mem _ hy))
    have hx : (x.2.1 == m) = false := beq_eq_false_iff_ne.2 (h x (List.mem_cons_self ..))
    rw [byteW, List.any_cons]
    cases hn : x.1 with
    | nil => simp only [ih]; rfl
    | cons c cs =>
      cases hq : (c :: cs == nm) with
      | false => simp only [ih]; rfl
      | true => simp only [hx, ih]; simp
theorem byteW_none (nm : List UInt8) (m : Int) : ∀ (l : List (List UInt8 × Int × Int)) (i : Nat) (e : Int), (∀ x ∈ l, x.1 ≠ [] → x.1 ≠ nm) → byteW nm m l i e = (0, e)
  | [], _, e, _ => by simp [byteW]
  | x :: l, i, e, h => by
    have ih := byteW_none nm m l (i + 1) e (fun y hy => h y (List.mem_cons_of_mem _ hy))
    have hx := h x (List.mem_cons_self ..)
    rw [byteW]
    cases hn : x.1 with
    | nil => exact ih
    | cons c cs =>
      rw [hn] at hx
      have hq : (c :: cs == nm) = false := beq_eq_false_iff_ne.2 (hx (by simp))
      simp only [hq, ih]
theorem rowL_none (nm : List UInt8) : ∀ (l : List (List UInt8)) (i : Nat), rowL nm l i < 0 → ∀ x ∈ l, x ≠ nm
  | [], _, _ => by simp
  | y :: l, i, h => by
    rw [rowL] at h
    split at h
    · exact absurd h (by simp)
    · rename_i hne
      intro x hx
      rcases List.mem_cons.1 hx with rfl | hx
      · exact fun e => hne (beq_iff_eq.2 e)
      · exact rowL_none nm l (i + 1) h x hx
theorem rowL_some (nm : List UInt8) : ∀ (l : List (List UInt8)) (i : Nat), ¬ rowL nm l i < 0 → ∃ k, k < l.length ∧ rowL nm l i = ((i + k : Nat) : Int) ∧ l.getD k [] = nm
  | [], _, h => absurd (by simp [rowL]) h
  | y :: l, i, h => by
    rw [rowL] at h ⊢
    split at h
    · rename_i he
      exact ⟨0, by simp, by rw [if_pos he]; rfl, by simpa using he⟩
    · rename_i hne
      obtain ⟨k, hk, hr, hg⟩ := rowL_some nm l (i + 1) h
      exact ⟨k + 1, by simp; exact hk, by rw [if_neg hne, hr]; congr 1; omega, by simpa using hg⟩

theorem names_in : (opTab.all fun x => x.1.isEmpty || refNames.contains x.1) = true := by decide +kernel
theorem modes_in : (opTab.all fun x => decide (0 ≤ x.2.1) && decide (x.2.1 < 13)) = true := by decide +kernel
theorem names_met : (refNames.all fun n => opTab.any fun x => !x.1.isEmpty && x.1 == n) = true := by decide +kernel

/-- What 'Byte' answers, by the reference's table. -/
theorem byteW_law (nm : List UInt8) (m : Int) : byteW nm m opTab 0 14 =
    if rowOf nm < 0 then (0, 14) else if ¬ (0 ≤ m ∧ m < 13) then (0, 15) else if refAt (rowOf nm) m < 0 then (0, 15) else (refAt (rowOf nm) m, 0) := by
  split
  · rename_i h
    have hn := rowL_none nm refNames 0 h
    refine byteW_none nm m opTab 0 14 fun x hx h0 e => ?_
    have hc := List.all_eq_true.1 names_in x hx
    have hi : x.1.isEmpty = false := by simpa using h0
    rw [hi, Bool.false_or, List.contains_iff_mem] at hc
    exact hn _ hc e
  · rename_i h
    obtain ⟨k, hk, hr, hg⟩ := rowL_some nm refNames 0 h
    have hr' : rowOf nm = Int.ofNat k := by show rowL nm refNames 0 = _; rw [hr]; simp
    have hk' : k < 56 := by rw [refNames_len] at hk; exact hk
    have hnm : refName (Int.ofNat k) = nm := hg
    split
    · rename_i hm
      rw [byteW_far nm m opTab 0 14 (fun x hx e => by
        have hb := List.all_eq_true.1 modes_in x hx
        simp only [Bool.and_eq_true, decide_eq_true_eq] at hb
        rw [e] at hb
        exact hm hb)]
      have hmem : nm ∈ refNames := by
        rw [← hg]; simp [List.getD, hk]
      rw [if_pos (List.all_eq_true.1 names_met nm hmem)]
    · rename_i hm
      have hm' : 0 ≤ m ∧ m < 13 := Classical.not_not.1 hm
      obtain ⟨j, rfl⟩ := Int.eq_ofNat_of_zero_le hm'.1
      have hb := List.all_eq_true.1 (List.all_eq_true.1 byteW_in k (List.mem_range.2 hk')) j (List.mem_range.2 (by omega))
      rw [hnm, beq_iff_eq] at hb
      rw [hr']
      exact hb
theorem rowOf_in (nm : List UInt8) (h : ¬ rowOf nm < 0) : 0 ≤ rowOf nm ∧ rowOf nm < 56 := by
  obtain ⟨k, hk, hr, _⟩ := rowL_some nm refNames 0 h
  have hk' : k < 56 := by rw [refNames_len] at hk; exact hk
  have hr' : rowOf nm = ((0 + k : Nat) : Int) := hr
  rw [hr']
  omega

theorem refAt_hi_all : ((List.range 56).all fun r => (List.range 13).all fun m => decide (refAt (Int.ofNat r) (Int.ofNat m) < 256)) = true := by decide +kernel
theorem refAt_hi (r m : Int) (r0 : 0 ≤ r) (r1 : r < 56) (m0 : 0 ≤ m) (m1 : m < 13) : refAt r m < 256 := by
  obtain ⟨a, rfl⟩ := Int.eq_ofNat_of_zero_le r0
  obtain ⟨b, rfl⟩ := Int.eq_ofNat_of_zero_le m0
  exact of_decide_eq_true (List.all_eq_true.1 (List.all_eq_true.1 refAt_hi_all a (List.mem_range.2 (by omega))) b (List.mem_range.2 (by omega)))

end Go.Proofs.YtadkilofkpmpgaaGreatDoor
