/- 'OpcodeFinds' answers true, at every name and every mode. -/
import Derived.Test.YtmjmcjfedpchbaaRowN
import Derived.Test.YtmjmcjfedpchbaaByW
import Derived.Test.YtmjmcjfedpchbaaOAll
namespace Go.Proofs.Ytmjmcjfedpchbaa
open Go Go.RowKit
set_option maxRecDepth 100000

theorem byteW_in : ((List.range 56).all fun r => (List.range 13).all fun m =>
    byteW (refName (Int.ofNat r)) (Int.ofNat m) opTab 0 14 == (if refAt (Int.ofNat r) (Int.ofNat m) < 0 then (0, 15) else (refAt (Int.ofNat r) (Int.ofNat m), 0))) = true := by decide +kernel
theorem byteW_far (nm : List UInt8) (m : Int) : ∀ (l : List (List UInt8 × Int × Int)) (i : Nat) (e : Int), (∀ x ∈ l, x.2.1 ≠ m) →
    byteW nm m l i e = (0, if (l.any fun x => !x.1.isEmpty && x.1 == nm) = true then 15 else e)
  | [], _, e, _ => by simp [byteW]
  | x :: l, i, e, h => by
    have ih := fun e => byteW_far nm m l (i + 1) e (fun y hy => h y (List.mem_cons_of_mem _ hy))
    have hx : (x.2.1 == m) = false := beq_eq_false_iff_ne.2 (h x (List.mem_cons_self ..))
    rw [byteW, List.any_cons]
    cases hn : x.1 with
    | nil => simp only [ih]; rfl
    | cons c cs =>
      cases hq : (c :: cs == nm) with
      | false => simp only [ih]; rfl
      | true => simp only [hx, ih]; simp
theorem byteW_none (nm : List UInt8) (m : Int) : ∀ (l : List (List UInt8 × Int × Int)) (i : Nat) (e : Int), (∀ x ∈ l, x.1 ≠ [] → x.1 ≠ nm) → byteW nm m l i e = (0, e)
  | [], _, e, _ => by simp [byteW]
  | x :: l, i, e, h => by
    have ih := byteW_none nm m l (i + 1) e (fun y hy => h y (List.mem_cons_of_mem _ hy))
    have hx := h x (List.mem_cons_self ..)
    rw [byteW]
    cases hn : x.1 with
    | nil => exact ih
    | cons c cs =>
      rw [hn] at hx
      have hq : (c :: cs == nm) = false := beq_eq_false_iff_ne.2 (hx (by simp))
      simp only [hq, ih]
theorem rowL_none (nm : List UInt8) : ∀ (l : List (List UInt8)) (i : Nat), rowL nm l i < 0 → ∀ x ∈ l, x ≠ nm
  | [], _, _ => by simp
  | y :: l, i, h => by
    rw [rowL] at h
    split at h
    · exact absurd h (by simp)
    · rename_i hne
      intro x hx
      rcases List.mem_cons.1 hx with rfl | hx
      · exact fun e => hne (beq_iff_eq.2 e)
      · exact rowL_none nm l (i + 1) h x hx
theorem rowL_some (nm : List UInt8) : ∀ (l : List (List UInt8)) (i : Nat), ¬ rowL nm l i < 0 → ∃ k, k < l.length ∧ rowL nm l i = ((i + k : Nat) : Int) ∧ l.getD k [] = nm
  | [], _, h => absurd (by simp [rowL]) h
  | y :: l, i, h => by
    rw [rowL] at h ⊢
    split at h
    · rename_i he
      exact ⟨0, by simp, by rw [if_pos he]; rfl, by simpa using he⟩
    · rename_i hne
      obtain ⟨k, hk, hr, hg⟩ := rowL_some nm l (i + 1) h
      exact ⟨k + 1, by simp; exact hk, by rw [if_neg hne, hr]; congr 1; omega, by simpa using hg⟩

theorem names_in : (opTab.all fun x => x.1.isEmpty || refNames.contains x.1) = true := by decide +kernel
theorem modes_in : (opTab.all fun x => decide (0 ≤ x.2.1) && decide (x.2.1 < 13)) = true := by decide +kernel
theorem names_met : (refNames.all fun n => opTab.any fun x => !x.1.isEmpty && x.1 == n) = true := by decide +kernel

/-- What 'Byte' answers, by the reference's table. -/
theorem byteW_law (nm : List UInt8) (m : Int) : byteW nm m opTab 0 14 =
    if rowOf nm < 0 then (0, 14) else if ¬ (0 ≤ m ∧ m < 13) then (0, 15) else if refAt (rowOf nm) m < 0 then (0, 15) else (refAt (rowOf nm) m, 0) := by
  split
  · rename_i h
    have hn := rowL_none nm refNames 0 h
    refine byteW_none nm m opTab 0 14 fun x hx h0 e => ?_
    have hc := List.all_eq_true.1 names_in x hx
    have hi : x.1.isEmpty = false := by simpa using h0
    rw [hi, Bool.false_or, List.contains_iff_mem] at hc
    exact hn _ hc e
  · rename_i h
    obtain ⟨k, hk, hr, hg⟩ := rowL_some nm refNames 0 h
    have hr' : rowOf nm = Int.ofNat k := by show rowL nm refNames 0 = _; rw [hr]; simp
    have hk' : k < 56 := by rw [refNames_len] at hk; exact hk
    have hnm : refName (Int.ofNat k) = nm := hg
    split
    · rename_i hm
      rw [byteW_far nm m opTab 0 14 (fun x hx e => by
        have hb := List.all_eq_true.1 modes_in x hx
        simp only [Bool.and_eq_true, decide_eq_true_eq] at hb
        rw [e] at hb
        exact hm hb)]
      have hmem : nm ∈ refNames := by
        rw [← hg]; simp [List.getD, hk]
      rw [if_pos (List.all_eq_true.1 names_met nm hmem)]
    · rename_i hm
      have hm' : 0 ≤ m ∧ m < 13 := Classical.not_not.1 hm
      obtain ⟨j, rfl⟩ := Int.eq_ofNat_of_zero_le hm'.1
      have hb := List.all_eq_true.1 (List.all_eq_true.1 byteW_in k (List.mem_range.2 hk')) j (List.mem_range.2 (by omega))
      rw [hnm, beq_iff_eq] at hb
      rw [hr']
      exact hb
theorem rowOf_in (nm : List UInt8) (h : ¬ rowOf nm < 0) : 0 ≤ rowOf nm ∧ rowOf nm < 56 := by
  obtain ⟨k, hk, hr, _⟩ := rowL_some nm refNames 0 h
  have hk' : k < 56 := by rw [refNames_len] at hk; exact hk
  have hr' : rowOf nm = ((0 + k : Nat) : Int) := hr
  rw [hr']
  omega

theorem refAt_hi_all : ((List.range 56).all fun r => (List.range 13).all fun m => decide (refAt (Int.ofNat r) (Int.ofNat m) < 256)) = true := by decide +kernel
theorem refAt_hi (r m : Int) (r0 : 0 ≤ r) (r1 : r < 56) (m0 : 0 ≤ m) (m1 : m < 13) : refAt r m < 256 := by
  obtain ⟨a, rfl⟩ := Int.eq_ofNat_of_zero_le r0
  obtain ⟨b, rfl⟩ := Int.eq_ofNat_of_zero_le m0
  exact of_decide_eq_true (List.all_eq_true.1 (List.all_eq_true.1 refAt_hi_all a (List.mem_range.2 (by omega))) b (List.mem_range.2 (by omega)))

theorem stepB {w a b : World} (h : Below w.heap.size w a) (k : Below a.heap.size a b) : Below w.heap.size w b := h.trans (k.mono h.size)

set_option maxHeartbeats 4000000 in
theorem finds_calls (nm : ByteArray) (m : Int) (w : World) : Calls Try.prog 4 #[.string nm, .int .i64 m] w fun e w' => e = .returned (.bool true) ∧ Below w.heap.size w w' := by
  have hB := Below.refl w.heap.size w
  by_cases h20 : (nm.size : Int) > 20
  · have hd : decide ((nm.size : Int) > 20) = true := decide_eq_true h20
    have hd' : decide (20 < (nm.size : Int)) = true := decide_eq_true h20
    go_enter Try.func4, Try.ntmps4
    go_wp2_with (go_at_call 6; refine (awakeP_calls _).mono ?_; rintro e w2 ⟨rfl, hw2⟩; replace hB := stepB hB hw2)
    go_ret
    exact ⟨rfl, hB⟩
  · have hd : decide ((nm.size : Int) > 20) = false := decide_eq_false h20
    have hd' : decide (20 < (nm.size : Int)) = false := decide_eq_false h20
    have hby := byte_callsW nm m
    rw [byteW_law] at hby
    have hrow := row_calls nm
    by_cases hr : rowOf nm.data.toList < 0
    · rw [if_pos hr] at hby
      have hdr : decide (rowOf nm.data.toList < 0) = true := decide_eq_true hr
      go_enter Try.func4, Try.ntmps4
      go_wp2_with (first
        | (go_at_call 8; refine (hby _).mono ?_; rintro e w2 ⟨rfl, hw2⟩; replace hB := stepB hB hw2)
        | (go_at_call 9; refine (len_calls m _).mono ?_; rintro e w2 ⟨rfl, hw2⟩; replace hB := stepB hB hw2)
        | (go_at_call 10; refine (rlen_calls m _).mono ?_; rintro e w2 ⟨rfl, hw2⟩; replace hB := stepB hB hw2)
        | (go_at_call 11; refine (hrow _).mono ?_; rintro e w2 ⟨rfl, hw2⟩; replace hB := stepB hB hw2)
        | (go_at_call 6; refine (awakeP_calls _).mono ?_; rintro e w2 ⟨rfl, hw2⟩; replace hB := stepB hB hw2))
      go_ret
      exact ⟨rfl, hB⟩
    · rw [if_neg hr] at hby
      have hdr : decide (rowOf nm.data.toList < 0) = false := decide_eq_false hr
      have hri := rowOf_in _ hr
      by_cases hm : ¬ (0 ≤ m ∧ m < 13)
      · rw [if_pos hm] at hby
        by_cases hm0 : m < 0
        · have hdm : decide (m < 0) = true := decide_eq_true hm0
          go_enter Try.func4, Try.ntmps4
          go_wp2_with (first
            | (go_at_call 8; refine (hby _).mono ?_; rintro e w2 ⟨rfl, hw2⟩; replace hB := stepB hB hw2)
            | (go_at_call 9; refine (len_calls m _).mono ?_; rintro e w2 ⟨rfl, hw2⟩; replace hB := stepB hB hw2)
            | (go_at_call 10; refine (rlen_calls m _).mono ?_; rintro e w2 ⟨rfl, hw2⟩; replace hB := stepB hB hw2)
            | (go_at_call 11; refine (hrow _).mono ?_; rintro e w2 ⟨rfl, hw2⟩; replace hB := stepB hB hw2)
            | (go_at_call 6; refine (awakeP_calls _).mono ?_; rintro e w2 ⟨rfl, hw2⟩; replace hB := stepB hB hw2))
          go_ret
          exact ⟨rfl, hB⟩
        · have hdm : decide (m < 0) = false := decide_eq_false hm0
          have hdm2 : decide (m > 12) = true := decide_eq_true (by omega)
          have hdm3 : decide (12 < m) = true := decide_eq_true (by omega)
          go_enter Try.func4, Try.ntmps4
          go_wp2_with (first
            | (go_at_call 8; refine (hby _).mono ?_; rintro e w2 ⟨rfl, hw2⟩; replace hB := stepB hB hw2)
            | (go_at_call 9; refine (len_calls m _).mono ?_; rintro e w2 ⟨rfl, hw2⟩; replace hB := stepB hB hw2)
            | (go_at_call 10; refine (rlen_calls m _).mono ?_; rintro e w2 ⟨rfl, hw2⟩; replace hB := stepB hB hw2)
            | (go_at_call 11; refine (hrow _).mono ?_; rintro e w2 ⟨rfl, hw2⟩; replace hB := stepB hB hw2)
            | (go_at_call 6; refine (awakeP_calls _).mono ?_; rintro e w2 ⟨rfl, hw2⟩; replace hB := stepB hB hw2))
          go_ret
          exact ⟨rfl, hB⟩
      · rw [if_neg hm] at hby
        have hm' : 0 ≤ m ∧ m < 13 := Classical.not_not.1 hm
        have hdm : decide (m < 0) = false := decide_eq_false (by omega)
        have hdm2 : decide (m > 12) = false := decide_eq_false (by omega)
        have hdm3 : decide (12 < m) = false := decide_eq_false (by omega)
        have hat := at_calls (rowOf nm.data.toList) m hri.1 hri.2 hm'.1 hm'.2
        by_cases ha : refAt (rowOf nm.data.toList) m < 0
        · rw [if_pos ha] at hby
          have hda : decide (refAt (rowOf nm.data.toList) m < 0) = true := decide_eq_true ha
          go_enter Try.func4, Try.ntmps4
          go_wp2_with (first
            | (go_at_call 8; refine (hby _).mono ?_; rintro e w2 ⟨rfl, hw2⟩; replace hB := stepB hB hw2)
            | (go_at_call 9; refine (len_calls m _).mono ?_; rintro e w2 ⟨rfl, hw2⟩; replace hB := stepB hB hw2)
            | (go_at_call 10; refine (rlen_calls m _).mono ?_; rintro e w2 ⟨rfl, hw2⟩; replace hB := stepB hB hw2)
            | (go_at_call 11; refine (hrow _).mono ?_; rintro e w2 ⟨rfl, hw2⟩; replace hB := stepB hB hw2)
            | (go_at_call 12; refine (hat _).mono ?_; rintro e w2 ⟨rfl, hw2⟩; replace hB := stepB hB hw2)
            | (go_at_call 6; refine (awakeP_calls _).mono ?_; rintro e w2 ⟨rfl, hw2⟩; replace hB := stepB hB hw2))
          go_ret
          exact ⟨rfl, hB⟩
        · rw [if_neg ha] at hby
          have hda : decide (refAt (rowOf nm.data.toList) m < 0) = false := decide_eq_false ha
          have hhi := refAt_hi _ _ hri.1 hri.2 hm'.1 hm'.2
          have hwr : wrap64 (refAt (rowOf nm.data.toList) m) = refAt (rowOf nm.data.toList) m := by unfold wrap64; omega
          go_enter Try.func4, Try.ntmps4
          go_wp2_with (first
            | (go_at_call 8; refine (hby _).mono ?_; rintro e w2 ⟨rfl, hw2⟩; replace hB := stepB hB hw2)
            | (go_at_call 9; refine (len_calls m _).mono ?_; rintro e w2 ⟨rfl, hw2⟩; replace hB := stepB hB hw2)
            | (go_at_call 10; refine (rlen_calls m _).mono ?_; rintro e w2 ⟨rfl, hw2⟩; replace hB := stepB hB hw2)
            | (go_at_call 11; refine (hrow _).mono ?_; rintro e w2 ⟨rfl, hw2⟩; replace hB := stepB hB hw2)
            | (go_at_call 12; refine (hat _).mono ?_; rintro e w2 ⟨rfl, hw2⟩; replace hB := stepB hB hw2)
            | (go_at_call 6; refine (awakeP_calls _).mono ?_; rintro e w2 ⟨rfl, hw2⟩; replace hB := stepB hB hw2))
          go_ret
          exact ⟨rfl, hB⟩
end Go.Proofs.Ytmjmcjfedpchbaa
