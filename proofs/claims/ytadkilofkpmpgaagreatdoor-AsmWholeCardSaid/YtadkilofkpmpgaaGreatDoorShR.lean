/- '(asm.shape).read': the number that is written so. -/
import Derived.Test.YtadkilofkpmpgaaGreatDoorPuP
namespace Go.Proofs.YtadkilofkpmpgaaGreatDoor
open Go Go.RowKit
set_option maxRecDepth 100000
/-- The number that is written behind a, in d digits, ahead of b; -1: it is not written so. -/
def wrL (a b : List UInt8) (d : Nat) (t : List UInt8) : Int :=
  if t.length = a.length + d + b.length ∧ t.take a.length = a ∧ t.drop (a.length + d) = b then hexV ((t.drop a.length).take d) 0 else -1
theorem wrL_no1 (a b : List UInt8) (d : Nat) (t : List UInt8) (h : Lib.hasPrefix t a = false) : wrL a b d t = -1 := by
  unfold wrL
  rw [if_neg]
  rintro ⟨_, h2, _⟩
  have : Lib.hasPrefix t a = true := List.isPrefixOf_iff_prefix.2 (h2 ▸ List.take_prefix _ _)
  rw [h] at this
  cases this
theorem wrL_of (a b : List UInt8) (d : Nat) (t r : List UInt8) (h : t = a ++ r) : wrL a b d t = if r.length = d + b.length ∧ r.drop d = b then hexV (r.take d) 0 else -1 := by
  subst h
  unfold wrL
  have e1 : (a ++ r).take a.length = a := by simp
  have e2 : (a ++ r).drop (a.length + d) = r.drop d := by rw [← List.drop_drop]; simp
  have e3 : (a ++ r).drop a.length = r := by simp
  rw [e1, e2, e3, List.length_append]
  by_cases hc : r.length = d + b.length ∧ r.drop d = b
  · rw [if_pos ⟨by omega, rfl, hc.2⟩, if_pos hc]
  · rw [if_neg hc, if_neg]
    rintro ⟨q1, _, q2⟩
    exact hc ⟨by omega, q2⟩
theorem wrL_no2 (a b : List UInt8) (d : Nat) (t r : List UInt8) (h : t = a ++ r) (hs : Lib.hasSuffix r b = false) : wrL a b d t = -1 := by
  rw [wrL_of a b d t r h, if_neg]
  rintro ⟨_, h2⟩
  have : Lib.hasSuffix r b = true := List.isSuffixOf_iff_suffix.2 (h2 ▸ List.drop_suffix _ _)
  rw [hs] at this
  cases this
theorem wrL_yes (a b : List UInt8) (d : Nat) (t q : List UInt8) (h : t = a ++ (q ++ b)) : wrL a b d t = if q.length = d then hexV q 0 else -1 := by
  rw [wrL_of a b d t (q ++ b) h]
  by_cases hd : q.length = d
  · subst hd
    simp
  · rw [if_neg hd, if_neg]
    rintro ⟨h1, _⟩
    rw [List.length_append] at h1
    omega
theorem prefix_split (t a : List UInt8) (h : Lib.hasPrefix t a = true) : t = a ++ t.drop a.length := by
  have := List.isPrefixOf_iff_prefix.1 h
  obtain ⟨r, rfl⟩ := this
  simp
theorem suffix_split (t b : List UInt8) (h : Lib.hasSuffix t b = true) : t = t.take (t.length - b.length) ++ b := by
  have := List.isSuffixOf_iff_suffix.1 h
  obtain ⟨r, rfl⟩ := this
  simp
theorem nil_bytes (t : ByteArray) (h : t.size = 0) : t = ⟨#[]⟩ := by
  apply ByteArray.ext
  exact Array.eq_empty_of_size_eq_zero h
/-- What is handed back. -/
def shV (v : Int) : Value := if v < 0 then .tuple #[.int .i64 0, .bool false] else .tuple #[.int .i64 v, .bool true]
theorem hexD_hi (c : UInt8) : hexD c ≤ 15 := by
  unfold hexD
  repeat' split
  all_goals omega
theorem hexV_hi : ∀ (l : List UInt8) (a : Int), 0 ≤ a → hexV l a < (a + 1) * 16 ^ l.length
  | [], a, h => by simp [hexV]; omega
  | c :: l, a, h => by
    unfold hexV
    have hc := hexD_hi c
    have hp : (0 : Int) < 16 ^ l.length := Int.pow_pos (by decide)
    split
    · have : 0 ≤ (a + 1) * 16 ^ (c :: l).length := Int.mul_nonneg (by omega) (Int.le_of_lt (Int.pow_pos (by decide)))
      omega
    · rename_i hn
      have ih := hexV_hi l (16 * a + hexD c) (by omega)
      refine Int.lt_of_lt_of_le ih ?_
      rw [List.length_cons, Int.pow_succ, Int.mul_comm (16 ^ l.length) 16, ← Int.mul_assoc]
      exact Int.mul_le_mul_of_nonneg_right (by omega) (Int.le_of_lt hp)
theorem pow16 (n : Nat) (h : n ≤ 4) : (16 : Int) ^ n ≤ 65536 := by
  have : n = 0 ∨ n = 1 ∨ n = 2 ∨ n = 3 ∨ n = 4 := by omega
  rcases this with rfl | rfl | rfl | rfl | rfl <;> decide
set_option maxHeartbeats 3200000 in
theorem shr_calls (a b t : ByteArray) (d : Nat) (hd : d ≤ 4) (ht : t.size ≤ 65536) (w : World) (he : ErrV w) :
    Calls Tryz.prog 28 #[.agg #[.string a, .int .i64 (d : Int), .string b], .string t] w fun e w' => e = .returned (shV (wrL a.data.toList b.data.toList d t.data.toList)) ∧ Below w.heap.size w w' := by
  have c1 := fun W => cutP_calls t a W
  have hB := (Below.refl w.heap.size w).alloc (Nat.le_refl _) (.cells #[.string a, .int .i64 (d : Int), .string b] 53)
  have hE := he.below hB
  obtain ⟨r, hr⟩ : ∃ r : ByteArray, r = ⟨(Lib.trimPrefix t.data.toList a.data.toList).toArray⟩ := ⟨_, rfl⟩
  rw [← hr] at c1
  have hrl : r.data.toList = Lib.trimPrefix t.data.toList a.data.toList := by rw [hr]
  have hrs : r.size ≤ 65536 := by
    rw [Lib.size_eq, hrl]
    have := Lib.trimPrefix_le t.data.toList a.data.toList
    rw [← Lib.size_eq] at this
    omega
  have c2 := fun W => cutS_calls r b W (by omega)
  obtain ⟨q, hq⟩ : ∃ q : ByteArray, q = ⟨(Lib.trimSuffix r.data.toList b.data.toList).toArray⟩ := ⟨_, rfl⟩
  rw [← hq] at c2
  have hql : q.data.toList = Lib.trimSuffix r.data.toList b.data.toList := by rw [hq]
  clear hq hr
  cases hp : Lib.hasPrefix t.data.toList a.data.toList with
  | false =>
    rw [hp] at c1
    rw [wrL_no1 _ _ _ _ hp]
    cases hsf : Lib.hasSuffix r.data.toList b.data.toList with
    | false =>
      rw [hsf] at c2
      clear hp hsf hql hrl hrs ht hd hE he
      go_enter Tryz.func28, Tryz.ntmps28
      go_wp2_with (first
        | (go_at_call 56; refine (c1 _).mono ?_; rintro e w2 ⟨rfl, rfl⟩)
        | (go_at_call 57; refine (c2 _).mono ?_; rintro e w3 ⟨rfl, rfl⟩))
      go_ret2
      exact ⟨rfl, hB⟩
    | true =>
      rw [hsf] at c2
      clear hp hsf hql hrl hrs ht hd hE he
      go_enter Tryz.func28, Tryz.ntmps28
      go_wp2_with (first
        | (go_at_call 56; refine (c1 _).mono ?_; rintro e w2 ⟨rfl, rfl⟩)
        | (go_at_call 57; refine (c2 _).mono ?_; rintro e w3 ⟨rfl, rfl⟩))
      go_ret2
      exact ⟨rfl, hB⟩
  | true =>
    rw [hp] at c1
    have hr1 : t.data.toList = a.data.toList ++ r.data.toList := by
      rw [hrl, Lib.trimPrefix, if_pos hp]
      exact prefix_split _ _ hp
    cases hsf : Lib.hasSuffix r.data.toList b.data.toList with
    | false =>
      rw [hsf] at c2
      rw [wrL_no2 _ _ _ _ _ hr1 hsf]
      clear hp hsf hql hrl hrs ht hd hE he hr1
      go_enter Tryz.func28, Tryz.ntmps28
      go_wp2_with (first
        | (go_at_call 56; refine (c1 _).mono ?_; rintro e w2 ⟨rfl, rfl⟩)
        | (go_at_call 57; refine (c2 _).mono ?_; rintro e w3 ⟨rfl, rfl⟩))
      go_ret2
      exact ⟨rfl, hB⟩
    | true =>
      rw [hsf] at c2
      have hq1 : r.data.toList = q.data.toList ++ b.data.toList := by
        rw [hql, Lib.trimSuffix, if_pos hsf]
        exact suffix_split _ _ hsf
      rw [wrL_yes _ _ _ _ q.data.toList (by rw [hr1, hq1]), ← Lib.size_eq]
      by_cases hqd : q.size = d
      · rw [if_pos hqd]
        have d1 : ((q.size : Int) == (d : Int)) = true := beq_iff_eq.2 (by omega)
        have d2 : ((q.size : Int) != (d : Int)) = false := by rw [bne, d1]; rfl
        by_cases hd0 : d = 0
        · subst hd0
          obtain rfl := nil_bytes q hqd
          clear hp hsf hql hrl hrs ht hd hE he hr1 hq1 hqd
          go_enter Tryz.func28, Tryz.ntmps28
          go_wp2_with (first
            | (go_at_call 56; refine (c1 _).mono ?_; rintro e w2 ⟨rfl, rfl⟩)
            | (go_at_call 57; refine (c2 _).mono ?_; rintro e w3 ⟨rfl, rfl⟩))
          go_ret2
          exact ⟨rfl, hB⟩
        · have hne : q.size ≠ 0 := by omega
          have hemp : q.toList.isEmpty = false := by
            rw [← decide_eq_emptyBytes]
            exact decide_eq_false (fun h => hne (by rw [h]; rfl))
          by_cases hv : 0 ≤ hexV q.data.toList 0
          · have c3 := fun W => pu_ok q hne (by omega) hv W
            have hhi : hexV q.data.toList 0 < 65536 := by
              have h := hexV_hi q.data.toList 0 (Int.le_refl _)
              have h4 := pow16 q.data.toList.length (by rw [← Lib.size_eq]; omega)
              omega
            generalize hexV q.data.toList 0 = v at c3 hv hhi
            have hw : wrap64 v = v := by unfold wrap64; omega
            have hsv : shV v = .tuple #[.int .i64 v, .bool true] := by rw [shV, if_neg (by omega)]
            have HS : Hid (shV v = .tuple #[.int .i64 (wrap64 v), .bool true]) := by rw [hw]; exact hsv
            have hmx := mixed
            clear hp hsf hql hrl hrs ht hd hE he hr1 hq1 hqd hsv hv hhi hw
            go_enter Tryz.func28, Tryz.ntmps28
            go_wp2_with (first
              | (go_at_call 56; refine (c1 _).mono ?_; rintro e w2 ⟨rfl, rfl⟩)
              | (go_at_call 57; refine (c2 _).mono ?_; rintro e w3 ⟨rfl, rfl⟩)
              | (go_at_call 58; refine (c3 _).mono ?_; rintro e w4 ⟨rfl, hw4⟩; replace hB := stepB' hB hw4))
            go_quiet (fail)
            go_wp2
            go_ret2
            exact ⟨by rw [HS.out]; rfl, below_drewN hB _⟩
          · have c3 := fun W hW => pu_no q hne (by omega) (by omega) W (he.below hW)
            have hsv : shV (hexV q.data.toList 0) = .tuple #[.int .i64 0, .bool false] := by rw [shV, if_pos (by omega)]
            generalize hexV q.data.toList 0 = v at hsv hv ⊢
            have HS : Hid (shV v = .tuple #[.int .i64 0, .bool false]) := hsv
            have hmx := mixed
            clear hp hsf hql hrl hrs ht hd hE he hr1 hq1 hqd hsv hv
            go_enter Tryz.func28, Tryz.ntmps28
            go_wp2_with (first
              | (go_at_call 56; refine (c1 _).mono ?_; rintro e w2 ⟨rfl, rfl⟩)
              | (go_at_call 57; refine (c2 _).mono ?_; rintro e w3 ⟨rfl, rfl⟩)
              | (go_at_call 58; refine (c3 _ hB).mono ?_; rintro e w4 ⟨N, rfl, hw4⟩; replace hB := stepB' hB hw4))
            go_quiet (fail)
            go_wp2
            go_ret2
            exact ⟨by rw [HS.out]; rfl, below_drewN hB _⟩
      · rw [if_neg hqd]
        have d1 : ((q.size : Int) == (d : Int)) = false := beq_eq_false_iff_ne.2 (by omega)
        have d2 : ((q.size : Int) != (d : Int)) = true := by rw [bne, d1]; rfl
        clear hp hsf hql hrl hrs ht hd hE he hr1 hq1 hqd
        go_enter Tryz.func28, Tryz.ntmps28
        go_wp2_with (first
          | (go_at_call 56; refine (c1 _).mono ?_; rintro e w2 ⟨rfl, rfl⟩)
          | (go_at_call 57; refine (c2 _).mono ?_; rintro e w3 ⟨rfl, rfl⟩))
        go_ret2
        exact ⟨rfl, hB⟩
end Go.Proofs.YtadkilofkpmpgaaGreatDoor
