/- 'cochinealref05.Parse': it answers as 'asm.Parse' does. -/
import Derived.Test.YtadkilofkpmpgaaGreatDoorRwM
import Derived.Test.YtadkilofkpmpgaaGreatDoorByM
import Derived.Test.YtadkilofkpmpgaaGreatDoorParW
namespace Go.Proofs.YtadkilofkpmpgaaGreatDoor
open Go Go.RowKit
set_option maxRecDepth 100000
abbrev rpv3 (r : Int × Int × Int) : Value := .tuple #[.agg #[.int .i64 r.1, .int .i64 r.2.1], .int .i64 r.2.2]
/-- What is wrong last: by whether one was written so, and by the name's row. -/
def errS (some' : Bool) (row : Int) : Int := if some' = true then (if row < 0 then 14 else 15) else 11
set_option maxHeartbeats 3200000 in
theorem rparse_calls (s : ByteArray) (w : World) :
    Calls Tryz.prog 12 #[.string s] w fun e w' => e = .returned (rpv3 (parseW s.data.toList)) ∧ Below w.heap.size w w' := by
  have hB := (Below.refl w.heap.size w).alloc (Nat.le_refl _) (.cells #[.int .i64 0, .int .i64 0] 30)
  have hbx : boxAt (w.alloc (.cells #[.int .i64 0, .int .i64 0] 30)) w.heap.size [.int .i64 0, .int .i64 0] 30 := by
    unfold boxAt; rw [heap_alloc_new]
  by_cases h3 : s.size < 3
  · have hR : parseW s.data.toList = (0, 0, 11) := by rw [parseW, if_pos (.inl (by rw [← Lib.size_eq]; exact h3))]
    rw [hR]
    have d1 : decide ((s.size : Int) < 3) = true := decide_eq_true (by omega)
    clear hR h3
    go_enter Tryz.func12, Tryz.ntmps12
    go_wp2
    refine bodyPost_ret (v := .tuple #[.agg #[.int .i64 0, .int .i64 0], .int .i64 11]) (by simp [results, Tryz.results12, go_sem]) rfl ⟨rfl, hB⟩
  · have d1 : decide ((s.size : Int) < 3) = false := decide_eq_false (by omega)
    obtain ⟨l, hl⟩ : ∃ l, s.data.toList = l := ⟨_, rfl⟩
    have hlen : l.length = s.size := by rw [← hl, Lib.size_eq]
    obtain ⟨g, hg, idx⟩ : ∃ g : Nat → UInt8, (∀ i, i < s.size → l[i]? = some (g i)) ∧ ∀ (i : Nat), i < s.size → ∀ W : World, (Instr.index 9 (.string s) (.int .i64 (i : Int))).run Tryz.prog W = .ok (.int .u8 ((g i).toNat : Int)) W := by
      refine ⟨fun i => l.getD i 0, fun i hi => ?_, fun i hi W => ?_⟩
      · have h : i < l.length := by omega
        rw [List.getElem?_eq_getElem h]
        simp [List.getD, List.getElem?_eq_getElem h]
      · rw [Rk.run_index_str Tryz.underlying9 ⟨by omega, by omega⟩ W, Int.toNat_natCast, hl]
    have hnm : (s.extract 0 3).data.toList = l.take 3 := by rw [ext_list, hl]; rfl
    have hrest : (s.extract 3 s.size).data.toList = l.drop 3 := by
      rw [ext_list, hl, List.take_of_length_le]
      rw [List.length_drop]; omega
    have c1 := fun W => row_calls (s.extract 0 3) W
    have c2 := fun (m : Nat) (hm : m < 13) W => written_calls (s.extract 3 s.size) m hm W
    rw [hnm] at c1
    rw [hrest] at c2
    rw [hl]
    have hbad : ∀ i, i < 3 → isAZ (g i) = false → parseW l = (0, 0, 11) := fun i hi h => by
      have hz : (l.take 3).all isAZ = false := by
        rw [List.all_eq_false]
        exact ⟨g i, List.mem_of_getElem? (i := i) (by rw [List.getElem?_take_of_lt hi]; exact hg i (by omega)), by rw [h]; simp⟩
      rw [parseW, if_pos (.inr hz)]
    have hok : (∀ i, i < 3 → isAZ (g i) = true) → parseW l = prsA (l.take 3) (l.drop 3) 13 0 11 := fun h => by
      rw [parseW, if_neg]
      rintro (q | q)
      · omega
      · rw [List.all_eq_false] at q
        obtain ⟨x, hx, hx2⟩ := q
        obtain ⟨i, hi⟩ := List.mem_iff_getElem?.1 hx
        have hi3 : i < 3 := by
          have := (List.getElem?_eq_some_iff.1 hi).1
          rw [List.length_take] at this
          omega
        rw [List.getElem?_take_of_lt hi3, hg i (by omega)] at hi
        cases hi
        exact hx2 (h i hi3)
    have hsz : (3 : Int) ≤ s.size := by omega
    generalize parseW l = R at hbad hok ⊢
    have HI : Hid _ := idx
    have HBad : Hid _ := hbad
    have HOk : Hid _ := hok
    have HC2 : Hid _ := c2
    have HLaw : Hid (∀ m : Int, byteW (l.take 3) m opTab 0 14 = if rowOf (l.take 3) < 0 then (0, 14) else if ¬ (0 ≤ m ∧ m < 13) then (0, 15) else if refAt (rowOf (l.take 3)) m < 0 then (0, 15) else (refAt (rowOf (l.take 3)) m, 0)) := byteW_law (l.take 3)
    have HRow : Hid (¬ rowOf (l.take 3) < 0 → 0 ≤ rowOf (l.take 3) ∧ rowOf (l.take 3) < 56) := rowOf_in (l.take 3)
    generalize l.take 3 = nm at c1 HOk HLaw HRow
    generalize l.drop 3 = rest at HC2 HOk
    have hle : 3 ≤ s.size := by omega
    clear idx hbad hok c2 hg hl hlen hnm hrest h3
    go_enter Tryz.func12, Tryz.ntmps12
    go_wp2
    go_loopw [4] (fun v4 wr => ∃ i : Nat, i ≤ 3 ∧ v4 = .int .i64 i ∧ Hid (∀ j, j < i → isAZ (g j) = true) ∧ boxAt wr w.heap.size [.int .i64 0, .int .i64 0] 30 ∧ Below w.heap.size w wr) (fun v4 _ => 3 - (intOf v4).toNat)
    case atStart => exact ⟨0, by omega, rfl, by exact (fun j hj => absurd hj (Nat.not_lt_zero _)), hbx, hB⟩
    case round =>
      clear hbx hB
      obtain ⟨i, hi, rfl, HA, hbx, hB⟩ := hrel
      have e3 := hbx.cell 0
      have e4 := hbx.cell 1
      have g3 := hbx.froz 0
      have g4 := hbx.froz 1
      by_cases hi3 : i < 3
      · have hx := HI.out i (by omega)
        have d2 : decide ((i : Int) < 3) = true := decide_eq_true (by omega)
        cases haz : isAZ (g i) with
        | false =>
          have hR := HBad.out i hi3 haz
          subst hR
          have hd : ((g i).toNat : Int) < 65 ∨ (¬ ((g i).toNat : Int) < 65 ∧ (90 : Int) < ((g i).toNat : Int)) := by
            simp only [isAZ, decide_eq_false_iff_not] at haz
            omega
          generalize ((g i).toNat : Int) = x at hx hd
          clear HA HI HBad HOk HC2 HLaw HRow haz
          rcases hd with hd | ⟨hd, hd2⟩
          · have q1 : decide (x < 65) = true := decide_eq_true hd
            go_wp2
            refine bodyPost_ret (v := .tuple #[.agg #[.int .i64 0, .int .i64 0], .int .i64 11]) (by simp [results, Tryz.results12, go_sem, e3, e4]) rfl ⟨rfl, ?_⟩
            exact (hB.setCell (Nat.le_refl _) _).setCell (Nat.le_refl _) _
          · have q1 : decide (x < 65) = false := decide_eq_false hd
            have q2 : decide (x > 90) = true := decide_eq_true hd2
            go_wp2
            refine bodyPost_ret (v := .tuple #[.agg #[.int .i64 0, .int .i64 0], .int .i64 11]) (by simp [results, Tryz.results12, go_sem, e3, e4]) rfl ⟨rfl, ?_⟩
            exact (hB.setCell (Nat.le_refl _) _).setCell (Nat.le_refl _) _
        | true =>
          have hd : ¬ ((g i).toNat : Int) < 65 ∧ ¬ (90 : Int) < ((g i).toNat : Int) := by
            simp only [isAZ, decide_eq_true_eq] at haz
            omega
          have HA2 : Hid (∀ j, j < i + 1 → isAZ (g j) = true) := fun j hj => by
            by_cases e : j = i
            · subst e; exact haz
            · exact HA.out j (by omega)
          generalize ((g i).toNat : Int) = x at hx hd
          have q1 : decide (x < 65) = false := decide_eq_false hd.1
          have q2 : decide (x > 90) = false := decide_eq_false hd.2
          clear HA HI HBad HOk HC2 HLaw HRow haz hd
          go_wp2
          exact ⟨⟨i + 1, by omega, by go_num, HA2, hbx, hB⟩, by simp [intOf]; omega⟩
      · have hie : i = 3 := by omega
        subst hie
        have hR := HOk.out (fun j hj => HA.out j hj)
        have HR : Hid _ := hR
        generalize hrw : rowOf nm = row at c1 HLaw HRow
        clear HA HI HBad HOk hR
        go_wp2_with (go_at_call 30; refine (c1 _).mono ?_; rintro e w2 ⟨rfl, hw2⟩; replace hB := stepB' hB hw2; replace hbx := hbx.below hw2)
        go_loopw [6, 7] (fun v6 v7 wr => ∃ (m : Nat) (sm : Bool), m ≤ 13 ∧ v6 = .bool sm ∧ v7 = .int .i64 m ∧ Hid (R = prsA nm rest (13 - m) m (errS sm row)) ∧ boxAt wr w.heap.size [.int .i64 0, .int .i64 0] 30 ∧ Below w.heap.size w wr) (fun _ v7 _ => 13 - (intOf v7).toNat)
        case atStart => exact ⟨0, false, by omega, rfl, rfl, HR, hbx, hB⟩
        case round =>
          clear HR hbx hB hw2
          obtain ⟨m, sm, hm, rfl, rfl, HR, hbx, hB⟩ := hrel
          have e3 := hbx.cell 0
          have e4 := hbx.cell 1
          have g3 := hbx.froz 0
          have g4 := hbx.froz 1
          by_cases hm13 : m = 13
          · subst hm13
            have hR : R = (0, 0, errS sm row) := HR.out
            subst hR
            have d2 : decide (((13 : Nat) : Int) < 13) = false := decide_eq_false (by omega)
            clear HR HC2 HLaw HRow
            cases sm with
            | false =>
              go_wp2
              refine bodyPost_ret (v := .tuple #[.agg #[.int .i64 0, .int .i64 0], .int .i64 11]) (by simp [results, Tryz.results12, go_sem, e3, e4]) rfl ⟨rfl, ?_⟩
              exact (hB.setCell (Nat.le_refl _) _).setCell (Nat.le_refl _) _
            | true =>
              by_cases hr : row < 0
              · have hE : errS true row = 14 := by simp [errS, hr]
                have HE : Hid (errS true row = 14) := hE
                have d3 : decide (row < 0) = true := decide_eq_true hr
                clear hE hr
                go_wp2
                refine bodyPost_ret (v := .tuple #[.agg #[.int .i64 0, .int .i64 0], .int .i64 14]) (by simp [results, Tryz.results12, go_sem, e3, e4]) rfl ⟨by rw [HE.out], ?_⟩
                exact (hB.setCell (Nat.le_refl _) _).setCell (Nat.le_refl _) _
              · have hE : errS true row = 15 := by simp [errS, hr]
                have HE : Hid (errS true row = 15) := hE
                have d3 : decide (row < 0) = false := decide_eq_false hr
                clear hE hr
                go_wp2
                refine bodyPost_ret (v := .tuple #[.agg #[.int .i64 0, .int .i64 0], .int .i64 15]) (by simp [results, Tryz.results12, go_sem, e3, e4]) rfl ⟨by rw [HE.out], ?_⟩
                exact (hB.setCell (Nat.le_refl _) _).setCell (Nat.le_refl _) _
          · have hm12 : m < 13 := by omega
            have c2 := HC2.out m hm12
            have hR := HR.out
            rw [show 13 - m = (12 - m) + 1 by omega, prsA] at hR
            have d2 : decide ((m : Int) < 13) = true := decide_eq_true (by omega)
            by_cases hv : wrM m rest < 0
            · rw [if_pos hv] at hR
              have HR2 : Hid _ := hR
              generalize wrM m rest = v at c2 hv
              have d3 : decide (v < 0) = true := decide_eq_true hv
              clear HR HC2 HLaw HRow hR hv
              go_wp2_with (go_at_call 31; refine (c2 _).mono ?_; rintro e w5 ⟨rfl, hw5⟩; replace hB := stepB' hB hw5; replace hbx := hbx.below hw5)
              exact ⟨⟨m + 1, sm, by omega, rfl, by go_num, by rw [show 13 - (m + 1) = 12 - m by omega]; exact HR2, hbx, hB⟩, by simp [intOf]; omega⟩
            · rw [if_neg hv] at hR
              have hlaw := HLaw.out (m : Int)
              rw [hlaw] at hR
              generalize wrM m rest = v at c2 hv hR
              have d3 : decide (v < 0) = false := decide_eq_false hv
              by_cases hr : row < 0
              · simp only [if_pos hr] at hR
                rw [if_neg (by decide)] at hR
                have hE : (14 : Int) = errS true row := by simp [errS, hr]
                rw [hE] at hR
                have HR2 : Hid _ := hR
                have d4 : decide (row ≥ 0) = false := decide_eq_false (by omega)
                clear HR HC2 HLaw HRow hR hv hr hlaw hE
                go_wp2_with (go_at_call 31; refine (c2 _).mono ?_; rintro e w5 ⟨rfl, hw5⟩; replace hB := stepB' hB hw5; replace hbx := hbx.below hw5)
                exact ⟨⟨m + 1, true, by omega, rfl, by go_num, by rw [show 13 - (m + 1) = 12 - m by omega]; exact HR2, hbx, hB⟩, by simp [intOf]; omega⟩
              · simp only [if_neg hr, if_neg (show ¬ ¬ (0 ≤ (m : Int) ∧ (m : Int) < 13) from fun q => q ⟨by omega, by omega⟩)] at hR
                have hrow := HRow.out (by omega)
                have c3 := fun W => at_calls row (m : Int) hrow.1 hrow.2 (by omega) (by omega) W
                have d4 : decide (row ≥ 0) = true := decide_eq_true (by omega)
                generalize refAt row (m : Int) = q at hR c3
                by_cases hq : q < 0
                · simp only [if_pos hq] at hR
                  rw [if_neg (by decide)] at hR
                  have hE : (15 : Int) = errS true row := by simp [errS, hr]
                  rw [hE] at hR
                  have HR2 : Hid _ := hR
                  have d5 : decide (q ≥ 0) = false := decide_eq_false (by omega)
                  clear HR HC2 HLaw HRow hR hv hr hlaw hE hrow hq
                  go_wp2_with (first
                    | (go_at_call 31; refine (c2 _).mono ?_; rintro e w5 ⟨rfl, hw5⟩; replace hB := stepB' hB hw5; replace hbx := hbx.below hw5)
                    | (go_at_call 32; refine (c3 _).mono ?_; rintro e w6 ⟨rfl, hw6⟩; replace hB := stepB' hB hw6; replace hbx := hbx.below hw6))
                  exact ⟨⟨m + 1, true, by omega, rfl, by go_num, by rw [show 13 - (m + 1) = 12 - m by omega]; exact HR2, hbx, hB⟩, by simp [intOf]; omega⟩
                · simp only [if_neg hq, if_true] at hR
                  subst hR
                  have d5 : decide (q ≥ 0) = true := decide_eq_true (by omega)
                  clear HR HC2 HLaw HRow hv hr hlaw hrow hq e3 e4 g3 g4
                  go_wp2_with (first
                    | (go_at_call 31; refine (c2 _).mono ?_; rintro e w5 ⟨rfl, hw5⟩; replace hB := stepB' hB hw5; replace hbx := hbx.below hw5)
                    | (go_at_call 32; refine (c3 _).mono ?_; rintro e w6 ⟨rfl, hw6⟩; replace hB := stepB' hB hw6; replace hbx := hbx.below hw6; have e3 := hbx.cell 0; have e4 := hbx.cell 1; have g3 := hbx.froz 0; have g4 := hbx.froz 1))
                  refine bodyPost_ret (v := .tuple #[.agg #[.int .i64 q, .int .i64 v], .int .i64 0]) (by simp [results, Tryz.results12, go_sem, e3, e4]) rfl ⟨rfl, ?_⟩
                  exact (hB.setCell (Nat.le_refl _) _).setCell (Nat.le_refl _) _
end Go.Proofs.YtadkilofkpmpgaaGreatDoor
