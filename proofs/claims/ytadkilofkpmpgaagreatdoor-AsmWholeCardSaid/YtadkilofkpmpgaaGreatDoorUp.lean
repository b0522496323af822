/- 'strings.ToUpper' of ASCII text. -/
import Derived.Test.YtadkilofkpmpgaaGreatDoorBld
import Derived.Test.YtadkilofkpmpgaaGreatDoorRk
import Derived.Lib.Case
import Derived.WalkKit
import Derived.OwnWalk
namespace Go.Proofs.YtadkilofkpmpgaaGreatDoor
open Go Go.RowKit
set_option maxRecDepth 100000

theorem ext_list (s : ByteArray) (a b : Nat) : (s.extract a b).data.toList = (s.data.toList.drop a).take (b - a) := by
  rw [ByteArray.data_extract, Array.toList_extract]

set_option maxHeartbeats 1600000 in
theorem up_calls (s : ByteArray) (w : World) (hs : s.size ≤ 65536) (ha : ∀ (j : Nat) (b : UInt8), s.data.toList[j]? = some b → b.toNat < 128) :
    Calls Tryz.prog 19 #[.string s] w fun e w' => e = .returned (.string ⟨⟨s.data.toList.map Lib.upperB⟩⟩) ∧ Below w.heap.size w w' := by
  have hlen : s.data.toList.length = s.size := by rw [Array.length_toList]; rfl
  obtain ⟨g, hg⟩ : ∃ g : Nat → UInt8, ∀ i, i < s.size → s.data.toList[i]? = some (g i) := ⟨fun i => s.data.toList.getD i 0, fun i hi => by
    have hl : i < s.data.toList.length := by rw [hlen]; exact hi
    rw [List.getElem?_eq_getElem hl]
    simp [List.getD, List.getElem?_eq_getElem hl]⟩
  have idx : ∀ (i : Nat), i < s.size → ∀ W : World, (Instr.index 9 (.string s) (.int .i64 (i : Int))).run Tryz.prog W = .ok (.int .u8 ((g i).toNat : Int)) W := fun i hi W => by
    rw [Rk.run_index_str Tryz.underlying9 ⟨by omega, by omega⟩ W, Int.toNat_natCast]
    simp only [List.getD, hg i hi, Option.getD_some]
  have HA : Hid (∀ (j : Nat) (b : UInt8), s.data.toList[j]? = some b → b.toNat < 128) := ha
  have HG : Hid (∀ i, i < s.size → s.data.toList[i]? = some (g i)) := hg
  have HL : Hid (s.data.toList.length = s.size) := hlen
  clear ha hg hlen
  obtain ⟨l, hl⟩ : ∃ l, s.data.toList = l := ⟨_, rfl⟩
  rw [hl] at HA HG HL ⊢
  have HS : Hid (s.data.toList = l) := hl
  clear hl
  go_enter Tryz.func19, Tryz.ntmps19
  go_wp2
  go_loopw [3, 4, 5] (fun v3 v4 v5 wr => ∃ i : Nat, i ≤ s.size ∧ v3 = .bool true ∧ v4 = .bool ((l.take i).any Lib.isLowerB) ∧ v5 = .int .i64 i ∧ wr = w) (fun _ _ v5 _ => s.size - (intOf v5).toNat)
  case atStart => exact ⟨0, by omega, rfl, by simp, rfl, rfl⟩
  case round =>
    obtain ⟨i, hi, rfl, rfl, rfl, rfl⟩ := hrel
    by_cases hlt : i < s.size
    · have hd : decide ((i : Int) < (s.size : Int)) = true := decide_eq_true (by omega)
      have hx := idx i hlt
      have h128 : decide (((g i).toNat : Int) ≥ 128) = false := decide_eq_false (by have := HA.out i _ (HG.out i hlt); omega)
      have HT : Hid ((l.take (i + 1)).any Lib.isLowerB = ((l.take i).any Lib.isLowerB || Lib.isLowerB (g i))) := Lib.any_take_succ _ _ _ _ (HG.out i hlt)
      generalize (l.take i).any Lib.isLowerB = a at HT
      cases a with
      | true =>
        go_wp2
        exact ⟨⟨i + 1, by omega, rfl, by rw [HT.out]; rfl, by go_num, trivial⟩, by simp [intOf]; omega⟩
      | false =>
        cases hlow : Lib.isLowerB (g i) with
        | true =>
          rw [Lib.isLowerB_int, Bool.and_eq_true] at hlow
          have q1 := hlow.1
          have q2 := hlow.2
          clear hlow
          have HT2 : Hid ((l.take (i + 1)).any Lib.isLowerB = true) := by rw [HT.out, Lib.isLowerB_int, q1, q2]; rfl
          clear HT
          go_wp2
          exact ⟨⟨i + 1, by omega, rfl, by rw [HT2.out], by go_num, trivial⟩, by simp [intOf]; omega⟩
        | false =>
          have HT2 : Hid ((l.take (i + 1)).any Lib.isLowerB = false) := by rw [HT.out, hlow]; rfl
          clear HT
          rw [Lib.isLowerB_int, Bool.and_eq_false_iff] at hlow
          by_cases q : (97 : Int) ≤ ((g i).toNat : Int)
          · have q1 : decide ((97 : Int) ≤ ((g i).toNat : Int)) = true := decide_eq_true q
            have q2 : decide (((g i).toNat : Int) ≤ 122) = false := hlow.resolve_left (by rw [q1]; simp)
            clear hlow q
            go_wp2
            exact ⟨⟨i + 1, by omega, rfl, by rw [HT2.out], by go_num, trivial⟩, by simp [intOf]; omega⟩
          · have q1 : decide ((97 : Int) ≤ ((g i).toNat : Int)) = false := decide_eq_false q
            clear hlow q
            go_wp2
            exact ⟨⟨i + 1, by omega, rfl, by rw [HT2.out], by go_num, trivial⟩, by simp [intOf]; omega⟩
    · have hie : i = s.size := by omega
      have hd : decide ((i : Int) < (s.size : Int)) = false := decide_eq_false (by omega)
      have HT : Hid ((l.take i).any Lib.isLowerB = l.any Lib.isLowerB) := by rw [hie, ← HL.out, List.take_length]; exact rfl
      rw [HT.out]
      clear HT
      cases hany : l.any Lib.isLowerB with
      | false =>
        have HR : Hid ((⟨⟨l.map Lib.upperB⟩⟩ : ByteArray) = s) := by
          rw [Lib.map_of_none _ _ Lib.upperB_of_not _ hany, ← HS.out]
          exact rfl
        clear hany
        go_wp2
        go_ret
        exact ⟨by rw [HR.out]; rfl, Below.refl _ _⟩
      | true =>
        clear hany
        rename World => W0
        have hB0 := (Below.refl W0.heap.size W0).alloc (Nat.le_refl _) (.cells #[.pointer none, .slice none 0 0] 79)
        have hgr := bGrow W0.heap.size W0.heap.size s.size (W0.alloc (.cells #[.pointer none, .slice none 0 0] 79)) (Nat.le_refl _) (by rw [heap_alloc_new]) (by simp) (by omega)
        go_wp2_with (go_at_call 41; refine hgr.mono ?_; rintro e w1 ⟨rfl, hb1, hB1⟩)
        have hB2 := hB0.trans hB1
        clear hB0 hB1 hgr
        go_loopw [8, 9] (fun v8 v9 w2 => ∃ i pos : Nat, i ≤ s.size ∧ pos ≤ i ∧ v8 = .int .i64 pos ∧ v9 = .int .i64 i ∧ Hid (((l.drop pos).take (i - pos)).any Lib.isLowerB = false) ∧ BAt W0.heap.size W0.heap.size (Lib.byteCells ((l.take pos).map Lib.upperB)) w2 ∧ Below W0.heap.size W0 w2) (fun _ v9 _ => s.size - (intOf v9).toNat)
        case atStart => exact ⟨0, 0, by omega, by omega, rfl, rfl, by exact (by simp : ((l.drop 0).take (0 - 0)).any Lib.isLowerB = false), hb1, hB2⟩
        case round =>
          clear hb1 hB2
          obtain ⟨i, pos, hi, hpi, rfl, rfl, HN, hb, hB⟩ := hrel
          by_cases hlt : i < s.size
          · have hd : decide ((i : Int) < (s.size : Int)) = true := decide_eq_true (by omega)
            have hx := idx i hlt
            cases hlow : Lib.isLowerB (g i) with
            | true =>
              have HM : Hid ((l.take pos).map Lib.upperB ++ (l.drop pos).take (i - pos) ++ [Lib.upperB (g i)] = (l.take (i + 1)).map Lib.upperB) := Lib.map_stretch _ _ Lib.upperB_of_not l pos i (g i) hpi (HG.out i hlt) HN.out
              have hup : Hid (((Lib.upperB (g i)).toNat : Int) = ((g i).toNat : Int) - 32) := Lib.upperB_int (g i) hlow
              rw [Lib.isLowerB_int, Bool.and_eq_true] at hlow
              have q1 := hlow.1
              have q2 := hlow.2
              clear hlow
              by_cases hp : pos < i
              · have hdp : decide ((pos : Int) < (i : Int)) = true := decide_eq_true (by omega)
                have hE : (s.extract pos i).size = i - pos := by rw [ByteArray.size_extract]; omega
                have hL1 : (Lib.byteCells ((l.take pos).map Lib.upperB)).length ≤ 65536 := by rw [Lib.byteCells_length, List.length_map, List.length_take]; omega
                have c1 := fun w h hb => bWriteString W0.heap.size W0.heap.size (Lib.byteCells ((l.take pos).map Lib.upperB)) (s.extract pos i) w h (by rw [hE]; omega) hb
                have c2 := fun w h hb => bWriteByte W0.heap.size W0.heap.size (Lib.byteCells ((l.take pos).map Lib.upperB) ++ Lib.strCells (s.extract pos i)) ((((g i).toNat : Int) - 32) % 256) w h (by rw [List.length_append, Lib.strCells_length, hE]; omega) hb
                clear hE hL1
                go_wp2_with (first
                  | (go_at_call 37; refine (c1 _ hb hB.size).mono ?_; rintro e w2 ⟨rfl, hb2, hw2⟩; replace hB := hB.trans hw2)
                  | (go_at_call 42; refine (c2 _ hb2 hB.size).mono ?_; rintro e w3 ⟨rfl, hb3, hw3⟩; replace hB := hB.trans hw3))
                have hcell : Lib.byteCells ((l.take pos).map Lib.upperB) ++ Lib.strCells (s.extract pos i) ++ [.int .u8 ((((g i).toNat : Int) - 32) % 256)] = Lib.byteCells ((l.take (i + 1)).map Lib.upperB) := by
                  rw [← HM.out, Lib.byteCells_append, Lib.byteCells_append, Lib.strCells_eq, ext_list, HS.out]
                  have := hup.out
                  have hlt8 := UInt8.toNat_lt (g i)
                  simp only [Lib.byteCells, List.map_cons, List.map_nil, this]
                  rw [show (((g i).toNat : Int) - 32) % 256 = ((g i).toNat : Int) - 32 by omega]
                rw [hcell] at hb3
                exact ⟨⟨i + 1, i + 1, by omega, by omega, by go_num, by go_num, by exact (by simp : ((l.drop (i + 1)).take (i + 1 - (i + 1))).any Lib.isLowerB = false), hb3, hB⟩, by simp [intOf]; omega⟩
              · have hpe : pos = i := by omega
                subst hpe
                have hL1 : (Lib.byteCells ((l.take pos).map Lib.upperB)).length ≤ 65536 := by rw [Lib.byteCells_length, List.length_map, List.length_take]; omega
                have c2 := fun w h hb => bWriteByte W0.heap.size W0.heap.size (Lib.byteCells ((l.take pos).map Lib.upperB)) ((((g pos).toNat : Int) - 32) % 256) w h (by omega) hb
                clear hL1
                go_wp2_with (go_at_call 42; refine (c2 _ hb hB.size).mono ?_; rintro e w3 ⟨rfl, hb3, hw3⟩; replace hB := hB.trans hw3)
                have hcell : Lib.byteCells ((l.take pos).map Lib.upperB) ++ [.int .u8 ((((g pos).toNat : Int) - 32) % 256)] = Lib.byteCells ((l.take (pos + 1)).map Lib.upperB) := by
                  rw [← HM.out, Nat.sub_self, List.take_zero, List.append_nil, Lib.byteCells_append]
                  have := hup.out
                  have hlt8 := UInt8.toNat_lt (g pos)
                  simp only [Lib.byteCells, List.map_cons, List.map_nil, this]
                  rw [show (((g pos).toNat : Int) - 32) % 256 = ((g pos).toNat : Int) - 32 by omega]
                rw [hcell] at hb3
                exact ⟨⟨pos + 1, pos + 1, by omega, by omega, by go_num, by go_num, by exact (by simp : ((l.drop (pos + 1)).take (pos + 1 - (pos + 1))).any Lib.isLowerB = false), hb3, hB⟩, by simp [intOf]; omega⟩
            | false =>
              have HN2 : Hid (((l.drop pos).take (i + 1 - pos)).any Lib.isLowerB = false) := by
                have e1 : i + 1 - pos = (i - pos) + 1 := by omega
                have e2 : (l.drop pos)[i - pos]? = some (g i) := by
                  rw [List.getElem?_drop, show pos + (i - pos) = i by omega]; exact HG.out i hlt
                rw [e1, Lib.any_take_succ _ _ _ _ e2, HN.out, hlow]
                exact rfl
              rw [Lib.isLowerB_int, Bool.and_eq_false_iff] at hlow
              by_cases q : (97 : Int) ≤ ((g i).toNat : Int)
              · have q1 : decide ((97 : Int) ≤ ((g i).toNat : Int)) = true := decide_eq_true q
                have q2 : decide (((g i).toNat : Int) ≤ 122) = false := hlow.resolve_left (by rw [q1]; simp)
                clear hlow q
                go_wp2
                exact ⟨⟨i + 1, pos, by omega, by omega, rfl, by go_num, HN2, hb, hB⟩, by simp [intOf]; omega⟩
              · have q1 : decide ((97 : Int) ≤ ((g i).toNat : Int)) = false := decide_eq_false q
                clear hlow q
                go_wp2
                exact ⟨⟨i + 1, pos, by omega, by omega, rfl, by go_num, HN2, hb, hB⟩, by simp [intOf]; omega⟩
          · have hie : i = s.size := by omega
            have hd : decide ((i : Int) < (s.size : Int)) = false := decide_eq_false (by omega)
            have HR : Hid ((l.take pos).map Lib.upperB ++ l.drop pos = l.map Lib.upperB) := by
              refine Lib.map_rest _ _ Lib.upperB_of_not l pos ?_
              have := HN.out
              rw [List.take_of_length_le (by rw [List.length_drop, HL.out]; omega)] at this
              exact this
            have hL1 : (Lib.byteCells ((l.take pos).map Lib.upperB)).length ≤ 65536 := by rw [Lib.byteCells_length, List.length_map, List.length_take]; omega
            by_cases hp : pos < s.size
            · have hdp : decide ((pos : Int) < (s.size : Int)) = true := decide_eq_true (by omega)
              have hE : (s.extract pos s.size).size = s.size - pos := by rw [ByteArray.size_extract]; omega
              have c1 := fun w h hb => bWriteString W0.heap.size W0.heap.size (Lib.byteCells ((l.take pos).map Lib.upperB)) (s.extract pos s.size) w h (by rw [hE]; omega) hb
              have hcell : Lib.byteCells ((l.take pos).map Lib.upperB) ++ Lib.strCells (s.extract pos s.size) = Lib.byteCells (l.map Lib.upperB) := by
                rw [← HR.out, Lib.byteCells_append, Lib.strCells_eq, ext_list, HS.out, show (l.drop pos).take (s.size - pos) = l.drop pos from List.take_of_length_le (by rw [List.length_drop, HL.out]; exact Nat.le_refl _)]
              rw [hcell] at c1
              clear hE hL1 hcell
              go_wp2_with (first
                | (go_at_call 37; refine (c1 _ hb hB.size).mono ?_; rintro e w2 ⟨rfl, hb2, hw2⟩; replace hB := hB.trans hw2)
                | (go_at_call 38; refine (bString _ _ _ _ hb2 hB.size).mono ?_; rintro e w3 ⟨rfl, hw3⟩; replace hB := hB.trans hw3))
              go_ret
              exact ⟨rfl, hB⟩
            · have hdp : decide ((pos : Int) < (s.size : Int)) = false := decide_eq_false (by omega)
              have hcell : (l.take pos).map Lib.upperB = l.map Lib.upperB := by
                rw [List.take_of_length_le (by rw [HL.out]; omega)]
              rw [hcell] at hb
              clear hL1 hcell
              go_wp2_with (go_at_call 38; refine (bString _ _ _ _ hb hB.size).mono ?_; rintro e w3 ⟨rfl, hw3⟩; replace hB := hB.trans hw3)
              go_ret
              exact ⟨rfl, hB⟩
end Go.Proofs.YtadkilofkpmpgaaGreatDoor
