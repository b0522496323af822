/- 'cochinealref05.digit', 'number', 'written': what they answer. 'cochinealref05.written': the number that is written so, in a mode: as 'shape.read' reads it. 'cochinealref05.written': its contract. -/
import Derived.Test.YtadkilofkpmpgaaGreatDoorPar
import Derived.Test.YtadkilofkpmpgaaGreatDoorTxt
import Derived.WalkKit
import Derived.OwnWalk
namespace Go.Proofs.YtadkilofkpmpgaaGreatDoor
open Go Go.RowKit
set_option maxRecDepth 100000
theorem hd_run : (List.range 256).map (fun c => Rk.fn Tryz.prog okf Rk.noKn (Rk.ofSpec Rk.noSpec) 60 1 87 #[.int .u8 (Int.ofNat c)] [] True) = (List.range 256).map (fun c => some (.int .i64 (hexD (UInt8.ofNat c)), [], True)) := by kernel_rfl
theorem hd_calls (c : UInt8) (w : World) : Calls Tryz.prog 87 #[.int .u8 (c.toNat : Int)] w fun e w' => e = .returned (.int .i64 (hexD c)) ∧ Below w.heap.size w w' := by
  have h := Rk.calls_fn mixed okf_ok Rk.noSpec_good (List.map_inj_left.1 hd_run c.toNat (List.mem_range.2 c.toNat_lt)) w (Rk.noKn_knows w)
  rw [UInt8.ofNat_toNat] at h
  exact h
set_option maxHeartbeats 800000 in
theorem num_calls (s : ByteArray) (hs : s.size ≤ 4) (w : World) : Calls Tryz.prog 60 #[.string s] w fun e w' => e = .returned (.int .i64 (hexV s.data.toList 0)) ∧ Below w.heap.size w w' := by
  obtain ⟨l, hl⟩ : ∃ l, s.data.toList = l := ⟨_, rfl⟩
  have hlen : l.length = s.size := by rw [← hl, Lib.size_eq]
  obtain ⟨g, hg, idx⟩ : ∃ g : Nat → UInt8, (∀ i, i < s.size → l.drop i = g i :: l.drop (i + 1)) ∧ ∀ (i : Nat), i < s.size → ∀ W : World, (Instr.index 9 (.string s) (.int .i64 (i : Int))).run Tryz.prog W = .ok (.int .u8 ((g i).toNat : Int)) W := by
    refine ⟨fun i => l.getD i 0, fun i hi => ?_, fun i hi W => ?_⟩
    · have h : i < l.length := by omega
      rw [List.drop_eq_getElem_cons h]
      simp [List.getD, List.getElem?_eq_getElem h]
    · rw [Rk.run_index_str Tryz.underlying9 ⟨by omega, by omega⟩ W, Int.toNat_natCast, hl]
  rw [hl]
  have HI : Hid _ := idx
  have HG : Hid _ := hg
  have HL : Hid (l.length = s.size) := hlen
  clear idx hl hlen hg
  have hB := Below.refl w.heap.size w
  go_enter Tryz.func60, Tryz.ntmps60
  go_wp2
  go_loopw [3, 4] (fun v3 v4 wr => ∃ (k : Nat) (a : Int), k ≤ s.size ∧ v3 = .int .i64 a ∧ v4 = .int .i64 k ∧ Hid (okAcc k a ∧ hexV l 0 = hexV (l.drop k) a) ∧ Below w.heap.size w wr) (fun _ v4 _ => s.size - (intOf v4).toNat)
  case atStart => exact ⟨0, 0, by omega, rfl, rfl, by exact ⟨⟨by omega, by omega, by omega, by omega, by omega, by omega⟩, rfl⟩, hB⟩
  case round =>
    clear hB
    obtain ⟨k, a, hk, rfl, rfl, hh, hB⟩ := hrel
    by_cases hkn : k < s.size
    · obtain ⟨hacc, hdec⟩ := hh.out
      have hx := HI.out k hkn
      have hll := HL.out
      have hdrop := HG.out k hkn
      rw [hdrop, hexV] at hdec
      generalize g k = c at hx hdec
      have hc := fun W => hd_calls c W
      have hd := decide_eq_true (p := (k : Int) < (s.size : Int)) (by omega)
      have h15 := hexD_hi c
      generalize hexD c = d at hc hdec h15
      have ha3 : a ≤ 4095 := hacc.2.2.2.2.1 (by omega)
      have ha0 : 0 ≤ a := hacc.1
      by_cases hdn : d < 0
      · rw [if_pos hdn] at hdec
        have d2 : decide (d < 0) = true := decide_eq_true hdn
        have HE : Hid (hexV l 0 = -1) := hdec
        clear hdec hacc hh HI HG HL hll hdrop
        go_wp2_with (go_at_call 87; refine (hc _).mono ?_; rintro e w2 ⟨rfl, hw2⟩; replace hB := stepB' hB hw2)
        go_ret
        exact ⟨by rw [HE.out]; rfl, hB⟩
      · rw [if_neg hdn] at hdec
        have d2 : decide (d < 0) = false := decide_eq_false hdn
        have hN : okAcc (k + 1) (16 * a + d) ∧ hexV l 0 = hexV (l.drop (k + 1)) (16 * a + d) := by
          obtain ⟨h1, h2, h3, h4, h5, h6⟩ := hacc
          exact ⟨⟨by omega, by omega, by omega, by omega, by omega, by omega⟩, hdec⟩
        have HN : Hid _ := hN
        have w1 : wrap64 (16 * a) = 16 * a := by unfold wrap64; omega
        have w2 : wrap64 (16 * a + d) = 16 * a + d := by unfold wrap64; omega
        clear hdec hacc hh HI HG HL hll hdrop hN
        go_wp2_with (go_at_call 87; refine (hc _).mono ?_; rintro e w2 ⟨rfl, hw2⟩; replace hB := stepB' hB hw2)
        exact ⟨⟨k + 1, 16 * a + d, by omega, rfl, by go_num, HN, hB⟩, by simp [intOf]; omega⟩
    · have hkk : k = s.size := by omega
      have hd : decide ((k : Int) < (s.size : Int)) = false := decide_eq_false (by omega)
      have hE : hexV l 0 = a := by
        rw [hh.out.2, List.drop_of_length_le (by rw [HL.out]; omega)]
        rfl
      have HE : Hid (hexV l 0 = a) := hE
      clear hE hh HI HG HL
      go_wp2
      go_ret
      exact ⟨by rw [HE.out]; rfl, hB⟩
end Go.Proofs.YtadkilofkpmpgaaGreatDoor
namespace Go.Proofs.YtadkilofkpmpgaaGreatDoor
open Go Go.RowKit
set_option maxRecDepth 100000
theorem ar_run : ((List.range 13).drop 2).map (fun m => Rk.fn Tryz.prog okf Rk.noKn (Rk.ofSpec Rk.noSpec) 60 1 25 #[.int .i64 (Int.ofNat m)] [] True) = ((List.range 13).drop 2).map (fun m => some (.tuple ⟨[.string ⟨⟨(shp (Int.ofNat m)).1.drop 1⟩⟩, .string ⟨⟨(shp (Int.ofNat m)).2.2⟩⟩]⟩, [], True)) := by kernel_rfl
theorem wd_run : (List.range 13).map (fun m => Rk.fn Tryz.prog okf Rk.noKn (Rk.ofSpec Rk.noSpec) 60 1 23 #[.int .i64 (Int.ofNat m)] [] True) = (List.range 13).map (fun m => some (.bool ((shp (Int.ofNat m)).2.1 == 4), [], True)) := by kernel_rfl
theorem ms_mem (m : Nat) (h0 : 2 ≤ m) (h1 : m < 13) : m ∈ (List.range 13).drop 2 := by
  have : (List.range 13).drop 2 = [2, 3, 4, 5, 6, 7, 8, 9, 10, 11, 12] := by decide
  rw [this]
  simp only [List.mem_cons, List.mem_nil_iff, or_false]
  omega
def callW : Rk.Call := fun f args q ob => match f, args with
  | 25, ⟨[.int .i64 m]⟩ => if 2 ≤ m ∧ m < 13 then some (.tuple ⟨[.string ⟨⟨(shp m).1.drop 1⟩⟩, .string ⟨⟨(shp m).2.2⟩⟩]⟩, q, ob) else none
  | 23, ⟨[.int .i64 m]⟩ => if 0 ≤ m ∧ m < 13 then some (.bool ((shp m).2.1 == 4), q, ob) else none
  | 60, ⟨[.string s]⟩ => some (.int .i64 (hexV s.data.toList 0), q, s.size ≤ 4 ∧ ob)
  | _, _ => none
theorem callW_good (kn : Rk.Kn) : Rk.Good Tryz.prog kn callW := by
  intro f args q ob v q' ob' h w hk ho
  unfold callW at h
  split at h
  · split at h
    · rename_i m hm
      simp only [Option.some.injEq, Prod.mk.injEq] at h
      obtain ⟨rfl, rfl, rfl⟩ := h
      obtain ⟨k, rfl⟩ := Int.eq_ofNat_of_zero_le (show 0 ≤ m by omega)
      exact ⟨ho, Rk.calls_fn mixed okf_ok Rk.noSpec_good (List.map_inj_left.1 ar_run k (ms_mem k (by omega) (by omega))) w (Rk.noKn_knows w)⟩
    · cases h
  · split at h
    · rename_i m hm
      simp only [Option.some.injEq, Prod.mk.injEq] at h
      obtain ⟨rfl, rfl, rfl⟩ := h
      obtain ⟨k, rfl⟩ := Int.eq_ofNat_of_zero_le hm.1
      exact ⟨ho, Rk.calls_fn mixed okf_ok Rk.noSpec_good (List.map_inj_left.1 wd_run k (List.mem_range.2 (by omega))) w (Rk.noKn_knows w)⟩
    · cases h
  · simp only [Option.some.injEq, Prod.mk.injEq] at h
    obtain ⟨rfl, rfl, rfl⟩ := h
    exact ⟨ho.2, num_calls _ ho.1 w⟩
  · cases h
noncomputable abbrev runW (s : ByteArray) (m : Nat) (orc : Rk.Orc) : Option (Value × Rk.Orc × Prop) := Rk.fn Tryz.prog okf Rk.noKn callW 60 1 31 #[.string s, .int .i64 (Int.ofNat m)] orc True
def alM (m : Nat) : Nat := (shp (Int.ofNat m)).1.length
def adM (m : Nat) : Nat := alM m + (shp (Int.ofNat m)).2.1.toNat
def llM (m : Nat) : Int := (adM m + (shp (Int.ofNat m)).2.2.length : Nat)
abbrev msL : List Nat := (List.range 13).drop 2
abbrev oL (s : ByteArray) (m : Nat) (t : Bool) : Prop := (!((s.size : Int) == llM m)) = t
abbrev oA (s : ByteArray) (m : Nat) (t : Bool) : Prop := (!((s.extract 0 (alM m)).data.toList == (shp (Int.ofNat m)).1)) = t ∧ decide (0 ≤ (alM m : Int) ∧ (alM m : Int) ≤ (s.size : Int)) = true ∧ oL s m false ∧ True
abbrev oB (s : ByteArray) (m : Nat) (t : Bool) : Prop := (!((s.extract (adM m) s.size).data.toList == (shp (Int.ofNat m)).2.2)) = t ∧ decide (0 ≤ (adM m : Int) ∧ (adM m : Int) ≤ (s.size : Int)) = true ∧ oA s m false
theorem wr_l (s : ByteArray) : msL.map (fun m => runW s m [(4, true)]) = msL.map (fun m => some (.int .i64 (-1), [], oL s m true ∧ True)) := by kernel_rfl
theorem wr_a (s : ByteArray) : msL.map (fun m => runW s m [(4, false), (0, true), (0, true)]) = msL.map (fun m => some (.int .i64 (-1), [], oA s m true)) := by kernel_rfl
theorem wr_b (s : ByteArray) : msL.map (fun m => runW s m [(4, false), (0, true), (0, false), (0, true), (0, true)]) = msL.map (fun m => some (.int .i64 (-1), [], oB s m true)) := by kernel_rfl
theorem wr_y (s : ByteArray) : msL.map (fun m => runW s m [(4, false), (0, true), (0, false), (0, true), (0, false), (0, true)]) = msL.map (fun m => some (.int .i64 (hexV (s.extract (alM m) (adM m)).data.toList 0), [], (s.extract (alM m) (adM m)).size ≤ 4 ∧ decide (0 ≤ (adM m : Int) ∧ (adM m : Int) ≤ (s.size : Int)) = true ∧ oB s m false)) := by kernel_rfl
theorem w0_y (s : ByteArray) : runW s 0 [(1, true)] = some (.int .i64 0, [], (s.data.toList == []) = true ∧ True) := by kernel_rfl
theorem w0_n (s : ByteArray) : runW s 0 [(1, false)] = some (.int .i64 (-1), [], (s.data.toList == []) = false ∧ True) := by kernel_rfl
theorem w1_y (s : ByteArray) : runW s 1 [(2, true)] = some (.int .i64 0, [], (s.data.toList == [32, 65]) = true ∧ True) := by kernel_rfl
theorem w1_n (s : ByteArray) : runW s 1 [(2, false)] = some (.int .i64 (-1), [], (s.data.toList == [32, 65]) = false ∧ True) := by kernel_rfl
end Go.Proofs.YtadkilofkpmpgaaGreatDoor
namespace Go.Proofs.YtadkilofkpmpgaaGreatDoor
open Go Go.RowKit
set_option maxRecDepth 100000
theorem shp_d4 : ((List.range 13).all fun m => decide ((shp (Int.ofNat m)).2.1.toNat ≤ 4)) = true := by decide
theorem written_calls (s : ByteArray) (m : Nat) (hm : m < 13) (w : World) : Calls Tryz.prog 31 #[.string s, .int .i64 (m : Int)] w fun e w' => e = .returned (.int .i64 (wrM m s.data.toList)) ∧ Below w.heap.size w w' := by
  have go : ∀ {q : Rk.Orc} {v : Value} {q' : Rk.Orc} {ob : Prop}, runW s m q = some (v, q', ob) → ob →
      Calls Tryz.prog 31 #[.string s, .int .i64 (m : Int)] w fun e w' => e = .returned v ∧ Below w.heap.size w w' :=
    fun {q v q' ob} h ho => (Rk.fn_good mixed okf_ok (callW_good _) 1 _ _ _ _ _ _ _ h w (Rk.noKn_knows w) ho).2
  by_cases h0 : m = 0
  · subst h0
    by_cases hs : s.data.toList = []
    · have : wrM 0 s.data.toList = 0 := by rw [hs]; decide
      rw [this]
      exact go (w0_y s) ⟨by rw [hs]; rfl, trivial⟩
    · have : wrM 0 s.data.toList = -1 := by
        unfold wrM wrL
        rw [if_neg]
        rintro ⟨h, _⟩
        exact hs (List.length_eq_zero_iff.1 h)
      rw [this]
      exact go (w0_n s) ⟨by simpa using hs, trivial⟩
  · by_cases h1 : m = 1
    · subst h1
      by_cases hs : s.data.toList = [32, 65]
      · have : wrM 1 s.data.toList = 0 := by rw [hs]; decide
        rw [this]
        exact go (w1_y s) ⟨by rw [hs]; rfl, trivial⟩
      · have : wrM 1 s.data.toList = -1 := by
          unfold wrM wrL
          rw [if_neg]
          rintro ⟨h, h2, _⟩
          have e1 : (shp ((1 : Nat) : Int)).1 = [32, 65] := by decide
          have e2 : (shp ((1 : Nat) : Int)).1.length + (shp ((1 : Nat) : Int)).2.1.toNat + (shp ((1 : Nat) : Int)).2.2.length = 2 := by decide
          have e3 : (shp ((1 : Nat) : Int)).1.length = 2 := by decide
          rw [e2] at h
          rw [e3, e1, List.take_of_length_le (by omega)] at h2
          exact hs h2
        rw [this]
        exact go (w1_n s) ⟨by simpa using hs, trivial⟩
    · have hmem := ms_mem m (by omega) hm
      have hsz := Lib.size_eq s
      have hd4 := of_decide_eq_true (List.all_eq_true.1 shp_d4 m (List.mem_range.2 hm))
      show Calls _ _ _ _ fun e w' => e = .returned (.int .i64 (wrL (shp (Int.ofNat m)).1 (shp (Int.ofNat m)).2.2 (shp (Int.ofNat m)).2.1.toNat s.data.toList)) ∧ _
      unfold wrL
      by_cases c1 : (s.size : Int) = llM m
      · have hl : s.data.toList.length = (shp (Int.ofNat m)).1.length + (shp (Int.ofNat m)).2.1.toNat + (shp (Int.ofNat m)).2.2.length := by
          unfold llM adM alM at c1
          omega
        have o1 : oL s m false := by
          show (!((s.size : Int) == llM m)) = false
          rw [beq_iff_eq.2 c1]; rfl
        have b1 : decide (0 ≤ (alM m : Int) ∧ (alM m : Int) ≤ (s.size : Int)) = true := decide_eq_true (by unfold alM; omega)
        have b2 : decide (0 ≤ (adM m : Int) ∧ (adM m : Int) ≤ (s.size : Int)) = true := decide_eq_true (by unfold adM alM; omega)
        have ea : (s.extract 0 (alM m)).data.toList = s.data.toList.take (shp (Int.ofNat m)).1.length := by rw [ext_list]; rfl
        have eb : (s.extract (adM m) s.size).data.toList = s.data.toList.drop ((shp (Int.ofNat m)).1.length + (shp (Int.ofNat m)).2.1.toNat) := by
          rw [ext_list, List.take_of_length_le (by rw [List.length_drop]; omega)]
          rfl
        have en : (s.extract (alM m) (adM m)).data.toList = (s.data.toList.drop (shp (Int.ofNat m)).1.length).take (shp (Int.ofNat m)).2.1.toNat := by
          rw [ext_list]
          have : adM m - alM m = (shp (Int.ofNat m)).2.1.toNat := by unfold adM; omega
          rw [this]
          rfl
        by_cases c2 : s.data.toList.take (shp (Int.ofNat m)).1.length = (shp (Int.ofNat m)).1
        · have o2 : oA s m false := ⟨by rw [ea, beq_iff_eq.2 c2]; rfl, b1, o1, trivial⟩
          by_cases c3 : s.data.toList.drop ((shp (Int.ofNat m)).1.length + (shp (Int.ofNat m)).2.1.toNat) = (shp (Int.ofNat m)).2.2
          · rw [if_pos ⟨hl, c2, c3⟩]
            have h := go (List.map_inj_left.1 (wr_y s) m hmem) ⟨by rw [Lib.size_eq, en, List.length_take]; omega, b2, by rw [eb, beq_iff_eq.2 c3]; rfl, b2, o2⟩
            rw [en] at h
            exact h
          · rw [if_neg (fun q => c3 q.2.2)]
            exact go (List.map_inj_left.1 (wr_b s) m hmem) ⟨by rw [eb, beq_eq_false_iff_ne.2 c3]; rfl, b2, o2⟩
        · rw [if_neg (fun q => c2 q.2.1)]
          exact go (List.map_inj_left.1 (wr_a s) m hmem) ⟨by rw [ea, beq_eq_false_iff_ne.2 c2]; rfl, b1, o1, trivial⟩
      · rw [if_neg (fun q => c1 (by have := q.1; unfold llM adM alM; omega))]
        exact go (List.map_inj_left.1 (wr_l s) m hmem) ⟨by show (!((s.size : Int) == llM m)) = true; rw [beq_eq_false_iff_ne.2 c1]; rfl, trivial⟩
end Go.Proofs.YtadkilofkpmpgaaGreatDoor
