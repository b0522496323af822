/- 'cochinealref05.digits', 'cochinealref05.Text': a line's text, as 'asm.Print' writes it. -/
import Derived.Test.YtadkilofkpmpgaaGreatDoorFnd
import Derived.Test.YtadkilofkpmpgaaGreatDoorDig
import Derived.Test.YtadkilofkpmpgaaGreatDoorNm
namespace Go.Proofs.YtadkilofkpmpgaaGreatDoor
open Go Go.RowKit
set_option maxRecDepth 100000
def hexB : ByteArray := ⟨#[48, 49, 50, 51, 52, 53, 54, 55, 56, 57, 65, 66, 67, 68, 69, 70]⟩
abbrev r16 (n : Int) : Int := n.tmod 16
abbrev q16 (n : Int) : Int := IntKind.i64.wrap (n.tdiv 16)
abbrev xd (n : Int) : ByteArray := hexB.extract (r16 n).toNat (IntKind.i64.wrap (r16 n + 1)).toNat
abbrev obD (n : Int) (out : ByteArray) (ob : Prop) : Prop :=
  decide ((((xd n).size + out.size : Nat) : Int) ≤ 9223372036854775807) = true ∧ decide (0 ≤ r16 n ∧ r16 n ≤ ((IntKind.i64.wrap (r16 n + 1)).toNat : Int)) = true ∧ decide (0 ≤ IntKind.i64.wrap (r16 n + 1) ∧ IntKind.i64.wrap (r16 n + 1) ≤ (hexB.size : Int)) = true ∧ ob
noncomputable abbrev runDg (n k : Int) (orc : Rk.Orc) : Option (Value × Rk.Orc × Prop) := Rk.fn Tryz.prog okf Rk.noKn (Rk.ofSpec Rk.noSpec) 100 1 26 #[.int .i64 n, .int .i64 k] orc True
abbrev e1 (n : Int) : ByteArray := xd n ++ ⟨#[]⟩
abbrev e2 (n : Int) : ByteArray := xd (q16 n) ++ e1 n
abbrev e3 (n : Int) : ByteArray := xd (q16 (q16 n)) ++ e2 n
abbrev e4 (n : Int) : ByteArray := xd (q16 (q16 (q16 n))) ++ e3 n
abbrev ob2 (n : Int) : Prop := obD (q16 n) (e1 n) (obD n ⟨#[]⟩ True)
abbrev ob4 (n : Int) : Prop := obD (q16 (q16 (q16 n))) (e3 n) (obD (q16 (q16 n)) (e2 n) (ob2 n))
theorem dg_2 (n : Int) : runDg n 2 [(1, true), (0, true), (0, true), (1, true), (0, true), (0, true)] = some (.string (e2 n), [], ob2 n) := by kernel_rfl
theorem dg_4 (n : Int) : runDg n 4 [(1, true), (0, true), (0, true), (1, true), (0, true), (0, true), (1, true), (0, true), (0, true), (1, true), (0, true), (0, true)] = some (.string (e4 n), [], ob4 n) := by kernel_rfl
theorem hexB_all : ((List.range 16).all fun k => (hexB.extract k (k + 1)).data.toList == [hu (Int.ofNat k)]) = true := by decide +kernel
theorem xd_is (n : Int) (h0 : 0 ≤ n) (_h1 : n < 65536) : xd n = ⟨⟨[hu (n % 16)]⟩⟩ := by
  have e : r16 n = n % 16 := Int.tmod_eq_emod_of_nonneg h0
  obtain ⟨k, hk⟩ := Int.eq_ofNat_of_zero_le (show 0 ≤ n % 16 by omega)
  have h := beq_iff_eq.1 (List.all_eq_true.1 hexB_all k (List.mem_range.2 (by omega)))
  have e2 : (IntKind.i64.wrap (r16 n + 1)).toNat = k + 1 := by rw [e, hk, IntKind.wrap_i64]; omega
  show hexB.extract (r16 n).toNat (IntKind.i64.wrap (r16 n + 1)).toNat = _
  rw [e2, e, hk]
  have e3 : ((k : Int)).toNat = k := by omega
  rw [e3]
  apply ByteArray.ext
  apply Array.ext'
  exact h
theorem q16_is (n : Int) (h0 : 0 ≤ n) (h1 : n < 65536) : q16 n = n / 16 := by
  show IntKind.i64.wrap (n.tdiv 16) = _
  rw [Int.tdiv_eq_ediv_of_nonneg h0, IntKind.wrap_i64]; omega
theorem obD_of (n : Int) (out : ByteArray) (ob : Prop) (h0 : 0 ≤ n) (h1 : n < 65536) (hs : out.size ≤ 10) (h : ob) : obD n out ob := by
  have e : r16 n = n % 16 := Int.tmod_eq_emod_of_nonneg h0
  have e2 : IntKind.i64.wrap (r16 n + 1) = n % 16 + 1 := by rw [e, IntKind.wrap_i64]; omega
  have e3 : (hexB.size : Int) = 16 := rfl
  refine ⟨decide_eq_true ?_, decide_eq_true ?_, decide_eq_true ?_, h⟩
  · rw [xd_is n h0 h1]
    have : (⟨⟨[hu (n % 16)]⟩⟩ : ByteArray).size = 1 := rfl
    omega
  · rw [e2, e]; omega
  · rw [e2, e3]; omega
theorem dig2_calls (n : Int) (h0 : 0 ≤ n) (h1 : n < 65536) (w : World) : Calls Tryz.prog 26 #[.int .i64 n, .int .i64 2] w fun e w' => e = .returned (.string ⟨⟨digS 2 n⟩⟩) ∧ Below w.heap.size w w' := by
  have a1 := q16_is n h0 h1
  have x0 := xd_is n h0 h1
  have x1 : xd (q16 n) = ⟨⟨[hu (n / 16 % 16)]⟩⟩ := by rw [a1]; exact xd_is (n / 16) (by omega) (by omega)
  have z1 : (⟨⟨[hu (n % 16)]⟩⟩ : ByteArray).size = 1 := rfl
  have s1 : e1 n = ⟨⟨[hu (n % 16)]⟩⟩ := by show xd n ++ _ = _; rw [x0]; rfl
  have s2 : e2 n = ⟨⟨digS 2 n⟩⟩ := by show xd (q16 n) ++ e1 n = _; rw [x1, s1]; rfl
  have h := Rk.calls_owed mixed okf_ok Rk.noSpec_good (dg_2 n) (obD_of _ _ _ (by rw [a1]; omega) (by rw [a1]; omega) (by rw [s1, z1]; decide) (obD_of _ _ _ h0 h1 (by decide) trivial)) w (Rk.noKn_knows w)
  rw [s2] at h
  exact h
theorem dig4_calls (n : Int) (h0 : 0 ≤ n) (h1 : n < 65536) (w : World) : Calls Tryz.prog 26 #[.int .i64 n, .int .i64 4] w fun e w' => e = .returned (.string ⟨⟨digS 4 n⟩⟩) ∧ Below w.heap.size w w' := by
  have a1 := q16_is n h0 h1
  have a2 : q16 (q16 n) = n / 16 / 16 := by rw [a1]; exact q16_is (n / 16) (by omega) (by omega)
  have a3 : q16 (q16 (q16 n)) = n / 16 / 16 / 16 := by rw [a2]; exact q16_is (n / 16 / 16) (by omega) (by omega)
  have x0 := xd_is n h0 h1
  have x1 : xd (q16 n) = ⟨⟨[hu (n / 16 % 16)]⟩⟩ := by rw [a1]; exact xd_is (n / 16) (by omega) (by omega)
  have x2 : xd (q16 (q16 n)) = ⟨⟨[hu (n / 16 / 16 % 16)]⟩⟩ := by rw [a2]; exact xd_is (n / 16 / 16) (by omega) (by omega)
  have x3 : xd (q16 (q16 (q16 n))) = ⟨⟨[hu (n / 16 / 16 / 16 % 16)]⟩⟩ := by rw [a3]; exact xd_is (n / 16 / 16 / 16) (by omega) (by omega)
  have z1 : (⟨⟨[hu (n % 16)]⟩⟩ : ByteArray).size = 1 := rfl
  have s1 : e1 n = ⟨⟨[hu (n % 16)]⟩⟩ := by show xd n ++ _ = _; rw [x0]; rfl
  have s2 : e2 n = ⟨⟨digS 2 n⟩⟩ := by show xd (q16 n) ++ e1 n = _; rw [x1, s1]; rfl
  have s3 : e3 n = ⟨⟨digS 3 n⟩⟩ := by show xd (q16 (q16 n)) ++ e2 n = _; rw [x2, s2]; rfl
  have s4 : e4 n = ⟨⟨digS 4 n⟩⟩ := by show xd (q16 (q16 (q16 n))) ++ e3 n = _; rw [x3, s3]; rfl
  have z2 : (⟨⟨digS 2 n⟩⟩ : ByteArray).size = 2 := rfl
  have z3 : (⟨⟨digS 3 n⟩⟩ : ByteArray).size = 3 := rfl
  have h := Rk.calls_owed mixed okf_ok Rk.noSpec_good (dg_4 n) (obD_of _ _ _ (by rw [a3]; omega) (by rw [a3]; omega) (by rw [s3, z3]; decide) (obD_of _ _ _ (by rw [a2]; omega) (by rw [a2]; omega) (by rw [s2, z2]; decide) (obD_of _ _ _ (by rw [a1]; omega) (by rw [a1]; omega) (by rw [s1, z1]; decide) (obD_of _ _ _ h0 h1 (by decide) trivial)))) w (Rk.noKn_knows w)
  rw [s4] at h
  exact h
def callT : Rk.Call := fun f args q ob => match f, args with
  | 22, ⟨[.int .i64 x]⟩ => some (.tuple ⟨[.int .i64 (fnd x).1, .int .i64 (fnd x).2]⟩, q, ob)
  | 24, ⟨[.int .i64 r]⟩ => some (.string ⟨⟨refName r⟩⟩, q, (0 ≤ r ∧ r < 56) ∧ ob)
  | 26, ⟨[.int .i64 n, .int .i64 2]⟩ => some (.string ⟨⟨digS 2 n⟩⟩, q, (0 ≤ n ∧ n < 65536) ∧ ob)
  | 26, ⟨[.int .i64 n, .int .i64 4]⟩ => some (.string ⟨⟨digS 4 n⟩⟩, q, (0 ≤ n ∧ n < 65536) ∧ ob)
  | _, _ => none
theorem callT_good (kn : Rk.Kn) : Rk.Good Tryz.prog kn callT := by
  intro f args q ob v q' ob' h w hk ho
  unfold callT at h
  split at h
  all_goals first | cases h | skip
  · exact ⟨ho, find_calls _ w⟩
  · exact ⟨ho.2, name_calls _ ho.1.1 ho.1.2 w⟩
  · exact ⟨ho.2, dig2_calls _ ho.1.1 ho.1.2 w⟩
  · exact ⟨ho.2, dig4_calls _ ho.1.1 ho.1.2 w⟩
/-- A line's text. -/
def textL (b : Nat) (n : Int) : List UInt8 := opName (Int.ofNat b) ++ ((shp (opMode (Int.ofNat b))).1 ++ (digS (digs b).toNat n ++ (shp (opMode (Int.ofNat b))).2.2))
noncomputable abbrev runTx (b : Nat) (n : Int) : Option (Value × Rk.Orc × Prop) := Rk.fn Tryz.prog okf Rk.noKn callT 60 2 10 #[.agg ⟨[.int .i64 (Int.ofNat b), .int .i64 n]⟩] [] True
abbrev obN (b : Nat) : Prop := (0 ≤ (fnd (Int.ofNat b)).1 ∧ (fnd (Int.ofNat b)).1 < 56) ∧ True
theorem tx_0 (n : Int) : good0.map (fun b => runTx b n) = good0.map (fun b => some (.string ⟨⟨textL b n⟩⟩, [], obN b)) := by kernel_rfl
theorem tx_2 (n : Int) : good2.map (fun b => runTx b n) = good2.map (fun b => some (.string ⟨⟨textL b n⟩⟩, [], (0 ≤ n ∧ n < 65536) ∧ obN b)) := by kernel_rfl
theorem tx_4 (n : Int) : good4.map (fun b => runTx b n) = good4.map (fun b => some (.string ⟨⟨textL b n⟩⟩, [], (0 ≤ n ∧ n < 65536) ∧ obN b)) := by kernel_rfl
theorem text_calls (b : Nat) (n : Int) (h : b < 256) (ho : (opName (Int.ofNat b)).isEmpty = false) (h0 : 0 ≤ n) (h1 : n < limM (opMode (Int.ofNat b))) (w : World) :
    Calls Tryz.prog 10 #[.agg #[.int .i64 (b : Int), .int .i64 n]] w fun e w' => e = .returned (.string ⟨⟨textL b n⟩⟩) ∧ Below w.heap.size w w' := by
  have hm := mem_good b h ho
  have hd := List.all_eq_true.1 digs_all b hm
  simp only [Bool.or_eq_true, Bool.and_eq_true, beq_iff_eq] at hd
  have hf := fnd_good (Int.ofNat b) (Int.natCast_nonneg b) (by simp; omega) ho
  have hN : obN b := ⟨⟨hf.1, hf.2.1⟩, trivial⟩
  rcases hd with (⟨d, l⟩ | ⟨d, l⟩) | ⟨d, l⟩
  · exact (Rk.fn_good mixed okf_ok (callT_good _) 2 _ _ _ _ _ _ _ (List.map_inj_left.1 (tx_0 n) b (List.mem_filter.2 ⟨hm, beq_iff_eq.2 d⟩)) w (Rk.noKn_knows w) hN).2
  · exact (Rk.fn_good mixed okf_ok (callT_good _) 2 _ _ _ _ _ _ _ (List.map_inj_left.1 (tx_2 n) b (List.mem_filter.2 ⟨hm, beq_iff_eq.2 d⟩)) w (Rk.noKn_knows w) ⟨⟨h0, by omega⟩, hN⟩).2
  · exact (Rk.fn_good mixed okf_ok (callT_good _) 2 _ _ _ _ _ _ _ (List.map_inj_left.1 (tx_4 n) b (List.mem_filter.2 ⟨hm, beq_iff_eq.2 d⟩)) w (Rk.noKn_knows w) ⟨⟨h0, by omega⟩, hN⟩).2
theorem printL_text (b : Nat) (n : Int) (h : b < 256) (ho : (opName (Int.ofNat b)).isEmpty = false) (h0 : 0 ≤ n) (h1 : n < limM (opMode (Int.ofNat b))) : printL b n = textL b n := by
  have hm := mem_good b h ho
  have hd := List.all_eq_true.1 digs_all b hm
  simp only [Bool.or_eq_true, Bool.and_eq_true, beq_iff_eq] at hd
  have hz : (good0.all fun b => (shp (opMode (Int.ofNat b))).2.2 == []) = true := by decide +kernel
  unfold printL textL
  rcases hd with (⟨d, l⟩ | ⟨d, l⟩) | ⟨d, l⟩
  · have := beq_iff_eq.1 (List.all_eq_true.1 hz b (List.mem_filter.2 ⟨hm, beq_iff_eq.2 d⟩))
    rw [if_pos d, lineT0, d, this]
    simp [digS]
  · rw [if_neg (by omega), lineT, d, show (2 : Int).toNat = 2 from rfl, ← digS_nd2 n h0 (by omega)]
    simp
  · rw [if_neg (by omega), lineT, d, show (4 : Int).toNat = 4 from rfl, ← digS_nd4 n h0 (by omega)]
    simp
theorem textL_len (b : Nat) (n : Int) (h : b < 256) (ho : (opName (Int.ofNat b)).isEmpty = false) : (textL b n).length ≤ 11 := by
  have hd : ∀ (k : Nat) (m : Int), (digS k m).length = k := by
    intro k
    induction k with
    | zero => intro m; rfl
    | succ k ih => intro m; simp [digS, ih]
  have hall : (good.all fun b => decide ((opName (Int.ofNat b)).length + ((shp (opMode (Int.ofNat b))).1.length + ((digs b).toNat + (shp (opMode (Int.ofNat b))).2.2.length)) ≤ 11)) = true := by decide +kernel
  have := of_decide_eq_true (List.all_eq_true.1 hall b (mem_good b h ho))
  simp only [textL, List.length_append, hd]
  exact this
end Go.Proofs.YtadkilofkpmpgaaGreatDoor
