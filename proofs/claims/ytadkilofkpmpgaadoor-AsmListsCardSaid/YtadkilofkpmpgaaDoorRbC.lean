/- 'cochinealref05.Bytes': its contract: it answers as 'asm.Bytes' does. -/
import Derived.Test.YtadkilofkpmpgaaDoorRbW
namespace Go.Proofs.YtadkilofkpmpgaaDoor
open Go Go.RowKit
set_option maxRecDepth 100000
theorem rbyt_err (b : Nat) (n a e : Int) (h : b < 256) (he : bytE b n a = some e) (w : World) :
    Calls Tryd.prog 12 #[.agg #[.int .i64 (b : Int), .int .i64 n], .int .i64 a] w fun r w' => r = .returned (.tuple #[.slice none 0 0, .int .i64 e]) ∧ Below w.heap.size w w' := by
  have go : ∀ (er : Int) {q : Rk.Orc} {v : Value} {q' : Rk.Orc} {ob : Prop}, runRb (Int.ofNat b) n a er q = some (v, q', ob) → ob →
      Calls Tryd.prog 12 #[.agg #[.int .i64 (Int.ofNat b), .int .i64 n], .int .i64 a] w fun e w' => e = .returned v ∧ Below w.heap.size w w' :=
    fun er {q v q' ob} h ho => (Rk.fn_good mixed okf_ok (callB_good _ er) 1 _ _ _ _ _ _ _ h w (Rk.noKn_knows w) ho).2
  have hb0 : 0 ≤ Int.ofNat b := Int.natCast_nonneg b
  have hb1 : Int.ofNat b < 256 := by simp; omega
  rw [bytE_wrong] at he
  split at he
  · rename_i hw
    have pw : pW (Int.ofNat b) n 0 := ⟨⟨hb0, hb1, hw⟩, trivial⟩
    have ho : (opName (Int.ofNat b)).isEmpty = false := by
      unfold wrongI at hw
      split at hw
      · cases hw
      · rename_i h; simpa using h
    have hn : 0 ≤ n ∧ n < limM (opMode (Int.ofNat b)) := by
      unfold wrongI at hw
      rw [ho] at hw
      simp only [Bool.false_eq_true, if_false] at hw
      split at hw
      · cases hw
      · omega
    have hf := fnd_good (Int.ofNat b) hb0 hb1 ho
    have hm := mode_of (Int.ofNat b) hb0 hb1 ho
    split at he
    · rename_i ha
      cases he
      by_cases a0 : a < 0
      · exact go 0 (rb_a0 ..) ⟨decide_eq_true a0, pw⟩
      · by_cases a1 : 65535 < a
        · exact go 0 (rb_a1 ..) ⟨decide_eq_true a1, decide_eq_false a0, pw⟩
        · refine go 0 (rb_a2 ..) ⟨decide_eq_true ?_, decide_eq_false a1, decide_eq_false a0, pw⟩
          rw [hf.2.2.1, IntKind.wrap_i64]; omega
    · rename_i ha
      split at he
      · rename_i hr
        cases he
        have hlim : limM (opMode (Int.ofNat b)) = 65536 := by rw [hr.1]; decide
        have hz : lenM 12 = 2 := len_12
        exact rb_x (Int.ofNat b) n a _ 12 hb0 hb1 (Prod.ext rfl (by rw [hf.2.2.1]; exact hr.1)) hw hz rfl hn.1 (by omega) hr.2 (by omega) (by rw [hr.1, hz] at ha; omega) w
      · cases he
  · rename_i hw
    cases he
    unfold wrongI at hw
    by_cases ho : (opName (Int.ofNat b)).isEmpty = true
    · have e13 : wrongI (Int.ofNat b) n = 13 := by unfold wrongI; rw [if_pos ho]
      rw [e13]
      exact go 13 (rb_13 ..) ⟨⟨hb0, hb1, e13⟩, trivial⟩
    · have e10 : wrongI (Int.ofNat b) n = 10 := by
        unfold wrongI
        rw [if_neg ho] at hw ⊢
        split at hw
        · rename_i hn; rw [if_pos hn]
        · exact absurd rfl hw
      rw [e10]
      exact go 10 (rb_10 ..) ⟨⟨hb0, hb1, e10⟩, trivial⟩
theorem rbyt_ok (b : Nat) (n a : Int) (h : b < 256) (he : bytE b n a = none) (w : World) :
    Calls Tryd.prog 12 #[.agg #[.int .i64 (b : Int), .int .i64 n], .int .i64 a] w fun r w' => ∃ g cap, r = .returned (.tuple #[.slice (some ⟨g, 0, none⟩) (lenM (opMode (Int.ofNat b))).toNat cap, .int .i64 0]) ∧ CellsAt w' g 0 (bytI b n a) ∧ Below w.heap.size w w' := by
  have hg := good_len b n a h he
  have hb0 : 0 ≤ Int.ofNat b := Int.natCast_nonneg b
  have hb1 : Int.ofNat b < 256 := by simp; omega
  have hL := bytI_len b n a h he
  have fin : ∀ (xs : List Int), bytI b n a = xs → Calls Tryd.prog 12 #[.agg #[.int .i64 (Int.ofNat b), .int .i64 n], .int .i64 a] w (fun e w' => ∃ v, e = .returned (.tuple #[v, .int .i64 0]) ∧ w'.ownsRow w.heap.size 5 1 v xs.length (xs.map (Value.int .u8)) ∧ Below w.heap.size w w') →
      Calls Tryd.prog 12 #[.agg #[.int .i64 (b : Int), .int .i64 n], .int .i64 a] w fun r w' => ∃ g cap, r = .returned (.tuple #[.slice (some ⟨g, 0, none⟩) (lenM (opMode (Int.ofNat b))).toNat cap, .int .i64 0]) ∧ CellsAt w' g 0 (bytI b n a) ∧ Below w.heap.size w w' := by
    intro xs hxs hc
    refine hc.mono fun r w' ⟨v, hr, hown, hB⟩ => ?_
    have hl : xs.length = (lenM (opMode (Int.ofNat b))).toNat := by rw [← hxs]; exact hL
    obtain ⟨g, cap, rfl, hcl⟩ := row_cells hown (by omega)
    refine ⟨g, cap, by rw [← hl]; exact hr, fun j x hj => hcl j _ ?_, hB⟩
    rw [List.getElem?_map, ← hxs, hj]
    rfl
  have hf := fnd_good (Int.ofNat b) hb0 hb1 hg.1
  rw [bytE_wrong] at he
  split at he
  · rename_i hw
    split at he
    · cases he
    · rename_i ha
      split at he
      · cases he
      · rename_i hr
        have hn : 0 ≤ n ∧ n < limM (opMode (Int.ofNat b)) := by
          unfold wrongI at hw
          rw [hg.1] at hw
          simp only [Bool.false_eq_true, if_false] at hw
          split at hw
          · cases hw
          · omega
        have hlim : (lenM (opMode (Int.ofNat b)) = 2 ∧ limM (opMode (Int.ofNat b)) = 256) ∨ lenM (opMode (Int.ofNat b)) ≠ 2 ∨ opMode (Int.ofNat b) = 12 := by
          have hall : (good.all fun b => decide ((lenM (opMode (Int.ofNat b)) = 2 ∧ limM (opMode (Int.ofNat b)) = 256) ∨ lenM (opMode (Int.ofNat b)) ≠ 2 ∨ opMode (Int.ofNat b) = 12)) = true := by decide +kernel
          exact of_decide_eq_true (List.all_eq_true.1 hall b (mem_good b h hg.1))
        have hlim2 : limM (opMode (Int.ofNat b)) ≤ 65536 := by
          have hall : (good.all fun b => decide (limM (opMode (Int.ofNat b)) ≤ 65536)) = true := by decide +kernel
          exact of_decide_eq_true (List.all_eq_true.1 hall b (mem_good b h hg.1))
        by_cases h12 : opMode (Int.ofNat b) = 12
        · have hz : lenM 12 = 2 := len_12
          rw [h12, hz] at ha
          refine fin [(b : Int), (n - (a + 2)) % 256] ?_ (rb_r (Int.ofNat b) n a _ 12 hb0 hb1 (Prod.ext rfl (by rw [hf.2.2.1]; exact h12)) hw hz rfl hn.1 (by omega) (by omega) (by omega) (by omega) w)
          unfold bytI
          rw [if_pos h12]
          simp [outI, List.range_succ]
        · have hfe : fnd (Int.ofNat b) = ((fnd (Int.ofNat b)).1, opMode (Int.ofNat b)) := Prod.ext rfl hf.2.2.1
          have hz3 : lenM (opMode (Int.ofNat b)) = 1 ∨ lenM (opMode (Int.ofNat b)) = 2 ∨ lenM (opMode (Int.ofNat b)) = 3 := by omega
          rcases hz3 with hz | hz | hz
          · refine fin [(b : Int)] ?_ (rb_1 (Int.ofNat b) n a _ _ hb0 hb1 hfe hw hz h12 (by omega) (by omega) w)
            unfold bytI
            rw [if_neg h12, hz]
            rfl
          · refine fin [(b : Int), n] ?_ (rb_2 (Int.ofNat b) n a _ _ hb0 hb1 hfe hw hz h12 hn.1 (by omega) (by omega) (by omega) w)
            unfold bytI
            rw [if_neg h12, hz]
            have e1 : n % 256 = n := by omega
            simp [outI, List.range_succ, e1]
          · refine fin [(b : Int), n % 256, n / 256] ?_ (rb_3 (Int.ofNat b) n a _ _ hb0 hb1 hfe hw hz h12 hn.1 (by omega) (by omega) (by omega) w)
            unfold bytI
            rw [if_neg h12, hz]
            have e1 : n / 256 % 256 = n / 256 := by omega
            simp [outI, List.range_succ, e1]
  · cases he
end Go.Proofs.YtadkilofkpmpgaaDoor
