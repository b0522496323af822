/- What 'Read' answers where nothing is wrong; 'asm.Print' of a line that is right. -/
import Derived.Test.YtadkilofkpmpgaaGreatDoorRdC
import Derived.Test.YtadkilofkpmpgaaGreatDoorTxt
namespace Go.Proofs.YtadkilofkpmpgaaGreatDoor
open Go Go.RowKit
set_option maxRecDepth 100000
theorem readW_op (xs : List Int) (a : Int) (hb : ∀ x ∈ xs, 0 ≤ x ∧ x < 256) : 0 ≤ (readW xs a).1 ∧ (readW xs a).1 < 256 := by
  have h0 : 0 ≤ xs.getD 0 0 ∧ xs.getD 0 0 < 256 := by
    match xs, hb with
    | [], _ => decide
    | x :: r, hb => exact hb x (List.mem_cons_self ..)
  unfold readW
  repeat' split
  all_goals first | decide | exact h0
theorem readW_ok (xs : List Int) (a : Int) (hb : ∀ x ∈ xs, 0 ≤ x ∧ x < 256) (h : (readW xs a).2.2.2 = 0) :
    (opName (readW xs a).1).isEmpty = false ∧ 0 ≤ (readW xs a).2.1 ∧ (readW xs a).2.1 < limM (opMode (readW xs a).1) ∧ 1 ≤ (readW xs a).2.2.1 ∧ (readW xs a).2.2.1 ≤ 3 ∧ (readW xs a).2.2.1 ≤ xs.length ∧ (readW xs a).2.2.1 = lenM (opMode (readW xs a).1) := by
  have hbd : ∀ i, i < xs.length → 0 ≤ xs.getD i 0 ∧ xs.getD i 0 < 256 := fun i hi => by
    rw [List.getD, List.getElem?_eq_getElem hi]
    exact hb _ (List.getElem_mem hi)
  unfold readW at h ⊢
  split at h
  · cases h
  · rename_i h1
    rw [if_neg h1]
    split at h
    · cases h
    · rename_i h2
      rw [if_neg h2]
      split at h
      · cases h
      · rename_i h3
        rw [if_neg h3]
        split at h
        · cases h
        · rename_i h4
          rw [if_neg h4]
          split at h
          · cases h
          · rename_i h5
            rw [if_neg h5]
            have hL : 0 < xs.length := List.length_pos_iff.2 h2
            have b0 := hbd 0 hL
            have ho : (opName (xs.getD 0 0)).isEmpty = false := by simpa using h3
            have hm := mode_of _ b0.1 b0.2 ho
            have hlim : limM (opMode (xs.getD 0 0)) = (if opMode (xs.getD 0 0) = 12 then 65536 else if lenM (opMode (xs.getD 0 0)) = 1 then 1 else if lenM (opMode (xs.getD 0 0)) = 2 then 256 else 65536) := by
              have hall : (good.all fun b => decide (limM (opMode (Int.ofNat b)) = (if opMode (Int.ofNat b) = 12 then 65536 else if lenM (opMode (Int.ofNat b)) = 1 then 1 else if lenM (opMode (Int.ofNat b)) = 2 then 256 else 65536))) = true := by decide +kernel
              obtain ⟨k, hk⟩ := Int.eq_ofNat_of_zero_le b0.1
              rw [hk] at ho b0 ⊢
              exact of_decide_eq_true (List.all_eq_true.1 hall k (mem_good k (by omega) ho))
            refine ⟨ho, show 0 ≤ numR xs a by omega, ?_, hm.2.2.1, hm.2.2.2, show lenM (opMode (xs.getD 0 0)) ≤ (xs.length : Int) by omega, rfl⟩
            show numR xs a < limM (opMode (xs.getD 0 0))
            rw [hlim]
            unfold numR at h5 ⊢
            split
            · rename_i h12
              rw [if_pos h12] at h5
              omega
            · split
              · omega
              · split
                · rename_i e2
                  have := hbd 1 (by omega)
                  omega
                · have b1 := hbd 1 (by omega)
                  have b2 := hbd 2 (by omega)
                  omega
theorem print_inI (o n : Int) (h0 : 0 ≤ o) (h1 : o < 256) (ho : (opName o).isEmpty = false) (n0 : 0 ≤ n) (n1 : n < limM (opMode o)) (w : World) (hk : Rk.Knows kn5 w) :
    Calls Tryz.prog 7 #[.agg #[.int .u8 o, .int .i64 n]] w fun e w' => e = .returned (.tuple #[.string ⟨⟨textL o.toNat n⟩⟩, .int .i64 0]) ∧ Below w.heap.size w w' := by
  obtain ⟨k, rfl⟩ := Int.eq_ofNat_of_zero_le h0
  rw [Int.toNat_natCast, ← printL_text k n (by omega) ho n0 n1]
  exact print_in k n (by omega) ho n0 n1 w hk
theorem SlAt.of_cells {W : World} {g o : Nat} {xs : List Int} (h : CellsAt W g o xs) : SlAt W (some ⟨g, o, none⟩) xs := fun j x hj => ⟨g, o, rfl, h j x hj⟩
theorem SlAt.nil {W : World} {p : Option Addr} : SlAt W p [] := fun j x hj => by simp at hj
end Go.Proofs.YtadkilofkpmpgaaGreatDoor
