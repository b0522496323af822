/- 'asm.Parse': its walk. -/
import Derived.Test.YtadkilofkpmpgaaGreatDoorPar
namespace Go.Proofs.YtadkilofkpmpgaaGreatDoor
open Go Go.RowKit
set_option maxRecDepth 100000
abbrev pv3 (r : Int × Int × Int) : Value := .tuple #[.agg #[.int .u8 r.1, .int .i64 r.2.1], .int .i64 r.2.2]
theorem boxAt.froz {W : World} {B : Nat} {cs : List Value} {t : TypeId} (h : boxAt W B cs t) (j : Nat) : W.frozen? ⟨B, j, none⟩ = false := by
  unfold boxAt at h
  simp [World.frozen?, h]
set_option maxHeartbeats 1600000 in
theorem par_short (s : ByteArray) (h : s.size < 3) (w : World) :
    Calls Tryz.prog 11 #[.string s] w fun e w' => e = .returned (pv3 (parseW s.data.toList)) ∧ Below w.heap.size w w' := by
  have hR : parseW s.data.toList = (0, 0, 11) := by rw [parseW, if_pos (.inl (by rw [← Lib.size_eq]; exact h))]
  rw [hR]
  have hB := (Below.refl w.heap.size w).alloc (Nat.le_refl _) (.cells #[.int .u8 0, .int .i64 0] 23)
  have d1 : decide ((s.size : Int) < 3) = true := decide_eq_true (by omega)
  clear hR h
  go_enter Tryz.func11, Tryz.ntmps11
  go_wp2
  refine bodyPost_ret (v := .tuple #[.agg #[.int .u8 0, .int .i64 0], .int .i64 11]) (by simp [results, Tryz.results11, go_sem]) rfl ⟨rfl, ?_⟩
  exact hB
theorem trim3 (s : ByteArray) (w : World) (h : ¬ s.size < 3) : Calls Tryz.prog 27 #[.string (s.extract 0 3), .string ⟨⟨azL⟩⟩] w fun e w' => e = .returned (.string ⟨(Lib.trimS (s.data.toList.take 3) azL).toArray⟩) ∧ Below w.heap.size w w' := by
  have h1 := trim_calls (s.extract 0 3) ⟨⟨azL⟩⟩ w (by rw [ByteArray.size_extract]; omega) (by decide) (fun j b hj => by
    have hall : (azL.all fun b => decide (b.toNat < 128)) = true := by decide
    exact of_decide_eq_true (List.all_eq_true.1 hall b (List.mem_of_getElem? hj)))
  have e : (s.extract 0 3).data.toList = s.data.toList.take 3 := by rw [ext_list]; rfl
  rw [e] at h1
  exact h1
set_option maxHeartbeats 1600000 in
theorem par_form (s : ByteArray) (h : ¬ s.size < 3) (haz : (s.data.toList.take 3).all isAZ = false) (w : World) :
    Calls Tryz.prog 11 #[.string s] w fun e w' => e = .returned (pv3 (parseW s.data.toList)) ∧ Below w.heap.size w w' := by
  have hR : parseW s.data.toList = (0, 0, 11) := by rw [parseW, if_pos (.inr haz)]
  rw [hR]
  have hB := (Below.refl w.heap.size w).alloc (Nat.le_refl _) (.cells #[.int .u8 0, .int .i64 0] 23)
  have hbx : boxAt (w.alloc (.cells #[.int .u8 0, .int .i64 0] 23)) w.heap.size [.int .u8 0, .int .i64 0] 23 := by
    unfold boxAt; rw [heap_alloc_new]
  have d1 : decide ((s.size : Int) < 3) = false := decide_eq_false (by omega)
  have c1 := fun W => trim3 s W h
  have hq : (⟨(Lib.trimS (s.data.toList.take 3) azL).toArray⟩ : ByteArray).toList.isEmpty = false := by
    have : Lib.trimS (s.data.toList.take 3) azL ≠ [] := fun e => by
      rw [(trimS_nil _).1 e] at haz
      cases haz
    rw [Rk.toList_data]
    cases hx : Lib.trimS (s.data.toList.take 3) azL with
    | nil => exact absurd hx this
    | cons a l => rfl
  generalize (⟨(Lib.trimS (s.data.toList.take 3) azL).toArray⟩ : ByteArray) = q at c1 hq
  have hsz : (3 : Int) ≤ s.size := by omega
  clear hR h haz
  go_enter Tryz.func11, Tryz.ntmps11
  go_wp2_with (go_at_call 27; refine (c1 _).mono ?_; rintro e w2 ⟨rfl, hw2⟩; replace hB := stepB' hB hw2; replace hbx := hbx.below hw2; have e3 := hbx.cell 0; have e4 := hbx.cell 1; have g3 := hbx.froz 0; have g4 := hbx.froz 1)
  refine bodyPost_ret (v := .tuple #[.agg #[.int .u8 0, .int .i64 0], .int .i64 11]) (by simp [results, Tryz.results11, go_sem, e3, e4]) rfl ⟨rfl, ?_⟩
  exact (hB.setCell (Nat.le_refl _) _).setCell (Nat.le_refl _) _
end Go.Proofs.YtadkilofkpmpgaaGreatDoor
