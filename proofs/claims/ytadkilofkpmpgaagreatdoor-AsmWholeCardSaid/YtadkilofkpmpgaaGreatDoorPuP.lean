/- 'strconv.ParseUint', the public one, to the base 16. -/
import Derived.Test.YtadkilofkpmpgaaGreatDoorPu
namespace Go.Proofs.YtadkilofkpmpgaaGreatDoor
open Go Go.RowKit
set_option maxRecDepth 100000
/-- What is known of the error's variable. -/
def ErrV (w : World) : Prop := ∃ ev, w.cell? ⟨6, 0, none⟩ = some ev ∧ (ev = .nilIface ∨ ∃ te pe, ev = .iface te pe)
theorem ErrV.below {w w' : World} (h : ErrV w) (hb : Below w.heap.size w w') : ErrV w' := by
  obtain ⟨ev, h1, h2⟩ := h
  exact ⟨ev, (hb.cell (p := ⟨6, 0, none⟩) (World.block_lt_of_cell? w _ h1)).trans h1, h2⟩
theorem bytesWorld_below (w : World) (e : TypeId) (s : ByteArray) : Below w.heap.size w (Lib.bytesWorld w e s) :=
  ⟨rfl, rfl, rfl, by rw [Lib.bytesWorld_size]; omega, fun j hj => Lib.bytesWorld_at_old w e s j hj⟩
theorem ipu_below (t : ByteArray) (hne : t.size ≠ 0) (hmax : t.size ≤ 4) (w : World) :
    Calls Tryz.prog 84 #[.string t, .int .i64 16, .int .i64 32] w fun e w' => e = .returned (puV (hexV t.data.toList 0)) ∧ Below w.heap.size w w' :=
  (ipu_calls t hne hmax w).mono fun e w' ⟨he, hw⟩ => ⟨he, by rw [hw]; exact bytesWorld_below _ _ t⟩
set_option maxHeartbeats 1600000 in
theorem pu_ok (t : ByteArray) (hne : t.size ≠ 0) (hmax : t.size ≤ 4) (hv : 0 ≤ hexV t.data.toList 0) (w : World) :
    Calls Tryz.prog 58 #[.string t, .int .i64 16, .int .i64 32] w fun e w' => e = .returned (.tuple #[.int .u64 (hexV t.data.toList 0), .nilIface]) ∧ Below w.heap.size w w' := by
  have c1 := fun W => ipu_below t hne hmax W
  have e1 : puV (hexV t.data.toList 0) = .tuple #[.int .u64 (hexV t.data.toList 0), .nilIface] := by rw [puV, if_neg (by omega)]
  rw [e1] at c1
  generalize hexV t.data.toList 0 = v at c1
  clear hne hmax hv e1
  have hB := Below.refl w.heap.size w
  go_enter Tryz.func58, Tryz.ntmps58
  go_wp2_with (go_at_call 84; refine (c1 _).mono ?_; rintro e w2 ⟨rfl, hw2⟩; replace hB := stepB' hB hw2)
  go_ret2
  exact ⟨rfl, hB⟩
set_option maxHeartbeats 1600000 in
theorem pu_no (t : ByteArray) (hne : t.size ≠ 0) (hmax : t.size ≤ 4) (hv : hexV t.data.toList 0 < 0) (w : World) (he : ErrV w) :
    Calls Tryz.prog 58 #[.string t, .int .i64 16, .int .i64 32] w fun e w' => ∃ N, e = .returned (.tuple #[.int .u64 0, .iface 155 (.pointer (some ⟨N, 0, none⟩))]) ∧ Below w.heap.size w w' := by
  have c1 := fun W => ipu_below t hne hmax W
  have e1 : puV (hexV t.data.toList 0) = .tuple #[.int .u64 0, .iface 152 (.int .i64 2)] := by rw [puV, if_pos hv]
  rw [e1] at c1
  have c2 : ∀ W, Below w.heap.size w W → Calls Tryz.prog 85 #[.string ⟨#[80, 97, 114, 115, 101, 85, 105, 110, 116]⟩, .string t, .int .i64 16, .int .i64 32, .iface 152 (.int .i64 2)] W fun e w' => ∃ N, e = .returned (.iface 155 (.pointer (some ⟨N, 0, none⟩))) ∧ Below W.heap.size W w' := fun W hW => by
    obtain ⟨ev, h1, h2⟩ := he.below hW
    exact (toErr_calls ⟨#[80, 97, 114, 115, 101, 85, 105, 110, 116]⟩ t 16 32 ev W (by omega) h1 h2).mono fun e w' ⟨N, he, _, _, hb⟩ => ⟨N, he, hb⟩
  clear hne hmax hv e1
  have hB := Below.refl w.heap.size w
  go_enter Tryz.func58, Tryz.ntmps58
  go_wp2_with (first
    | (go_at_call 84; refine (c1 _).mono ?_; rintro e w2 ⟨rfl, hw2⟩; replace hB := stepB' hB hw2)
    | (go_at_call 85; refine (c2 _ hB).mono ?_; rintro e w3 ⟨N, rfl, hw3⟩; replace hB := stepB' hB hw3))
  go_ret2
  exact ⟨N, rfl, hB⟩
end Go.Proofs.YtadkilofkpmpgaaGreatDoor
