/- A line's bytes: what is known of them, as numbers. -/
import Derived.Test.YtadkilofkpmpgaaGreatDoorBytO
import Derived.Test.YtadkilofkpmpgaaGreatDoorAw5
namespace Go.Proofs.YtadkilofkpmpgaaGreatDoor
open Go Go.RowKit
set_option maxRecDepth 100000
theorem of_some (b : Int) (h0 : 0 ≤ b) (h1 : b < 256) : ∃ s m k g, ∀ W : World, Calls Tryz.prog 40 #[.int .u8 b] W fun e w' => e = .returned (.tuple #[.agg #[.string s, .int .i64 m, .int .i64 k], .int .i64 g]) ∧ Below W.heap.size W w' := by
  have h := fun W => of_calls b h0 h1 W
  unfold ofV at h
  split at h
  · exact ⟨_, _, _, _, h⟩
  · exact ⟨_, _, _, _, h⟩
theorem byt_errL (b : Nat) (n a e : Int) (h : b < 256) (he : bytE b n a = some e) (w : World) (hk : Rk.Knows kn5 w) :
    Calls Tryz.prog 17 #[.agg #[.int .u8 (b : Int), .int .i64 n], .int .i64 a] w fun r w' => r = .returned (.tuple #[.slice none 0 0, .int .i64 e]) ∧ Below w.heap.size w w' := byt_err b n a e h he w hk
/-- The bytes of a line at an address, as numbers. -/
def outI (b n : Int) (i : Nat) : List Int := b :: (List.range i).map fun k => n / 256 ^ k % 256
def bytI (b : Nat) (n a : Int) : List Int := if opMode (Int.ofNat b) = 12 then outI b (n - (a + 2)) 1 else outI b n ((lenM (opMode (Int.ofNat b))).toNat - 1)
theorem outV_I (b n : Int) (i : Nat) : outV b n i = (outI b n i).map (Value.int .u8) := by
  simp only [outV, outI, List.map_cons, List.map_map]
  rfl
theorem bytL_I (b : Nat) (n a : Int) : bytL b n a = (bytI b n a).map (Value.int .u8) := by
  unfold bytL bytI
  split <;> exact outV_I _ _ _
/-- From a cell on these bytes lie. -/
abbrev CellsAt (W : World) (g o : Nat) (xs : List Int) : Prop := ∀ j x, xs[j]? = some x → W.cell? ⟨g, o + j, none⟩ = some (.int .u8 x)
theorem CellsAt.below {W W2 : World} {g o : Nat} {xs : List Int} (h : CellsAt W g o xs) (hb : Below W.heap.size W W2) : CellsAt W2 g o xs := fun j x hj =>
  (hb.cell (p := ⟨g, o + j, none⟩) (World.block_lt_of_cell? W _ (h j x hj))).trans (h j x hj)
theorem CellsAt.alloc {W : World} {g o : Nat} {xs : List Int} (h : CellsAt W g o xs) (ob : Obj) : CellsAt (W.alloc ob) g o xs := h.below ((Below.refl W.heap.size W).alloc (Nat.le_refl _) ob)
theorem good_len (b : Nat) (n a : Int) (h : b < 256) (he : bytE b n a = none) : (opName (Int.ofNat b)).isEmpty = false ∧ 0 ≤ opMode (Int.ofNat b) ∧ opMode (Int.ofNat b) < 13 ∧ 1 ≤ lenM (opMode (Int.ofNat b)) ∧ lenM (opMode (Int.ofNat b)) ≤ 3 := by
  unfold bytE at he
  split at he
  · cases he
  · rename_i ho
    have ho' : (opName (Int.ofNat b)).isEmpty = false := by simpa using ho
    have hmo := List.all_eq_true.1 modes_ok b (mem_good b h ho')
    simp only [Bool.and_eq_true, decide_eq_true_eq] at hmo
    exact ⟨ho', hmo.1.1.1, hmo.1.1.2, hmo.1.2, hmo.2⟩
theorem byt_okC (b : Nat) (n a : Int) (h : b < 256) (he : bytE b n a = none) (w : World) (hk : Rk.Knows kn5 w) :
    Calls Tryz.prog 17 #[.agg #[.int .u8 (b : Int), .int .i64 n], .int .i64 a] w fun r w' => ∃ g cap, r = .returned (.tuple #[.slice (some ⟨g, 0, none⟩) (lenM (opMode (Int.ofNat b))).toNat cap, .int .i64 0]) ∧ CellsAt w' g 0 (bytI b n a) ∧ Below w.heap.size w w' :=
  (byt_ok b n a h he w hk).mono fun r w' ⟨v, hr, hown, hB⟩ => by
    have hg := good_len b n a h he
    obtain ⟨g, cap, rfl, hc⟩ := row_cells hown (by omega)
    refine ⟨g, cap, hr, fun j x hj => hc j _ ?_, hB⟩
    rw [bytL_I, List.getElem?_map, hj]
    rfl
theorem bytI_len (b : Nat) (n a : Int) (h : b < 256) (he : bytE b n a = none) : (bytI b n a).length = (lenM (opMode (Int.ofNat b))).toNat := by
  have hg := good_len b n a h he
  unfold bytI
  split
  · rename_i h12
    rw [h12]; rfl
  · simp only [outI, List.length_cons, List.length_map, List.length_range]
    omega
theorem bytI_0 (b : Nat) (n a : Int) : (bytI b n a)[0]? = some (b : Int) := by
  unfold bytI
  split <;> rfl
theorem of_good (b : Nat) (h : b < 256) (ho : (opName (Int.ofNat b)).isEmpty = false) (W : World) : Calls Tryz.prog 40 #[.int .u8 (b : Int)] W fun e w' => e = .returned (.tuple #[.agg #[.string ⟨⟨opName (b : Int)⟩⟩, .int .i64 (opMode (b : Int)), .int .i64 (opKind (b : Int))], .int .i64 0]) ∧ Below W.heap.size W w' := by
  have hc := of_calls (b : Int) (by omega) (by omega) W
  unfold ofV at hc
  split at hc
  · rename_i he
    have : opName (Int.ofNat b) = [] := he
    rw [this] at ho
    cases ho
  · exact hc
theorem bytE_pos (b : Nat) (n a e : Int) (h : bytE b n a = some e) : ¬ e = 0 := by
  unfold bytE at h
  split at h
  · cases h; decide
  · split at h
    · cases h; decide
    · split at h
      · cases h; decide
      · split at h
        · cases h; decide
        · cases h
end Go.Proofs.YtadkilofkpmpgaaGreatDoor
