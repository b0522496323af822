/- 'AsmMoves' answers true at every line and any two addresses. -/
import Derived.Test.YtadkilofkpmpgaaDoorMov2
namespace Go.Proofs.YtadkilofkpmpgaaDoor
open Go Go.RowKit
theorem bytE_pos (b : Nat) (n a e : Int) (h : bytE b n a = some e) : ¬ e = 0 := by
  unfold bytE at h
  split at h
  · cases h; decide
  · split at h
    · cases h; decide
    · split at h
      · cases h; decide
      · split at h
        · cases h; decide
        · cases h
theorem moves_calls (b n a t : Int) (h0 : 0 ≤ b) (h1 : b < 256) (w : World) (hk : Rk.Knows kn5 w) :
    Calls Tryd.prog 3 #[.agg #[.int .u8 b, .int .i64 n], .int .i64 a, .int .i64 t] w fun e w' => e = .returned (.bool true) ∧ Below w.heap.size w w' := by
  obtain ⟨k, rfl⟩ := Int.eq_ofNat_of_zero_le h0
  have hk256 : k < 256 := by omega
  cases ha : bytE k n a with
  | some ea =>
    cases ht : bytE k n t with
    | some eb => exact mov_ee k n a t ea eb hk256 ha ht (bytE_pos _ _ _ _ ha) (bytE_pos _ _ _ _ ht) w hk
    | none => exact mov_eo k n a t ea hk256 ha ht (bytE_pos _ _ _ _ ha) w hk
  | none =>
    cases ht : bytE k n t with
    | some eb => exact mov_oe k n a t eb hk256 ha ht (bytE_pos _ _ _ _ ht) w hk
    | none =>
      have hg := good_len k n a hk256 ha
      by_cases h12 : opMode (Int.ofNat k) = 12
      · exact mov_rel k n a t hk256 ha ht h12 w hk
      · obtain ⟨m, hm⟩ := Int.eq_ofNat_of_zero_le hg.2.1
        exact mov_oo k m n a t hk256 ha ht hm (by omega) w hk
end Go.Proofs.YtadkilofkpmpgaaDoor
