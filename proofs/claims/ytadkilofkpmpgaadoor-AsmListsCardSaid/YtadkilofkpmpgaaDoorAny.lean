/- The two 'Bytes's, the two 'Read's: one answer each, whatever is wrong. -/
import Derived.Test.YtadkilofkpmpgaaDoorRbC
import Derived.Test.YtadkilofkpmpgaaDoorMovA
namespace Go.Proofs.YtadkilofkpmpgaaDoor
open Go Go.RowKit
set_option maxRecDepth 100000
/-- The bytes, none where something is wrong; and what is wrong. -/
def bytX (b n a : Int) : List Int := match bytE b.toNat n a with
  | some _ => []
  | none => bytI b.toNat n a
def bytEr (b n a : Int) : Int := match bytE b.toNat n a with
  | some e => e
  | none => 0
theorem SlAt.of_cells {W : World} {g o : Nat} {xs : List Int} (h : CellsAt W g o xs) : SlAt W (some ⟨g, o, none⟩) xs := fun j x hj => ⟨g, o, rfl, h j x hj⟩
theorem SlAt.nil {W : World} {p : Option Addr} : SlAt W p [] := fun j x hj => by simp at hj
theorem byt_any (b n a : Int) (h0 : 0 ≤ b) (h1 : b < 256) (w : World) (hk : Rk.Knows kn5 w) :
    Calls Tryd.prog 7 #[.agg #[.int .u8 b, .int .i64 n], .int .i64 a] w fun r w' => ∃ p cap, r = .returned (.tuple #[.slice p (bytX b n a).length cap, .int .i64 (bytEr b n a)]) ∧ SlAt w' p (bytX b n a) ∧ Below w.heap.size w w' := by
  obtain ⟨k, rfl⟩ := Int.eq_ofNat_of_zero_le h0
  have hk256 : k < 256 := by omega
  unfold bytX bytEr
  rw [Int.toNat_natCast]
  cases he : bytE k n a with
  | some e => exact (byt_errL k n a e hk256 he w hk).mono fun r w' ⟨hr, hB⟩ => ⟨none, 0, hr, SlAt.nil, hB⟩
  | none => exact (byt_okC k n a hk256 he w hk).mono fun r w' ⟨g, cap, hr, hc, hB⟩ => ⟨some ⟨g, 0, none⟩, cap, by rw [bytI_len k n a hk256 he]; exact hr, SlAt.of_cells hc, hB⟩
theorem rbyt_any (b n a : Int) (h0 : 0 ≤ b) (h1 : b < 256) (w : World) :
    Calls Tryd.prog 12 #[.agg #[.int .i64 b, .int .i64 n], .int .i64 a] w fun r w' => ∃ p cap, r = .returned (.tuple #[.slice p (bytX b n a).length cap, .int .i64 (bytEr b n a)]) ∧ SlAt w' p (bytX b n a) ∧ Below w.heap.size w w' := by
  obtain ⟨k, rfl⟩ := Int.eq_ofNat_of_zero_le h0
  have hk256 : k < 256 := by omega
  unfold bytX bytEr
  rw [Int.toNat_natCast]
  cases he : bytE k n a with
  | some e => exact (rbyt_err k n a e hk256 he w).mono fun r w' ⟨hr, hB⟩ => ⟨none, 0, hr, SlAt.nil, hB⟩
  | none => exact (rbyt_ok k n a hk256 he w).mono fun r w' ⟨g, cap, hr, hc, hB⟩ => ⟨some ⟨g, 0, none⟩, cap, by rw [bytI_len k n a hk256 he]; exact hr, SlAt.of_cells hc, hB⟩
theorem bytX_len (b n a : Int) (h0 : 0 ≤ b) (h1 : b < 256) : (bytX b n a).length ≤ 3 := by
  obtain ⟨k, rfl⟩ := Int.eq_ofNat_of_zero_le h0
  have hk256 : k < 256 := by omega
  unfold bytX
  rw [Int.toNat_natCast]
  cases he : bytE k n a with
  | some e => simp
  | none =>
    have := good_len k n a hk256 he
    show (bytI k n a).length ≤ 3
    rw [bytI_len k n a hk256 he]; omega
theorem readW_op (xs : List Int) (a : Int) (hb : ∀ x ∈ xs, 0 ≤ x ∧ x < 256) : 0 ≤ (readW xs a).1 ∧ (readW xs a).1 < 256 := by
  have h0 : 0 ≤ xs.getD 0 0 ∧ xs.getD 0 0 < 256 := by
    match xs, hb with
    | [], _ => decide
    | x :: r, hb => exact hb x (List.mem_cons_self ..)
  unfold readW
  repeat' split
  all_goals first | decide | exact h0
end Go.Proofs.YtadkilofkpmpgaaDoor
