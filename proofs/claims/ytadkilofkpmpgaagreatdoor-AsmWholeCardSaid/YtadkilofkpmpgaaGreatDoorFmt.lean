/- 'strconv.FormatInt' to the base 16, of what has one to four digits. -/
import Derived.Test.YtadkilofkpmpgaaGreatDoorCyc
namespace Go.Proofs.YtadkilofkpmpgaaGreatDoor
open Go Go.RowKit
set_option maxRecDepth 100000
def dbTab : List Nat := [0, 1, 56, 2, 57, 49, 28, 3, 61, 58, 42, 50, 38, 29, 17, 4, 62, 47, 59, 36, 45, 43, 51, 22, 53, 39, 33, 30, 24, 18, 12, 5, 63, 55, 48, 27, 60, 41, 37, 16, 46, 35, 44, 21, 52, 32, 23, 11, 54, 26, 40, 15, 34, 20, 31, 10, 25, 14, 19, 9, 13, 8, 7, 6]
def dbCells : List Value := dbTab.map fun x => .int .u8 (Int.ofNat x)
/-- What is known of 'asm.shapes' and of the table of trailing zeros. -/
def kn5 : Rk.Kn := fun a => match a.spot, a.block with
  | none, 0 => match shpCells[a.off]? with
    | some v => some (v, none)
    | none => none
  | none, 9 => match dbCells[a.off]? with
    | some v => some (v, none)
    | none => none
  | _, _ => none
def okL : List Nat := [20, 45, 75, 99, 100, 116, 117]
def okf5 (g : FuncId) : Bool := match okf g with
  | true => true
  | false => okL.contains g
theorem okL_all : (okL.all fun g => match Tryz.prog.funcs[g]? with
    | some fn => !(fn.name == "runtime.NumGoroutine") && !fn.body.isNone
    | none => false) = true := by kernel_rfl
theorem okf5_ok : Rk.OkF Tryz.prog okf5 := by
  intro g hg
  unfold okf5 at hg
  split at hg
  · rename_i h
    exact okf_ok g h
  · have h := List.all_eq_true.1 okL_all g (by simpa using hg)
    split at h
    · rename_i fn hfn
      simp only [Bool.and_eq_true, Bool.not_eq_true'] at h
      exact ⟨fn, hfn, h.1, h.2⟩
    · cases h

def hexT : List UInt8 := [48, 49, 50, 51, 52, 53, 54, 55, 56, 57, 97, 98, 99, 100, 101, 102, 103, 104, 105, 106, 107, 108, 109, 110, 111, 112, 113, 114, 115, 116, 117, 118, 119, 120, 121, 122]
def hx (x : Int) : UInt8 := UInt8.ofNat (((hexT.getD x.toNat 0).toNat : Int)).toNat
def lo4 (u : Int) : Int := IntKind.u64.wrap ↑(BitVec.ofInt 64 u &&& BitVec.ofInt 64 15).toNat
def sh4 (u : Int) : Int := u.fdiv (2 ^ 4)
abbrev inT (x : Int) : Prop := decide (0 ≤ x ∧ x < 36) = true
abbrev ge16 (x : Int) (b : Bool) : Prop := decide (x ≥ 16) = b
theorem fmt1 (n : Int) : Rk.fn Tryz.prog okf5 kn5 (Rk.ofSpec Rk.noSpec) 100 6 20 #[.int .i64 n, .int .i64 16] [(1, false), (7, false), (0, true)] True =
  some (.string ⟨⟨[hx (IntKind.u64.wrap n)]⟩⟩, [], (inT (IntKind.u64.wrap n) ∧ ge16 (IntKind.u64.wrap n) false ∧ decide (n < 0) = false ∧ True)) := by kernel_rfl
theorem fmt2 (n : Int) : Rk.fn Tryz.prog okf5 kn5 (Rk.ofSpec Rk.noSpec) 100 6 20 #[.int .i64 n, .int .i64 16] [(1, false), (7, true), (0, true), (1, false), (0, true)] True =
  some (.string ⟨⟨[hx (sh4 (IntKind.u64.wrap n)), hx (lo4 (IntKind.u64.wrap n))]⟩⟩, [], (inT (sh4 (IntKind.u64.wrap n)) ∧ ge16 (sh4 (IntKind.u64.wrap n)) false ∧ inT (lo4 (IntKind.u64.wrap n)) ∧ ge16 (IntKind.u64.wrap n) true ∧ decide (n < 0) = false ∧ True)) := by kernel_rfl
theorem fmt3 (n : Int) : Rk.fn Tryz.prog okf5 kn5 (Rk.ofSpec Rk.noSpec) 100 6 20 #[.int .i64 n, .int .i64 16] [(1, false), (7, true), (0, true), (1, true), (0, true), (1, false), (0, true)] True =
  some (.string ⟨⟨[hx (sh4 (sh4 (IntKind.u64.wrap n))), hx (lo4 (sh4 (IntKind.u64.wrap n))), hx (lo4 (IntKind.u64.wrap n))]⟩⟩, [], (inT (sh4 (sh4 (IntKind.u64.wrap n))) ∧ ge16 (sh4 (sh4 (IntKind.u64.wrap n))) false ∧ inT (lo4 (sh4 (IntKind.u64.wrap n))) ∧ ge16 (sh4 (IntKind.u64.wrap n)) true ∧ inT (lo4 (IntKind.u64.wrap n)) ∧ ge16 (IntKind.u64.wrap n) true ∧ decide (n < 0) = false ∧ True)) := by kernel_rfl
theorem fmt4 (n : Int) : Rk.fn Tryz.prog okf5 kn5 (Rk.ofSpec Rk.noSpec) 100 6 20 #[.int .i64 n, .int .i64 16] [(1, false), (7, true), (0, true), (1, true), (0, true), (1, true), (0, true), (1, false), (0, true)] True =
  some (.string ⟨⟨[hx (sh4 (sh4 (sh4 (IntKind.u64.wrap n)))), hx (lo4 (sh4 (sh4 (IntKind.u64.wrap n)))), hx (lo4 (sh4 (IntKind.u64.wrap n))), hx (lo4 (IntKind.u64.wrap n))]⟩⟩, [], (inT (sh4 (sh4 (sh4 (IntKind.u64.wrap n)))) ∧ ge16 (sh4 (sh4 (sh4 (IntKind.u64.wrap n)))) false ∧ inT (lo4 (sh4 (sh4 (IntKind.u64.wrap n)))) ∧ ge16 (sh4 (sh4 (IntKind.u64.wrap n))) true ∧ inT (lo4 (sh4 (IntKind.u64.wrap n))) ∧ ge16 (sh4 (IntKind.u64.wrap n)) true ∧ inT (lo4 (IntKind.u64.wrap n)) ∧ ge16 (IntKind.u64.wrap n) true ∧ decide (n < 0) = false ∧ True)) := by kernel_rfl

theorem wrap_u64 (n : Int) : IntKind.u64.wrap n = n % 18446744073709551616 := rfl
theorem lo4_is (u : Int) (h0 : 0 ≤ u) (h1 : u < 65536) : lo4 u = u % 16 := by
  obtain ⟨m, rfl⟩ := Int.eq_ofNat_of_zero_le h0
  unfold lo4
  have e : (BitVec.ofInt 64 (m : Int) &&& BitVec.ofInt 64 15).toNat = m % 16 := by
    rw [BitVec.toNat_and]
    have a : (BitVec.ofInt 64 (m : Int)).toNat = m := by
      simp; omega
    have b : (BitVec.ofInt 64 15).toNat = 2 ^ 4 - 1 := by decide
    rw [a, b, Nat.and_two_pow_sub_one_eq_mod]
  rw [e, wrap_u64]
  omega
theorem sh4_is (u : Int) : sh4 u = u / 16 := by
  unfold sh4
  rw [show (2 : Int) ^ 4 = 16 from by decide, Int.fdiv_eq_ediv_of_nonneg _ (by decide)]
theorem wrapU (n : Int) (h0 : 0 ≤ n) (h1 : n < 65536) : IntKind.u64.wrap n = n := by rw [wrap_u64]; omega

/-- The digits of a number, the least letters, k of them. -/
def hexS : Nat → Int → List UInt8
  | 1, n => [hx n]
  | 2, n => [hx (n / 16), hx (n % 16)]
  | 3, n => [hx (n / 256), hx (n / 16 % 16), hx (n % 16)]
  | 4, n => [hx (n / 4096), hx (n / 256 % 16), hx (n / 16 % 16), hx (n % 16)]
  | _, _ => []
/-- A number has so many digits. -/
def hasD : Nat → Int → Prop
  | 1, n => 0 ≤ n ∧ n < 16
  | 2, n => 16 ≤ n ∧ n < 256
  | 3, n => 256 ≤ n ∧ n < 4096
  | 4, n => 4096 ≤ n ∧ n < 65536
  | _, _ => False
theorem fmt_calls (k : Nat) (n : Int) (hd : hasD k n) (w : World) (hk : Rk.Knows kn5 w) : Calls Tryz.prog 20 #[.int .i64 n, .int .i64 16] w fun e w' => e = .returned (.string ⟨⟨hexS k n⟩⟩) ∧ Below w.heap.size w w' := by
  match k, hd with
  | 1, hd =>
    have hd' : 0 ≤ n ∧ n < 16 := hd
    have hw := wrapU n (by omega) (by omega)
    have := Rk.calls_owed mixed okf5_ok Rk.noSpec_good (fmt1 n) (by
      simp only [inT, ge16, hw, decide_eq_true_eq, decide_eq_false_iff_not]
      and_intros <;> first | trivial | omega) w hk
    rw [hw] at this
    exact this
  | 2, hd =>
    have hd' : 16 ≤ n ∧ n < 256 := hd
    have hw := wrapU n (by omega) (by omega)
    have e0 := lo4_is n (by omega) (by omega)
    have s0 := sh4_is n
    have := Rk.calls_owed mixed okf5_ok Rk.noSpec_good (fmt2 n) (by
      simp only [inT, ge16, hw, e0, s0, decide_eq_true_eq, decide_eq_false_iff_not]
      and_intros <;> first | trivial | omega) w hk
    rw [hw, e0, s0] at this
    exact this
  | 3, hd =>
    have hd' : 256 ≤ n ∧ n < 4096 := hd
    have hw := wrapU n (by omega) (by omega)
    have e0 := lo4_is n (by omega) (by omega)
    have s0 := sh4_is n
    have e1 := lo4_is (n / 16) (by omega) (by omega)
    have s1 := sh4_is (n / 16)
    have d1 : n / 16 / 16 = n / 256 := by omega
    have := Rk.calls_owed mixed okf5_ok Rk.noSpec_good (fmt3 n) (by
      simp only [inT, ge16, hw, e0, s0, e1, s1, d1, decide_eq_true_eq, decide_eq_false_iff_not]
      and_intros <;> first | trivial | omega) w hk
    rw [hw, e0, s0, e1, s1, d1] at this
    exact this
  | 4, hd =>
    have hd' : 4096 ≤ n ∧ n < 65536 := hd
    have hw := wrapU n (by omega) (by omega)
    have e0 := lo4_is n (by omega) (by omega)
    have s0 := sh4_is n
    have e1 := lo4_is (n / 16) (by omega) (by omega)
    have s1 := sh4_is (n / 16)
    have e2 := lo4_is (n / 256) (by omega) (by omega)
    have s2 := sh4_is (n / 256)
    have d1 : n / 16 / 16 = n / 256 := by omega
    have d2 : n / 256 / 16 = n / 4096 := by omega
    have := Rk.calls_owed mixed okf5_ok Rk.noSpec_good (fmt4 n) (by
      simp only [inT, ge16, hw, e0, s0, e1, s1, d1, e2, s2, d2, decide_eq_true_eq, decide_eq_false_iff_not]
      and_intros <;> first | trivial | omega) w hk
    rw [hw, e0, s0, e1, s1, d1, e2, s2, d2] at this
    exact this
  | 0, hd => exact hd.elim
  | k + 5, hd => exact hd.elim
end Go.Proofs.YtadkilofkpmpgaaGreatDoor
