/- 'asm.List': its walk. -/
import Derived.Test.YtadkilofkpmpgaaDoorLst
import Derived.WalkKit
import Derived.OwnWalk
import Derived.WalkMore
namespace Go.Proofs.YtadkilofkpmpgaaDoor
open Go Go.RowKit
set_option maxRecDepth 100000
set_option maxHeartbeats 3200000 in
theorem list_gen (B o c : Nat) (p : Option Addr) (xs : List Int) (a : Int) (w : World) (hk : Rk.Knows kn5 w) (hx : CellsAt w B o xs) (hb : ∀ x ∈ xs, 0 ≤ x ∧ x < 256) (hL : xs.length ≤ 65536) (hc : xs.length ≤ c) (hpx : xs = [] ∨ p = some ⟨B, o, none⟩) :
    Calls Tryd.prog 16 #[.slice p xs.length c, .int .i64 a] w fun e w' => e = .returned (.tuple #[.string ⟨⟨(lstR xs a).1⟩⟩, .int .i64 (lstR xs a).2.1, .int .i64 (lstR xs a).2.2]) ∧ Below w.heap.size w w' := by
  have HR : Hid (∀ i, i ≤ xs.length → ∀ a' W, Below w.heap.size w W → Calls Tryd.prog 14 #[.slice (some ⟨B, o + i, none⟩) (xs.length - i) (c - i), .int .i64 a'] W fun e w' => e = .returned (rd4 (readW (xs.drop i) a')) ∧ Below W.heap.size W w') := fun i hi a' W hW => by
    have := read_some B (o + i) (c - i) (xs.drop i) a' W (cells_drop (hx.below hW) i) (fun x h => hb x (List.mem_of_mem_drop h))
    rw [List.length_drop] at this
    exact this
  have HB : Hid (∀ i, ∀ x ∈ xs.drop i, 0 ≤ x ∧ x < 256) := fun i x h => hb x (List.mem_of_mem_drop h)
  have HP : Hid (∀ p n, 0 ≤ p → p < 256 → (opName p).isEmpty = false → 0 ≤ n → n < limM (opMode p) → ∀ W, Below w.heap.size w W → Calls Tryd.prog 18 #[.agg #[.int .u8 p, .int .i64 n]] W fun e w' => e = .returned (.tuple #[.string ⟨⟨textL p.toNat n⟩⟩, .int .i64 0]) ∧ Below W.heap.size W w') := fun p n p0 p1 po n0 n1 W hW => print_inI p n p0 p1 po n0 n1 W (hk.below hW)
  have HT : Hid (∀ p, 0 ≤ p → p < 256 → (opName p).isEmpty = false → ∀ n, (textL p.toNat n).length ≤ 11) := fun p p0 p1 po n => textL_len p.toNat n (by omega) (by rw [show Int.ofNat p.toNat = p from Int.toNat_of_nonneg p0]; exact po)
  have hB := (Below.refl w.heap.size w).alloc (Nat.le_refl _) (.cells #[.pointer none, .slice none 0 0] 61)
  have hbd : BAt w.heap.size w.heap.size (Lib.byteCells []) (w.alloc (.cells #[.pointer none, .slice none 0 0] 61)) := Lib.fresh_isBuilder 61 5 w
  have HQ : Hid (xs = [] ∨ p = some ⟨B, o, none⟩) := hpx
  clear hpx hx hb hk
  have d1 : decide ((xs.length : Int) > 65536) = false := decide_eq_false (by omega)
  go_enter Tryd.func16, Tryd.ntmps16
  go_wp2
  go_step3
  go_wp2
  go_step3
  go_wp2
  go_loopw [8] (fun v8 wr => ∃ (i f : Nat) (acc : List UInt8), i ≤ xs.length ∧ xs.length + 1 ≤ f + i ∧ v8 = .int .i64 i ∧ acc.length ≤ 12 * i ∧ Hid (lstA xs a f i acc = lstR xs a) ∧ BAt w.heap.size w.heap.size (Lib.byteCells acc) wr ∧ Below w.heap.size w wr) (fun v8 _ => xs.length - (intOf v8).toNat)
  case atStart => exact ⟨0, xs.length + 1, [], by omega, by omega, rfl, by simp, rfl, hbd, hB⟩
  case round =>
    clear hbd hB
    obtain ⟨i, f, acc, hi, hf, rfl, hacc, HL, hbd, hB⟩ := hrel
    by_cases hie : i = xs.length
    · have d2 : ((i : Int) == (xs.length : Int)) = true := beq_iff_eq.2 (by omega)
      have hR : lstR xs a = (acc, 0, 0) := by
        obtain ⟨g, rfl⟩ : ∃ g, f = g + 1 := ⟨f - 1, by omega⟩
        rw [← HL.out, lstA, if_pos hie]
      have HR2 : Hid (lstR xs a = (acc, 0, 0)) := hR
      clear hR HL
      go_wp2_with (go_at_call 26; refine (bString _ _ _ _ hbd hB.size).mono ?_; rintro e w3 ⟨rfl, hw3⟩; replace hB := hB.trans hw3)
      rw [Exit.noGoto_ret]
      refine bodyPost_ret (v := .tuple #[.string ⟨⟨acc⟩⟩, .int .i64 0, .int .i64 0]) (by simp [results, Tryd.results16, go_sem]) rfl ⟨by rw [HR2.out], hB⟩
    · have d2 : ((i : Int) == (xs.length : Int)) = false := beq_eq_false_iff_ne.2 (by omega)
      have hlt : i < xs.length := by omega
      obtain rfl : p = some ⟨B, o, none⟩ := HQ.out.resolve_left (fun h => by rw [h] at hlt; exact absurd hlt (Nat.not_lt_zero _))
      clear HQ
      have c5 := HR.out i hi (wrap64 (a + i))
      have hok := readW_ok (xs.drop i) (wrap64 (a + i)) (HB.out i)
      have hop := readW_op (xs.drop i) (wrap64 (a + i)) (HB.out i)
      obtain ⟨g, rfl⟩ : ∃ g, f = g + 1 := ⟨f - 1, by omega⟩
      have HL2 := HL.out
      rw [lstA, if_neg hie] at HL2
      rw [List.length_drop] at hok
      generalize readW (xs.drop i) (wrap64 (a + i)) = R at c5 hok hop HL2
      obtain ⟨pp, n, z, er⟩ := R
      simp only at hok hop HL2
      have HL3 : Hid _ := HL2
      clear HL2 HL
      by_cases he : er = 0
      · subst he
        obtain ⟨k1, k2, k3, hz1, k5, hz3, k7⟩ := hok rfl
        have HL4 := HL3.out
        rw [if_pos rfl] at HL4
        have hp := HP.out pp n hop.1 hop.2 k1 k2 k3
        have ht := HT.out pp hop.1 hop.2 k1 n
        generalize textL pp.toNat n = tx at hp ht HL4
        have HL5 : Hid _ := HL4
        clear HL3 HL4
        have hsz : (⟨⟨tx⟩⟩ ++ ⟨#[10]⟩ : ByteArray).size = tx.length + 1 := by
          rw [ByteArray.size_append]; rfl
        have hws := fun W h1 h2 => bWriteString w.heap.size w.heap.size (Lib.byteCells acc) (⟨⟨tx⟩⟩ ++ ⟨#[10]⟩) W h1 (by rw [hsz, Lib.byteCells_length]; omega) h2
        have hcells : Lib.byteCells acc ++ Lib.strCells (⟨⟨tx⟩⟩ ++ ⟨#[10]⟩) = Lib.byteCells (acc ++ (tx ++ [10])) := by
          rw [Lib.byteCells_append, Lib.strCells_eq]
          congr 2
        rw [hcells] at hws
        have hiz : wrap64 (i + z) = i + z := by unfold wrap64; omega
        clear hok hop hcells HR HB HP HT k1 k2 k3 k5 k7
        go_wp2_with (first
          | (go_at_call 14; refine (c5 _ hB).mono ?_; rintro e w3 ⟨rfl, hw3⟩; replace hB := stepB' hB hw3; replace hbd := hbd.below hw3; replace hbd := hbd.below ((Below.refl w3.heap.size w3).alloc (Nat.le_refl _) (.cells #[.int .u8 pp, .int .i64 n] 23)); replace hB := hB.alloc hB.size (.cells #[.int .u8 pp, .int .i64 n] 23))
          | (go_at_call 18; refine (hp _ hB).mono ?_; rintro e w4 ⟨rfl, hw4⟩; replace hB := stepB' hB hw4; replace hbd := hbd.below hw4)
          | (go_at_call 25; refine (hws _ hbd hB.size).mono ?_; rintro e w5 ⟨rfl, hbd5, hw5⟩; replace hB := hB.trans hw5))
        have hiz2 : (i : Int) + z = ((i + z.toNat : Nat) : Int) := by omega
        rw [hiz2]
        exact ⟨⟨i + z.toNat, g, acc ++ (tx ++ [10]), by omega, by omega, rfl, by simp; omega, HL5, hbd5, hB⟩, by simp only [intOf]; omega⟩
      · have HL4 := HL3.out
        rw [if_neg he] at HL4
        have d3 : (er != 0) = true := by simpa using he
        have HR2 : Hid (lstR xs a = ([], (i : Int), er)) := HL4.symm
        clear hok hop HR HB HP HT HL3 HL4
        go_wp2_with (go_at_call 14; refine (c5 _ hB).mono ?_; rintro e w3 ⟨rfl, hw3⟩; replace hB := stepB' hB hw3; replace hB := hB.alloc hB.size (.cells #[.int .u8 pp, .int .i64 n] 23))
        rw [Exit.noGoto_ret]
        refine bodyPost_ret (v := .tuple #[.string ⟨⟨[]⟩⟩, .int .i64 (i : Int), .int .i64 er]) (by simp [results, Tryd.results16, go_sem]) rfl ⟨by rw [HR2.out], hB⟩
end Go.Proofs.YtadkilofkpmpgaaDoor
