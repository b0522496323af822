/- The arguments of the rows: a line, a slice of bytes, a number. -/
import Derived.Test.YtadkilofkpmpgaaGreatDoorMovP
import Derived.Test.YtadkilofkpmpgaaGreatDoorKn5
import Derived.ChangeSame
import Derived.ChangeSlices
import Derived.Carry
import Derived.RowKit3
namespace Go.Proofs.YtadkilofkpmpgaaGreatDoor
open Go Go.ChangeShapes Go.WideShapes Go.ChangeAt Go.RowKit
set_option maxRecDepth 100000
section
variable {H : Type} {enc : TypeId × Value → H} {W : World} {base : Nat} {sp : Nat → Bool} {held : Bool}
theorem line_cells : Tryz.prog.cellsOf 23 = 2 := by kernel_rfl
theorem int_cells : Tryz.prog.cellsOf 3 = 1 := by kernel_rfl
theorem u8_cells : Tryz.prog.cellsOf 5 = 1 := by kernel_rfl
theorem open_line {r : Reach} {b0 : Nat} {v : Value} {d : DataW H} {ps : List MemPlace} (hval : Value.okWide Tryz.prog W r b0 23 v) (hd : DataW.Trod enc Tryz.prog W base sp held 23 v d ps) :
    ∃ b n, v = .agg #[.int .u8 b, .int .i64 n] ∧ (Lit.int .u8 b).wf = true ∧ (Lit.int .i64 n).wf = true := by
  obtain ⟨cs, rfl, hsz⟩ := okWide_struct Tryz.underlying23 hval
  rw [line_cells] at hsz
  obtain ⟨l⟩ := cs
  match l, hsz with
  | [c0, c1], _ =>
  obtain ⟨fuel, hf⟩ := hd
  obtain ⟨y0, y1, m, hx, _, hy0, hy1⟩ := trod_struct2 Tryz.underlying23 hf
  obtain ⟨a, e0, rfl, wa⟩ := DataW.trod_int Tryz.underlying5 hy0
  obtain ⟨b, e1, rfl, wb⟩ := DataW.trod_int Tryz.underlying3 hy1
  simp [Value.cells, u8_cells] at e0
  simp [Value.cells, int_cells] at e1
  subst e0 e1
  exact ⟨a, b, rfl, wa, wb⟩
/-- A slice of bytes: its cells, one by one. -/
abbrev SlAt (W : World) (p : Option Addr) (xs : List Int) : Prop := ∀ j x, xs[j]? = some x → ∃ B o, p = some ⟨B, o, none⟩ ∧ W.cell? ⟨B, o + j, none⟩ = some (.int .u8 x)
theorem SlAt.below {W W2 : World} {p : Option Addr} {xs : List Int} (h : SlAt W p xs) (hb : Below W.heap.size W W2) : SlAt W2 p xs := fun j x hj => by
  obtain ⟨B, o, rfl, hc⟩ := h j x hj
  exact ⟨B, o, rfl, (hb.cell (p := ⟨B, o + j, none⟩) (World.block_lt_of_cell? W _ hc)).trans hc⟩
theorem open_bytes {r : Reach} {b0 : Nat} {v : Value} {d : DataW H} {ps : List MemPlace} (hval : Value.okWide Tryz.prog W r b0 38 v) (hd : DataW.Trod enc Tryz.prog W base sp held 38 v d ps) :
    ∃ p cap xs, v = .slice p xs.length cap ∧ SlAt W p xs ∧ (∀ x ∈ xs, 0 ≤ x ∧ x < 256) ∧ xs.length ≤ cap ∧ cap ≤ maxLen ∧ (xs = [] → p = none ∨ ∃ B o, p = some ⟨B, o, none⟩) := by
  obtain ⟨a0, len, cap, rfl⟩ := okWide_slice Tryz.underlying38 hval
  obtain ⟨fuel, hf⟩ := hd
  rcases open_ints Tryz.underlying38 Tryz.underlying5 u8_cells hf with ⟨hcs, hx⟩ | ⟨a, len', cap', zs, hcs, _, hl, hm, hz, hx, hcell, hwz⟩
  · simp [Value.cells] at hcs
    obtain ⟨rfl, rfl, rfl⟩ := hcs
    exact ⟨none, 0, [], rfl, fun j x hj => by simp at hj, fun x hx => (by cases hx), Nat.le_refl _, by decide, fun _ => .inl rfl⟩
  · simp [Value.cells] at hcs
    obtain ⟨rfl, rfl, rfl⟩ := hcs
    have hlz : len ≤ zs.length := by rw [hz]; split <;> omega
    have hlen : (zs.take len).length = len := by rw [List.length_take]; omega
    have hsp : 0 < len → a.spot = none := fun h0 => by
      have h1 := World.cell?_spot (hcell 0 (by omega))
      simpa [Addr.add] using h1
    refine ⟨some a, cap, zs.take len, by rw [hlen], fun j x hj => ?_, fun x hx => ?_, by omega, hm, fun _ => .inr ?_⟩
    · obtain ⟨B, o, s⟩ := a
      have hj2 : j < len := by
        have := (List.getElem?_eq_some_iff.1 hj).1
        omega
      obtain rfl := hsp (by omega)
      refine ⟨B, o, rfl, ?_⟩
      have hc := hcell j (by omega)
      rw [add_plain] at hc
      rw [hc]
      rw [List.getElem?_take_of_lt hj2] at hj
      rw [List.getD_eq_getElem?_getD, hj]; rfl
    · have := bounds_u8 (hwz x (List.mem_of_mem_take hx))
      omega
    · obtain ⟨B, o, s⟩ := a
      have hsl : s = none := by
        simp only [Value.okWide, Tryz.underlying38, Cell.okWide, Cell.ok, World.has] at hval
        exact hval.2.2.2.1
      subst hsl
      exact ⟨B, o, rfl⟩
end
end Go.Proofs.YtadkilofkpmpgaaGreatDoor
