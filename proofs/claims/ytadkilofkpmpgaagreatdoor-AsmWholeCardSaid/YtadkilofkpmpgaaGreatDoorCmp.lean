/- 'cochineallaw05.Bytes': two lists compared. -/
import Derived.Test.YtadkilofkpmpgaaGreatDoorOps
import Derived.WalkKit
import Derived.OwnWalk
import Derived.Deep.QuietTactic
import Derived.BigQuiet
namespace Go.Proofs.YtadkilofkpmpgaaGreatDoor
open Go Go.RowKit
set_option maxRecDepth 100000
/-- A slice whose cells are these bytes. -/
def rdSl (W : World) (v : Value) (xs : List Int) : Prop := ∃ p c, v = .slice p xs.length c ∧ ∀ j x, xs[j]? = some x → ∃ a, p = some a ∧ a.spot = none ∧ W.cell? ⟨a.block, a.off + j, none⟩ = some (.int .u8 x)

theorem below_drewN' {B : Nat} {a w : World} (h : Below B a w) (n : Nat) : Below B a (w.drewN n) := ⟨h.os, h.tape, h.output, h.size, h.block⟩
set_option maxHeartbeats 800000 in
theorem cmp_calls (p1 p2 : Option Addr) (n1 n2 c1 c2 : Nat) (xs ys : List Int) (w : World) (hl1 : n1 = xs.length) (hl2 : n2 = ys.length) (hb : n1 ≤ 65536)
    (h1 : ∀ j x, xs[j]? = some x → ∃ B o, p1 = some ⟨B, o, none⟩ ∧ w.cell? ⟨B, o + j, none⟩ = some (.int .u8 x)) (h2 : ∀ j x, ys[j]? = some x → ∃ B o, p2 = some ⟨B, o, none⟩ ∧ w.cell? ⟨B, o + j, none⟩ = some (.int .u8 x)) :
    Calls Tryz.prog 15 #[.slice p1 n1 c1, .slice p2 n2 c2] w fun e w' => e = .returned (.bool (decide (xs = ys))) ∧ Below w.heap.size w w' := by
  by_cases hne : n1 = n2
  · have hd : ((n1 : Int) == (n2 : Int)) = true := beq_iff_eq.2 (by omega)
    go_enter Tryz.func15, Tryz.ntmps15
    go_wp2
    go_loopw [5] (fun v5 wr => ∃ i : Nat, i ≤ xs.length ∧ v5 = .int .i64 i ∧ Hid (xs.take i = ys.take i) ∧ Below w.heap.size w wr) (fun v5 _ => xs.length - (intOf v5).toNat)
    case atStart => exact ⟨0, by omega, rfl, by exact rfl, Below.refl _ _⟩
    case round =>
      obtain ⟨i, hi, rfl, HT, hB⟩ := hrel
      by_cases hlt : i < xs.length
      · have hd2 : decide ((i : Int) < (xs.length : Int)) = true := decide_eq_true (by omega)
        have hlt2 : i < ys.length := by omega
        obtain ⟨B1, o1, rfl, k1⟩ := h1 i _ (List.getElem?_eq_getElem hlt)
        obtain ⟨B2, o2, rfl, k2⟩ := h2 i _ (List.getElem?_eq_getElem hlt2)
        have r1 := (hB.cell (p := ⟨B1, o1 + i, none⟩) (World.block_lt_of_cell? w _ k1)).trans k1
        have r2 := (hB.cell (p := ⟨B2, o2 + i, none⟩) (World.block_lt_of_cell? w _ k2)).trans k2
        have hdy : (i : Int) < (ys.length : Int) := by omega
        have hdx : (i : Int) < (xs.length : Int) := by omega
        have hmx := mixed
        by_cases hxy : xs[i] = ys[i]
        · have hq : (xs[i] == ys[i]) = true := beq_iff_eq.2 hxy
          have hq2 : (xs[i] != ys[i]) = false := by rw [hxy]; simp
          have HT2 : Hid (xs.take (i + 1) = ys.take (i + 1)) := by
            rw [List.take_add_one, List.take_add_one, HT.out, List.getElem?_eq_getElem hlt, List.getElem?_eq_getElem hlt2, hxy]
            exact rfl
          generalize xs[i] = x at r1 hq hq2
          generalize ys[i] = y at r2 hq hq2
          clear hxy k1 k2 h1 h2 HT
          go_wp2
          go_quiet (fail)
          go_wp2
          exact ⟨⟨i + 1, by omega, by go_num, HT2, below_drewN' hB _⟩, by simp [intOf]; omega⟩
        · have hq : (xs[i] == ys[i]) = false := beq_eq_false_iff_ne.2 hxy
          have hq2 : (xs[i] != ys[i]) = true := by simpa using hxy
          have HN : Hid (decide (xs = ys) = false) := decide_eq_false (fun e => hxy (by subst e; rfl))
          generalize xs[i] = x at r1 hq hq2
          generalize ys[i] = y at r2 hq hq2
          clear hxy k1 k2 h1 h2 HT
          go_wp2
          go_quiet (fail)
          go_wp2
          go_ret
          exact ⟨by rw [HN.out]; rfl, below_drewN' hB _⟩
      · have hd2 : decide ((i : Int) < (xs.length : Int)) = false := decide_eq_false (by omega)
        have HE : Hid (decide (xs = ys) = true) := by
          have := HT.out
          rw [List.take_of_length_le (by omega), List.take_of_length_le (by omega)] at this
          exact decide_eq_true this
        clear h1 h2 HT
        go_wp2
        go_ret
        exact ⟨by rw [HE.out]; rfl, hB⟩
  · have hd : ((n1 : Int) == (n2 : Int)) = false := beq_eq_false_iff_ne.2 (by omega)
    have hx : decide (xs = ys) = false := decide_eq_false (fun e => hne (by rw [hl1, hl2, e]))
    have HX : Hid (decide (xs = ys) = false) := hx
    clear hx h1 h2
    go_enter Tryz.func15, Tryz.ntmps15
    go_wp2
    go_ret
    exact ⟨by rw [HX.out]; rfl, Below.refl _ _⟩
end Go.Proofs.YtadkilofkpmpgaaGreatDoor
