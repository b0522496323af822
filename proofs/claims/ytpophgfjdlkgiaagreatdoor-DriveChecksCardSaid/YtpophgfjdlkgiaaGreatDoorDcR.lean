/- 'cochinealref19.Check': its walk. -/
import Derived.Test.YtpophgfjdlkgiaaGreatDoorOps4
import Derived.WalkKit
import Derived.OwnWalk
import Derived.Deep.QuietTactic
import Derived.BigQuiet
namespace Go.Proofs.YtpophgfjdlkgiaaGreatDoor
open Go Go.RowKit
set_option maxRecDepth 100000
/-- Is one of them out of range? -/
def outL (n : Int) : List Int → Bool
  | [] => false
  | x :: r => (decide (x < 0) || decide (n ≤ x)) || outL n r
/-- Is one of them not above the one ahead of it? -/
def ordA : Int → List Int → Bool
  | _, [] => false
  | l, x :: r => decide (x ≤ l) || ordA x r
def chkR (n : Int) (es : List Int) : Int :=
  if n < 0 ∨ 100000 < n then 10 else if 1000 < es.length then 12 else if outL n es = true then 10 else if ordA (es.getD 0 0) (es.drop 1) = true then 21 else 0
/-- A slice of numbers: its cells, one by one. -/
abbrev IntAt (W : World) (p : Option Addr) (xs : List Int) : Prop := ∀ j x, xs[j]? = some x → ∃ B o, p = some ⟨B, o, none⟩ ∧ W.cell? ⟨B, o + j, none⟩ = some (.int .i64 x)
theorem IntAt.below {W W2 : World} {p : Option Addr} {xs : List Int} (h : IntAt W p xs) (hb : Below W.heap.size W W2) : IntAt W2 p xs := fun j x hj => by
  obtain ⟨B, o, rfl, hc⟩ := h j x hj
  exact ⟨B, o, rfl, (hb.cell (p := ⟨B, o + j, none⟩) (World.block_lt_of_cell? W _ hc)).trans hc⟩
theorem below_drewI {B : Nat} {a w : World} (h : Below B a w) (n : Nat) : Below B a (w.drewN n) := ⟨h.os, h.tape, h.output, h.size, h.block⟩
theorem getD_get {es : List Int} {i : Nat} (h : i < es.length) : es.getD i 0 = es[i] := by simp [List.getD, h]

set_option maxHeartbeats 800000 in
theorem refchk_calls (p : Option Addr) (c : Nat) (es : List Int) (n : Int) (w : World) (hm : es.length ≤ 4611686018427387904) (hx : IntAt w p es) :
    Calls Tryz.prog 5 #[.int .i64 n, .slice p es.length c] w fun e w' => e = .returned (.int .i64 (chkR n es)) ∧ Below w.heap.size w w' := by
  by_cases h1 : n < 0
  · have d1 : decide (n < 0) = true := decide_eq_true h1
    have HR : Hid (chkR n es = 10) := by show chkR n es = 10; unfold chkR; rw [if_pos (.inl h1)]
    clear h1 hx
    go_enter Tryz.func5, Tryz.ntmps5
    go_wp2
    go_ret
    exact ⟨by rw [HR.out]; rfl, Below.refl _ _⟩
  by_cases h2 : 100000 < n
  · have d1 : decide (n < 0) = false := decide_eq_false h1
    have d2 : decide (100000 < n) = true := decide_eq_true h2
    have HR : Hid (chkR n es = 10) := by show chkR n es = 10; unfold chkR; rw [if_pos (.inr h2)]
    clear h1 h2 hx
    go_enter Tryz.func5, Tryz.ntmps5
    go_wp2
    go_ret
    exact ⟨by rw [HR.out]; rfl, Below.refl _ _⟩
  have d1 : decide (n < 0) = false := decide_eq_false h1
  have d2 : decide (100000 < n) = false := decide_eq_false h2
  by_cases h3 : 1000 < es.length
  · have d3 : decide (1000 < (es.length : Int)) = true := decide_eq_true (by omega)
    have HR : Hid (chkR n es = 12) := by show chkR n es = 12; unfold chkR; rw [if_neg (by omega), if_pos h3]
    clear h1 h2 h3 hx
    go_enter Tryz.func5, Tryz.ntmps5
    go_wp2
    go_ret
    exact ⟨by rw [HR.out]; rfl, Below.refl _ _⟩
  have d3 : decide (1000 < (es.length : Int)) = false := decide_eq_false (by omega)
  have HC : Hid (chkR n es = if outL n es = true then 10 else if ordA (es.getD 0 0) (es.drop 1) = true then 21 else 0) := by
    show chkR n es = _
    unfold chkR; rw [if_neg (by omega), if_neg (by omega)]
  clear h1 h2
  have hmx := mixed
  go_enter Tryz.func5, Tryz.ntmps5
  go_wp2
  go_loopw [5] (fun v5 wr => ∃ i : Nat, i ≤ es.length ∧ v5 = .int .i64 i ∧ Hid (outL n es = outL n (es.drop i)) ∧ Below w.heap.size w wr) (fun v5 _ => es.length - (intOf v5).toNat)
  case atStart => exact ⟨0, by omega, rfl, by exact rfl, Below.refl _ _⟩
  case round =>
    obtain ⟨i, hi, rfl, HO, hB⟩ := hrel
    by_cases hlt : i < es.length
    · have hd : decide (i < es.length) = true := decide_eq_true hlt
      obtain ⟨B, o, rfl, k1⟩ := hx i _ (List.getElem?_eq_getElem hlt)
      have r1 := (hB.cell (p := ⟨B, o + i, none⟩) (World.block_lt_of_cell? w _ k1)).trans k1
      have hli : (i : Int) < (es.length : Int) := by omega
      have hdr : outL n (es.drop i) = ((decide (es[i] < 0) || decide (n ≤ es[i])) || outL n (es.drop (i + 1))) := by
        rw [List.drop_eq_getElem_cons hlt, outL]
      have hdr2 : Hid (outL n es = ((decide (es[i] < 0) || decide (n ≤ es[i])) || outL n (es.drop (i + 1)))) := HO.out.trans hdr
      clear hdr HO k1
      generalize es[i] = x at r1 hdr2
      by_cases hx0 : x < 0
      · have q1 : decide (x < 0) = true := decide_eq_true hx0
        have HR : Hid (chkR n es = 10) := by
          show chkR n es = 10
          rw [HC.out, hdr2.out, q1]; rfl
        clear hx0 hdr2 HC hx
        go_wp2
        go_ret
        exact ⟨by rw [HR.out]; rfl, hB⟩
      · have q1 : decide (x < 0) = false := decide_eq_false hx0
        by_cases hxn : n ≤ x
        · have q2 : decide (n ≤ x) = true := decide_eq_true hxn
          have HR : Hid (chkR n es = 10) := by
            show chkR n es = 10
            rw [HC.out, hdr2.out, q1, q2]; rfl
          clear hx0 hxn hdr2 HC hx
          go_wp2
          go_ret
          exact ⟨by rw [HR.out]; rfl, hB⟩
        · have q2 : decide (n ≤ x) = false := decide_eq_false hxn
          have HN : Hid (outL n es = outL n (es.drop (i + 1))) := by
            show outL n es = _
            rw [hdr2.out, q1, q2]; rfl
          clear hx0 hxn hdr2 HC hx
          go_wp2
          exact ⟨⟨i + 1, by omega, by go_num, HN, hB⟩, by simp [intOf]; omega⟩
    · have hd : decide (i < es.length) = false := decide_eq_false hlt
      have HC2 : Hid (chkR n es = if ordA (es.getD 0 0) (es.drop 1) = true then 21 else 0) := by
        show chkR n es = _
        rw [HC.out, HO.out, List.drop_eq_nil_of_le (by omega)]; rfl
      clear HC HO
      go_wp2
      go_loopw [6] (fun v6 wr => ∃ k : Nat, k ≤ es.length ∧ v6 = .int .i64 ((k + 1 : Nat) : Int) ∧ Hid (ordA (es.getD 0 0) (es.drop 1) = ordA (es.getD k 0) (es.drop (k + 1))) ∧ Below w.heap.size w wr) (fun v6 _ => es.length + 1 - (intOf v6).toNat)
      case atStart => exact ⟨0, by omega, rfl, by exact rfl, hB⟩
      case round =>
        clear hB
        obtain ⟨k, hk, rfl, HO, hB⟩ := hrel
        by_cases hlt : k + 1 < es.length
        · have hd : decide (k + 1 < es.length) = true := decide_eq_true hlt
          obtain ⟨B, o, rfl, k1⟩ := hx (k + 1) _ (List.getElem?_eq_getElem hlt)
          have r1 := (hB.cell (p := ⟨B, o + (k + 1), none⟩) (World.block_lt_of_cell? w _ k1)).trans k1
          obtain ⟨B', o', e', k0⟩ := hx k _ (List.getElem?_eq_getElem (show k < es.length by omega))
          cases e'
          have r0 := (hB.cell (p := ⟨B, o + k, none⟩) (World.block_lt_of_cell? w _ k0)).trans k0
          have hli : ((k + 1 : Nat) : Int) < (es.length : Int) := by omega
          have hli2 : (k : Int) < (es.length : Int) := by omega
          have hdr : Hid (ordA (es.getD 0 0) (es.drop 1) = (decide (es[k + 1] ≤ es[k]) || ordA (es.getD (k + 1) 0) (es.drop (k + 2)))) := by
            show _ = _
            rw [HO.out, List.drop_eq_getElem_cons hlt, ordA, getD_get hlt, getD_get (show k < es.length by omega)]
          clear HO k1 k0
          generalize es[k + 1] = x at r1 hdr
          generalize es[k] = y at r0 hdr
          by_cases hxy : x ≤ y
          · have q1 : decide (x ≤ y) = true := decide_eq_true hxy
            have HR : Hid (chkR n es = 21) := by
              show chkR n es = 21
              rw [HC2.out, hdr.out, q1]; rfl
            clear hxy hdr HC2 hx
            go_wp2
            go_quiet (fail)
            go_wp2
            go_ret
            exact ⟨by rw [HR.out]; rfl, below_drewI hB _⟩
          · have q1 : decide (x ≤ y) = false := decide_eq_false hxy
            have HN : Hid (ordA (es.getD 0 0) (es.drop 1) = ordA (es.getD (k + 1) 0) (es.drop (k + 2))) := by
              show _ = _
              rw [hdr.out, q1]; rfl
            clear hxy hdr HC2 hx
            go_wp2
            go_quiet (fail)
            go_wp2
            exact ⟨⟨k + 1, by omega, by go_num, HN, below_drewI hB _⟩, by simp [intOf]; omega⟩
        · have hd : decide (k + 1 < es.length) = false := decide_eq_false hlt
          have HR : Hid (chkR n es = 0) := by
            show chkR n es = 0
            rw [HC2.out, HO.out, List.drop_eq_nil_of_le (by omega)]; rfl
          clear HC2 HO hx
          go_wp2
          go_ret
          exact ⟨by rw [HR.out]; rfl, hB⟩
end Go.Proofs.YtpophgfjdlkgiaaGreatDoor
