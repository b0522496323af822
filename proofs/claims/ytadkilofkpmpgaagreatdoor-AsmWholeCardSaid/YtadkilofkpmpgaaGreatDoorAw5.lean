/- The chapter's examples hold. -/
import Derived.Test.YtadkilofkpmpgaaGreatDoorPrtA
import Derived.Test.YtadkilofkpmpgaaGreatDoorBytR
import Derived.Test.YtadkilofkpmpgaaGreatDoorCmp
namespace Go.Proofs.YtadkilofkpmpgaaGreatDoor
open Go Go.RowKit
set_option maxRecDepth 100000
/-- A row of one's own read cell by cell. -/
theorem row_cells {W : World} {base : Nat} {e : TypeId} {v : Value} {k : Nat} {xs : List Value} (h : W.ownsRow base e 1 v k xs) (hk : 0 < k) :
    ∃ g cap, v = .slice (some ⟨g, 0, none⟩) k cap ∧ ∀ j x, xs[j]? = some x → W.cell? ⟨g, 0 + j, none⟩ = some x := by
  rcases h.2 with ⟨_, h0⟩ | ⟨g, cap, cur, hv, _, hg, _, _, _, ht⟩
  · omega
  · refine ⟨g, cap, hv, fun j x hj => ?_⟩
    rw [cell_of_row W g (0 + j) _ _ _ hg, Nat.zero_add]
    rw [← ht] at hj
    rw [List.getElem?_take] at hj
    split at hj
    · rw [← hj]; simp
    · cases hj
theorem pr_lda : printL 169 16 = [76, 68, 65, 32, 35, 36, 49, 48] := by decide +kernel
theorem awake5_calls (w : World) (hk : Rk.Knows kn5 w) : Calls Tryz.prog 6 #[] w fun e w' => e = .returned (.bool true) ∧ Below w.heap.size w w' := by
  have hB := Below.refl w.heap.size w
  have hp : ∀ W, Below w.heap.size w W → Calls Tryz.prog 7 #[.agg #[.int .u8 169, .int .i64 16]] W fun e w' => e = .returned (.tuple #[.string ⟨#[76, 68, 65, 32, 35, 36, 49, 48]⟩, .int .i64 0]) ∧ Below W.heap.size W w' := fun W hW => by
    have := print_in 169 16 (by decide) (by decide +kernel) (by decide) (by decide +kernel) W (hk.below hW)
    rw [pr_lda] at this
    exact this
  have hb : ∀ W, Below w.heap.size w W → Calls Tryz.prog 17 #[.agg #[.int .u8 208, .int .i64 510], .int .i64 512] W fun e w' => ∃ v, e = .returned (.tuple #[v, .int .i64 0]) ∧ w'.ownsRow W.heap.size 5 1 v 2 (outV 208 (510 - (512 + 2)) 1) ∧ Below W.heap.size W w' := fun W hW =>
    byt_rel 208 510 512 (by decide) (by decide +kernel) (by decide +kernel) (by decide) (by decide +kernel) (by decide) (by decide) (by decide) W (hk.below hW)
  go_enter Tryz.func6, Tryz.ntmps6
  go_wp2_with (first
    | (go_at_call 7; refine (hp _ hB).mono ?_; rintro e w2 ⟨rfl, hw2⟩; replace hB := hB.trans (hw2.mono hB.size))
    | (go_at_call 17; refine (hb _ hB).mono ?_; rintro e w3 ⟨v, rfl, hown, hw3⟩; replace hB := hB.trans (hw3.mono hB.size); obtain ⟨g, cap, rfl, hcell⟩ := row_cells hown (by decide)))
  have e1 : outV 208 (510 - (512 + 2)) 1 = [Value.int .u8 208, Value.int .u8 252] := by kernel_rfl
  rw [e1] at hcell
  have hA := (Below.refl w3.heap.size w3).alloc (Nat.le_refl _) (.cells #[Value.int .u8 208, Value.int .u8 252] 5)
  have hB3 := hB.alloc hB.size (.cells #[Value.int .u8 208, Value.int .u8 252] 5)
  have hc := cmp_calls (some ⟨g, 0, none⟩) (some ⟨w3.heap.size, 0, none⟩) 2 2 cap 2 [208, 252] [208, 252] (w3.alloc (.cells #[Value.int .u8 208, Value.int .u8 252] 5)) rfl rfl (by decide)
    (fun j x hj => ⟨g, 0, rfl, by
      have hj2 : [Value.int .u8 208, Value.int .u8 252][j]? = some (.int .u8 x) := by
        match j, hj with
        | 0, hj => simp at hj; subst hj; rfl
        | 1, hj => simp at hj; subst hj; rfl
      have hcj := hcell j _ hj2
      rw [hA.cell (p := ⟨g, 0 + j, none⟩) (World.block_lt_of_cell? w3 _ hcj)]
      exact hcj⟩)
    (fun j x hj => ⟨w3.heap.size, 0, rfl, by
      have hj2 : [Value.int .u8 208, Value.int .u8 252][j]? = some (.int .u8 x) := by
        match j, hj with
        | 0, hj => simp at hj; subst hj; rfl
        | 1, hj => simp at hj; subst hj; rfl
      rw [cell_of_row _ w3.heap.size (0 + j) _ _ _ (heap_alloc_new w3 _), Nat.zero_add]
      simpa using hj2⟩)
  clear hcell hown hp hb hk
  go_wp2_with (go_at_call 15; refine hc.mono ?_; rintro e w4 ⟨rfl, hw4⟩; replace hB3 := hB3.trans (hw4.mono hB3.size))
  go_ret
  exact ⟨rfl, hB3⟩
end Go.Proofs.YtadkilofkpmpgaaGreatDoor
