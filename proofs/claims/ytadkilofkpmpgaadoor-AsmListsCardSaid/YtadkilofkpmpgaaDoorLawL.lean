/- 'AsmLists' answers true. -/
import Derived.Test.YtadkilofkpmpgaaDoorLstW
import Derived.Test.YtadkilofkpmpgaaDoorRlstW
namespace Go.Proofs.YtadkilofkpmpgaaDoor
open Go Go.RowKit
set_option maxRecDepth 100000
theorem at_of {W : World} {p : Option Addr} {xs : List Int} (hx : SlAt W p xs) : ∃ B o, CellsAt W B o xs ∧ (xs = [] ∨ p = some ⟨B, o, none⟩) := by
  match xs, hx with
  | [], _ => exact ⟨0, 0, fun j x hj => by simp at hj, .inl rfl⟩
  | x :: r, hx =>
    obtain ⟨B, o, rfl, _⟩ := hx 0 x rfl
    refine ⟨B, o, fun j y hj => ?_, .inr rfl⟩
    obtain ⟨B', o', e, h⟩ := hx j y hj
    cases e
    exact h
set_option maxHeartbeats 1600000 in
theorem list_long (p : Option Addr) (L c : Nat) (a : Int) (hL : 65536 < L) (w : World) :
    Calls Tryd.prog 16 #[.slice p L c, .int .i64 a] w fun e w' => e = .returned (.tuple #[.string ⟨⟨[]⟩⟩, .int .i64 0, .int .i64 12]) ∧ Below w.heap.size w w' := by
  have hB := Below.refl w.heap.size w
  have d1 : decide ((L : Int) > 65536) = true := decide_eq_true (by omega)
  clear hL
  go_enter Tryd.func16, Tryd.ntmps16
  go_wp2
  go_step3
  go_wp2
  rw [Exit.noGoto_ret]
  refine bodyPost_ret (v := .tuple #[.string ⟨⟨[]⟩⟩, .int .i64 0, .int .i64 12]) (by simp [results, Tryd.results16, go_sem]) rfl ⟨rfl, hB⟩
set_option maxHeartbeats 1600000 in
theorem lists_calls (p : Option Addr) (xs : List Int) (c : Nat) (a : Int) (w : World) (hk : Rk.Knows kn5 w) (hx : SlAt w p xs) (hb : ∀ x ∈ xs, 0 ≤ x ∧ x < 256) (hc : xs.length ≤ c) :
    Calls Tryd.prog 5 #[.slice p xs.length c, .int .i64 a] w fun e w' => e = .returned (.bool true) ∧ Below w.heap.size w w' := by
  have c3 := fun W hW => awake5_calls W (hk.below hW)
  have hB := Below.refl w.heap.size w
  by_cases h1 : xs.length ≤ 200
  · have c1 : ∀ W, Below w.heap.size w W → Calls Tryd.prog 16 #[.slice p xs.length c, .int .i64 a] W fun e w' => e = .returned (.tuple #[.string ⟨⟨(lstR xs a).1⟩⟩, .int .i64 (lstR xs a).2.1, .int .i64 (lstR xs a).2.2]) ∧ Below W.heap.size W w' := fun W hW => by
      obtain ⟨B, o, h, hq⟩ := at_of (hx.below hW)
      exact list_gen B o c p xs a W (hk.below hW) h hb (by omega) hc hq
    have c2 : ∀ W, Below w.heap.size w W → Calls Tryd.prog 17 #[.slice p xs.length c, .int .i64 a] W fun e w' => e = .returned (.tuple #[.string ⟨⟨(lstR xs a).1⟩⟩, .int .i64 (lstR xs a).2.1, .int .i64 (lstR xs a).2.2]) ∧ Below W.heap.size W w' := fun W hW => by
      obtain ⟨B, o, h, hq⟩ := at_of (hx.below hW)
      exact rlist_gen B o c p xs a W h hb (by omega) hc hq
    have d1 : decide ((xs.length : Int) > 200) = false := decide_eq_false (by omega)
    have d2 : decide ((xs.length : Int) > 70000) = false := decide_eq_false (by omega)
    have d3 : decide ((xs.length : Int) > 65536) = false := decide_eq_false (by omega)
    generalize lstR xs a = R at c1 c2
    obtain ⟨t, i, er⟩ := R
    generalize xs.length = L at c1 c2 d1 d2 d3 ⊢
    clear hx hb hc h1 hk
    go_enter Tryd.func5, Tryd.ntmps5
    go_wp2_with (first
      | (go_at_call 16; refine (c1 _ hB).mono ?_; rintro e w2 ⟨rfl, hw2⟩; replace hB := stepB' hB hw2)
      | (go_at_call 17; refine (c2 _ hB).mono ?_; rintro e w3 ⟨rfl, hw3⟩; replace hB := stepB' hB hw3)
      | (go_at_call 9; refine (c3 _ hB).mono ?_; rintro e w4 ⟨rfl, hw4⟩; replace hB := stepB' hB hw4))
    go_ret
    exact ⟨rfl, hB⟩
  · by_cases h2 : xs.length ≤ 65536 ∨ 70000 < xs.length
    · have d1 : decide ((xs.length : Int) > 200) = true := decide_eq_true (by omega)
      have d2 : decide ((xs.length : Int) ≤ 65536) = true ∨ (decide ((xs.length : Int) ≤ 65536) = false ∧ decide ((xs.length : Int) > 70000) = true) := by
        by_cases h3 : xs.length ≤ 65536
        · exact .inl (decide_eq_true (by omega))
        · exact .inr ⟨decide_eq_false (by omega), decide_eq_true (by omega)⟩
      clear hx hb hc h1 hk h2
      generalize xs.length = L at d1 d2 ⊢
      rcases d2 with d2 | ⟨d2, d3⟩
      all_goals
        go_enter Tryd.func5, Tryd.ntmps5
        go_wp2_with (go_at_call 9; refine (c3 _ hB).mono ?_; rintro e w4 ⟨rfl, hw4⟩; replace hB := stepB' hB hw4)
        go_ret
        exact ⟨rfl, hB⟩
    · have c1 := fun W => list_long p xs.length c a (by omega) W
      have d1 : decide ((xs.length : Int) > 200) = true := decide_eq_true (by omega)
      have d2 : decide ((xs.length : Int) ≤ 65536) = false := decide_eq_false (by omega)
      have d3 : decide ((xs.length : Int) > 70000) = false := decide_eq_false (by omega)
      have d4 : decide ((xs.length : Int) > 65536) = true := decide_eq_true (by omega)
      clear hx hb hc h1 hk h2
      generalize xs.length = L at d1 d2 d3 d4 c1 ⊢
      go_enter Tryd.func5, Tryd.ntmps5
      go_wp2_with (first
        | (go_at_call 16; refine (c1 _).mono ?_; rintro e w2 ⟨rfl, hw2⟩; replace hB := stepB' hB hw2)
        | (go_at_call 9; refine (c3 _ hB).mono ?_; rintro e w4 ⟨rfl, hw4⟩; replace hB := stepB' hB hw4))
      go_ret
      exact ⟨rfl, hB⟩
end Go.Proofs.YtadkilofkpmpgaaDoor
