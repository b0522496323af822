/- 'AsmMoves' answers true: where an address does not serve. -/
import Derived.Test.YtadkilofkpmpgaaDoorBytO
import Derived.Test.YtadkilofkpmpgaaDoorAw5
namespace Go.Proofs.YtadkilofkpmpgaaDoor
open Go Go.RowKit
set_option maxRecDepth 100000
theorem of_some (b : Int) (h0 : 0 ≤ b) (h1 : b < 256) : ∃ s m k g, ∀ W : World, Calls Tryd.prog 8 #[.int .u8 b] W fun e w' => e = .returned (.tuple #[.agg #[.string s, .int .i64 m, .int .i64 k], .int .i64 g]) ∧ Below W.heap.size W w' := by
  have h := fun W => of_calls b h0 h1 W
  unfold ofV at h
  split at h
  · exact ⟨_, _, _, _, h⟩
  · exact ⟨_, _, _, _, h⟩
theorem byt_errL (b : Nat) (n a e : Int) (h : b < 256) (he : bytE b n a = some e) (w : World) (hk : Rk.Knows kn5 w) :
    Calls Tryd.prog 7 #[.agg #[.int .u8 (b : Int), .int .i64 n], .int .i64 a] w fun r w' => r = .returned (.tuple #[.slice none 0 0, .int .i64 e]) ∧ Below w.heap.size w w' := byt_err b n a e h he w hk
/-- The bytes of a line at an address, as numbers. -/
def outI (b n : Int) (i : Nat) : List Int := b :: (List.range i).map fun k => n / 256 ^ k % 256
def bytI (b : Nat) (n a : Int) : List Int := if opMode (Int.ofNat b) = 12 then outI b (n - (a + 2)) 1 else outI b n ((lenM (opMode (Int.ofNat b))).toNat - 1)
theorem outV_I (b n : Int) (i : Nat) : outV b n i = (outI b n i).map (Value.int .u8) := by
  simp only [outV, outI, List.map_cons, List.map_map]
  rfl
theorem bytL_I (b : Nat) (n a : Int) : bytL b n a = (bytI b n a).map (Value.int .u8) := by
  unfold bytL bytI
  split <;> exact outV_I _ _ _
/-- From a cell on these bytes lie. -/
abbrev CellsAt (W : World) (g o : Nat) (xs : List Int) : Prop := ∀ j x, xs[j]? = some x → W.cell? ⟨g, o + j, none⟩ = some (.int .u8 x)
theorem CellsAt.below {W W2 : World} {g o : Nat} {xs : List Int} (h : CellsAt W g o xs) (hb : Below W.heap.size W W2) : CellsAt W2 g o xs := fun j x hj =>
  (hb.cell (p := ⟨g, o + j, none⟩) (World.block_lt_of_cell? W _ (h j x hj))).trans (h j x hj)
theorem CellsAt.alloc {W : World} {g o : Nat} {xs : List Int} (h : CellsAt W g o xs) (ob : Obj) : CellsAt (W.alloc ob) g o xs := h.below ((Below.refl W.heap.size W).alloc (Nat.le_refl _) ob)
theorem good_len (b : Nat) (n a : Int) (h : b < 256) (he : bytE b n a = none) : (opName (Int.ofNat b)).isEmpty = false ∧ 0 ≤ opMode (Int.ofNat b) ∧ opMode (Int.ofNat b) < 13 ∧ 1 ≤ lenM (opMode (Int.ofNat b)) ∧ lenM (opMode (Int.ofNat b)) ≤ 3 := by
  unfold bytE at he
  split at he
  · cases he
  · rename_i ho
    have ho' : (opName (Int.ofNat b)).isEmpty = false := by simpa using ho
    have hmo := List.all_eq_true.1 modes_ok b (mem_good b h ho')
    simp only [Bool.and_eq_true, decide_eq_true_eq] at hmo
    exact ⟨ho', hmo.1.1.1, hmo.1.1.2, hmo.1.2, hmo.2⟩
theorem byt_okC (b : Nat) (n a : Int) (h : b < 256) (he : bytE b n a = none) (w : World) (hk : Rk.Knows kn5 w) :
    Calls Tryd.prog 7 #[.agg #[.int .u8 (b : Int), .int .i64 n], .int .i64 a] w fun r w' => ∃ g cap, r = .returned (.tuple #[.slice (some ⟨g, 0, none⟩) (lenM (opMode (Int.ofNat b))).toNat cap, .int .i64 0]) ∧ CellsAt w' g 0 (bytI b n a) ∧ Below w.heap.size w w' :=
  (byt_ok b n a h he w hk).mono fun r w' ⟨v, hr, hown, hB⟩ => by
    have hg := good_len b n a h he
    obtain ⟨g, cap, rfl, hc⟩ := row_cells hown (by omega)
    refine ⟨g, cap, hr, fun j x hj => hc j _ ?_, hB⟩
    rw [bytL_I, List.getElem?_map, hj]
    rfl
theorem bytI_len (b : Nat) (n a : Int) (h : b < 256) (he : bytE b n a = none) : (bytI b n a).length = (lenM (opMode (Int.ofNat b))).toNat := by
  have hg := good_len b n a h he
  unfold bytI
  split
  · rename_i h12
    rw [h12]; rfl
  · simp only [outI, List.length_cons, List.length_map, List.length_range]
    omega
theorem bytI_0 (b : Nat) (n a : Int) : (bytI b n a)[0]? = some (b : Int) := by
  unfold bytI
  split <;> rfl
set_option maxHeartbeats 1600000 in
/-- Where neither address serves. -/
theorem mov_ee (b : Nat) (n a t ea eb : Int) (h : b < 256) (ha : bytE b n a = some ea) (ht : bytE b n t = some eb) (na : ¬ ea = 0) (nb : ¬ eb = 0) (w : World) (hk : Rk.Knows kn5 w) :
    Calls Tryd.prog 3 #[.agg #[.int .u8 (b : Int), .int .i64 n], .int .i64 a, .int .i64 t] w fun e w' => e = .returned (.bool true) ∧ Below w.heap.size w w' := by
  have c1 : ∀ (x e : Int), bytE b n x = some e → ∀ W, Below w.heap.size w W → Calls Tryd.prog 7 #[.agg #[.int .u8 (b : Int), .int .i64 n], .int .i64 x] W fun r w' => r = .returned (.tuple #[.slice none 0 0, .int .i64 e]) ∧ Below W.heap.size W w' := fun x e hx W hW => byt_errL b n x e h hx W (hk.below hW)
  have c3 := fun W hW => awake5_calls W (hk.below hW)
  obtain ⟨s, m, k, g, c4⟩ := of_some (b : Int) (by omega) (by omega)
  have hB := (Below.refl w.heap.size w).alloc (Nat.le_refl _) (.cells #[.int .u8 (b : Int), .int .i64 n] 23)
  have hbx : boxAt (w.alloc (.cells #[.int .u8 (b : Int), .int .i64 n] 23)) w.heap.size [.int .u8 (b : Int), .int .i64 n] 23 := by
    unfold boxAt; rw [heap_alloc_new]
  have d1 : (ea == 0) = false := beq_eq_false_iff_ne.2 na
  have d3 : (ea != 0) = true := by rw [bne, d1]; rfl
  have d2 : (eb == 0) = false := beq_eq_false_iff_ne.2 nb
  have d4 : (eb != 0) = true := by rw [bne, d2]; rfl
  clear na nb hk h
  have f1 := True.intro
  have f2 := True.intro
  go_enter Tryd.func3, Tryd.ntmps3
  go_wp2_with (first
    | (clear f1; go_at_call 7; refine (c1 a _ ha _ hB).mono ?_; rintro e w2 ⟨rfl, hw2⟩; replace hB := stepB' hB hw2; replace hbx := hbx.below hw2; have q0 := hbx.cell 0; have q1 := hbx.cell 1)
    | (clear f2; go_at_call 7; refine (c1 t _ ht _ hB).mono ?_; rintro e w2 ⟨rfl, hw2⟩; replace hB := stepB' hB hw2; replace hbx := hbx.below hw2; have q0 := hbx.cell 0; have q1 := hbx.cell 1)
    | (go_at_call 8; refine (c4 _).mono ?_; rintro e w2 ⟨rfl, hw2⟩; replace hB := stepB' hB hw2; replace hB := hB.alloc hB.size (.cells #[.string s, .int .i64 m, .int .i64 k] 29))
    | (go_at_call 9; refine (c3 _ hB).mono ?_; rintro e w2 ⟨rfl, hw2⟩; replace hB := stepB' hB hw2))
  go_ret
  exact ⟨rfl, hB⟩
set_option maxHeartbeats 1600000 in
/-- Where the first does not serve. -/
theorem mov_eo (b : Nat) (n a t ea : Int) (h : b < 256) (ha : bytE b n a = some ea) (ht : bytE b n t = none) (na : ¬ ea = 0) (w : World) (hk : Rk.Knows kn5 w) :
    Calls Tryd.prog 3 #[.agg #[.int .u8 (b : Int), .int .i64 n], .int .i64 a, .int .i64 t] w fun e w' => e = .returned (.bool true) ∧ Below w.heap.size w w' := by
  have c1 : ∀ (x e : Int), bytE b n x = some e → ∀ W, Below w.heap.size w W → Calls Tryd.prog 7 #[.agg #[.int .u8 (b : Int), .int .i64 n], .int .i64 x] W fun r w' => r = .returned (.tuple #[.slice none 0 0, .int .i64 e]) ∧ Below W.heap.size W w' := fun x e hx W hW => byt_errL b n x e h hx W (hk.below hW)
  have c2 := fun x hx W (hW : Below w.heap.size w W) => byt_okC b n x h hx W (hk.below hW)
  have c3 := fun W hW => awake5_calls W (hk.below hW)
  obtain ⟨s, m, k, g, c4⟩ := of_some (b : Int) (by omega) (by omega)
  have hB := (Below.refl w.heap.size w).alloc (Nat.le_refl _) (.cells #[.int .u8 (b : Int), .int .i64 n] 23)
  have hbx : boxAt (w.alloc (.cells #[.int .u8 (b : Int), .int .i64 n] 23)) w.heap.size [.int .u8 (b : Int), .int .i64 n] 23 := by
    unfold boxAt; rw [heap_alloc_new]
  generalize (lenM (opMode (Int.ofNat b))).toNat = L at c2
  have d1 : (ea == 0) = false := beq_eq_false_iff_ne.2 na
  have d3 : (ea != 0) = true := by rw [bne, d1]; rfl
  clear na hk h
  have f1 := True.intro
  have f2 := True.intro
  go_enter Tryd.func3, Tryd.ntmps3
  go_wp2_with (first
    | (clear f1; go_at_call 7; refine (c1 a _ ha _ hB).mono ?_; rintro e w2 ⟨rfl, hw2⟩; replace hB := stepB' hB hw2; replace hbx := hbx.below hw2; have q0 := hbx.cell 0; have q1 := hbx.cell 1)
    | (clear f2; go_at_call 7; refine (c2 t ht _ hB).mono ?_; rintro e w2 ⟨g2, cap2, rfl, hc2, hw2⟩; replace hB := stepB' hB hw2; replace hbx := hbx.below hw2; have q0 := hbx.cell 0; have q1 := hbx.cell 1)
    | (go_at_call 8; refine (c4 _).mono ?_; rintro e w2 ⟨rfl, hw2⟩; replace hB := stepB' hB hw2; replace hB := hB.alloc hB.size (.cells #[.string s, .int .i64 m, .int .i64 k] 29))
    | (go_at_call 9; refine (c3 _ hB).mono ?_; rintro e w2 ⟨rfl, hw2⟩; replace hB := stepB' hB hw2))
  go_ret
  exact ⟨rfl, hB⟩
set_option maxHeartbeats 1600000 in
/-- Where the second does not serve. -/
theorem mov_oe (b : Nat) (n a t eb : Int) (h : b < 256) (ha : bytE b n a = none) (ht : bytE b n t = some eb) (nb : ¬ eb = 0) (w : World) (hk : Rk.Knows kn5 w) :
    Calls Tryd.prog 3 #[.agg #[.int .u8 (b : Int), .int .i64 n], .int .i64 a, .int .i64 t] w fun e w' => e = .returned (.bool true) ∧ Below w.heap.size w w' := by
  have c1 : ∀ (x e : Int), bytE b n x = some e → ∀ W, Below w.heap.size w W → Calls Tryd.prog 7 #[.agg #[.int .u8 (b : Int), .int .i64 n], .int .i64 x] W fun r w' => r = .returned (.tuple #[.slice none 0 0, .int .i64 e]) ∧ Below W.heap.size W w' := fun x e hx W hW => byt_errL b n x e h hx W (hk.below hW)
  have c2 := fun x hx W (hW : Below w.heap.size w W) => byt_okC b n x h hx W (hk.below hW)
  have c3 := fun W hW => awake5_calls W (hk.below hW)
  obtain ⟨s, m, k, g, c4⟩ := of_some (b : Int) (by omega) (by omega)
  have hB := (Below.refl w.heap.size w).alloc (Nat.le_refl _) (.cells #[.int .u8 (b : Int), .int .i64 n] 23)
  have hbx : boxAt (w.alloc (.cells #[.int .u8 (b : Int), .int .i64 n] 23)) w.heap.size [.int .u8 (b : Int), .int .i64 n] 23 := by
    unfold boxAt; rw [heap_alloc_new]
  generalize (lenM (opMode (Int.ofNat b))).toNat = L at c2
  have d1 : (eb == 0) = false := beq_eq_false_iff_ne.2 nb
  have d3 : (eb != 0) = true := by rw [bne, d1]; rfl
  clear nb hk h
  have f1 := True.intro
  have f2 := True.intro
  go_enter Tryd.func3, Tryd.ntmps3
  go_wp2_with (first
    | (clear f1; go_at_call 7; refine (c2 a ha _ hB).mono ?_; rintro e w2 ⟨g2, cap2, rfl, hc2, hw2⟩; replace hB := stepB' hB hw2; replace hbx := hbx.below hw2; have q0 := hbx.cell 0; have q1 := hbx.cell 1)
    | (clear f2; go_at_call 7; refine (c1 t _ ht _ hB).mono ?_; rintro e w2 ⟨rfl, hw2⟩; replace hB := stepB' hB hw2; replace hbx := hbx.below hw2; have q0 := hbx.cell 0; have q1 := hbx.cell 1)
    | (go_at_call 8; refine (c4 _).mono ?_; rintro e w2 ⟨rfl, hw2⟩; replace hB := stepB' hB hw2; replace hB := hB.alloc hB.size (.cells #[.string s, .int .i64 m, .int .i64 k] 29))
    | (go_at_call 9; refine (c3 _ hB).mono ?_; rintro e w2 ⟨rfl, hw2⟩; replace hB := stepB' hB hw2))
  go_ret
  exact ⟨rfl, hB⟩
end Go.Proofs.YtadkilofkpmpgaaDoor
