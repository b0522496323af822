/- 'AsmBack' answers true. -/
import Derived.Test.YtadkilofkpmpgaaDoorBkP
import Derived.Test.YtadkilofkpmpgaaDoorBkB
import Derived.Test.YtadkilofkpmpgaaDoorParM
import Derived.Test.YtadkilofkpmpgaaDoorMovA
import Derived.Test.YtadkilofkpmpgaaDoorRdC
namespace Go.Proofs.YtadkilofkpmpgaaDoor
open Go Go.RowKit
set_option maxRecDepth 100000
/-- What is wrong with a line. -/
def wrongL (b : Nat) (n : Int) : Int := if (opName (Int.ofNat b)).isEmpty = true then 13 else if n < 0 ∨ limM (opMode (Int.ofNat b)) ≤ n then 10 else 0
theorem parse_calls (s : ByteArray) (hs : s.size ≤ 65536) (w : World) (hk : Rk.Knows kn5 w) (he : ErrV w) :
    Calls Tryd.prog 19 #[.string s] w fun e w' => e = .returned (pv3 (parseW s.data.toList)) ∧ Below w.heap.size w w' := by
  by_cases h : s.size < 3
  · exact par_short s h w
  · cases haz : (s.data.toList.take 3).all isAZ with
    | false => exact par_form s h haz w
    | true => exact par_main s h hs haz w hk he
theorem sl_some {W : World} {p : Option Addr} : ∀ {xs : List Int}, SlAt W p xs → xs ≠ [] → ∃ B oo, p = some ⟨B, oo, none⟩
  | [], _, h => absurd rfl h
  | x :: r, hx, _ => by
    obtain ⟨B, oo, e, _⟩ := hx 0 x rfl
    exact ⟨B, oo, e⟩
theorem cmp_same (p1 p2 : Option Addr) (n c1 c2 : Nat) (ys : List Int) (w : World) (hl : n = ys.length) (hb : n ≤ 65536) (h1 : SlAt w p1 ys) (h2 : SlAt w p2 ys) :
    Calls Tryd.prog 11 #[.slice p1 n c1, .slice p2 n c2] w fun e w' => e = .returned (.bool true) ∧ Below w.heap.size w w' := by
  have h := cmp_calls p1 p2 n n c1 c2 ys ys w hl hl hb h1 h2
  rw [show decide (ys = ys) = true by simp] at h
  exact h
theorem print_err (b : Nat) (n : Int) (h : b < 256) (hw : wrongL b n ≠ 0) (w : World) (hk : Rk.Knows kn5 w) :
    Calls Tryd.prog 18 #[.agg #[.int .u8 (b : Int), .int .i64 n]] w fun e w' => e = .returned (.tuple #[.string ⟨⟨[]⟩⟩, .int .i64 (wrongL b n)]) ∧ Below w.heap.size w w' := by
  unfold wrongL at hw ⊢
  by_cases ho : (opName (Int.ofNat b)).isEmpty = true
  · rw [if_pos ho]
    exact print_bad b n h ho w hk
  · rw [if_neg ho] at hw ⊢
    by_cases hn : n < 0 ∨ limM (opMode (Int.ofNat b)) ≤ n
    · rw [if_pos hn]
      exact print_out b n h (by simpa using ho) hn w hk
    · rw [if_neg hn] at hw
      exact absurd rfl hw
theorem wrongL_0 (b : Nat) (n : Int) (hw : wrongL b n = 0) : (opName (Int.ofNat b)).isEmpty = false ∧ 0 ≤ n ∧ n < limM (opMode (Int.ofNat b)) := by
  unfold wrongL at hw
  by_cases ho : (opName (Int.ofNat b)).isEmpty = true
  · rw [if_pos ho] at hw; cases hw
  · rw [if_neg ho] at hw
    by_cases hn : n < 0 ∨ limM (opMode (Int.ofNat b)) ≤ n
    · rw [if_pos hn] at hw; cases hw
    · exact ⟨by simpa using ho, by omega, by omega⟩
theorem outI_bd (b n : Int) (i : Nat) (h0 : 0 ≤ b) (h1 : b < 256) : ∀ x ∈ outI b n i, 0 ≤ x ∧ x < 256 := by
  intro x hx
  unfold outI at hx
  rcases List.mem_cons.1 hx with rfl | hx
  · exact ⟨h0, h1⟩
  · obtain ⟨k, _, rfl⟩ := List.mem_map.1 hx
    omega
theorem bytI_bd (b : Nat) (n a : Int) (h : b < 256) : ∀ x ∈ bytI b n a, 0 ≤ x ∧ x < 256 := by
  unfold bytI
  split
  · exact outI_bd _ _ _ (by omega) (by omega)
  · exact outI_bd _ _ _ (by omega) (by omega)
set_option maxHeartbeats 1600000 in
theorem back_long (b n : Int) (p : Option Addr) (L c : Nat) (a : Int) (hL : 10 < L) (w : World) (hk : Rk.Knows kn5 w) :
    Calls Tryd.prog 6 #[.agg #[.int .u8 b, .int .i64 n], .slice p L c, .int .i64 a] w fun e w' => e = .returned (.bool true) ∧ Below w.heap.size w w' := by
  have c3 := fun W hW => awake5_calls W (hk.below hW)
  have hB := (Below.refl w.heap.size w).alloc (Nat.le_refl _) (.cells #[.int .u8 b, .int .i64 n] 23)
  have d1 : decide ((L : Int) > 10) = true := decide_eq_true (by omega)
  clear hL hk
  go_enter Tryd.func6, Tryd.ntmps6
  go_wp2_with (go_at_call 9; refine (c3 _ hB).mono ?_; rintro e w2 ⟨rfl, hw2⟩; replace hB := stepB' hB hw2)
  go_ret
  exact ⟨rfl, hB⟩
set_option maxHeartbeats 800000 in
theorem back_Ee (b : Nat) (n a : Int) (h : b < 256) (p : Option Addr) (xs : List Int) (c : Nat) (hL : xs.length ≤ 10) (hc : xs.length ≤ c) (w : World) (hk : Rk.Knows kn5 w) (hev : ErrV w)
    (hx : SlAt w p xs) (hb : ∀ x ∈ xs, 0 ≤ x ∧ x < 256) (hp : xs = [] → p = none ∨ ∃ B o, p = some ⟨B, o, none⟩) (hw : wrongL b n ≠ 0) (her : (readW xs a).2.2.2 ≠ 0) :
    Calls Tryd.prog 6 #[.agg #[.int .u8 (b : Int), .int .i64 n], .slice p xs.length c, .int .i64 a] w fun e w' => e = .returned (.bool true) ∧ Below w.heap.size w w' := by
  have _ := hev
  have cA := fun W hW => awake5_calls W (hk.below hW)
  have cR2 := fun W (hW : Below w.heap.size w W) => read_calls p c xs a W (hx.below hW) hb hp
  have cP := fun W (hW : Below w.heap.size w W) => print_err b n h hw W (hk.below hW)
  have d2 : (wrongL b n == 0) = false := beq_eq_false_iff_ne.2 hw
  generalize wrongL b n = ep at cP d2
  have _ := hc
  obtain ⟨r1, r2, r3⟩ := readW_err xs a her
  have d3 : ((readW xs a).2.2.2 == 0) = false := beq_eq_false_iff_ne.2 her
  have d4 : ((readW xs a).2.2.2 != 0) = true := by rw [bne, d3]; rfl
  generalize readW xs a = R at cR2 r1 r2 r3 d3 d4 her
  obtain ⟨o, m, z, er⟩ := R
  simp only at r1 r2 r3 d3 d4 cR2
  subst r1 r2 r3
  have d1 : decide ((xs.length : Int) > 10) = false := decide_eq_false (by omega)
  have hB := (Below.refl w.heap.size w).alloc (Nat.le_refl _) (.cells #[.int .u8 (b : Int), .int .i64 n] 23)
  have hbx : boxAt (w.alloc (.cells #[.int .u8 (b : Int), .int .i64 n] 23)) w.heap.size [.int .u8 (b : Int), .int .i64 n] 23 := by
    unfold boxAt; rw [heap_alloc_new]
  generalize xs.length = L at *
  clear hL hc hk hev hb hp h hw her hx
  have f1 := True.intro
  have f2 := True.intro
  go_enter Tryd.func6, Tryd.ntmps6
  go_wp2_with (first
    | (go_at_call 18; refine (cP _ hB).mono ?_; rintro e w2 ⟨rfl, hw2⟩; replace hB := stepB' hB hw2; replace hbx := hbx.below hw2; have q0 := hbx.cell 0; have q1 := hbx.cell 1)
    | (go_at_call 14; refine (cR2 _ hB).mono ?_; rintro e w6 ⟨rfl, hw6⟩; replace hB := stepB' hB hw6; replace hbx := hbx.below hw6; have q0 := hbx.cell 0; have q1 := hbx.cell 1; replace hB := hB.alloc hB.size (.cells #[.int .u8 0, .int .i64 0] 23); replace hbx := hbx.alloc (.cells #[.int .u8 0, .int .i64 0] 23); have q0 := hbx.cell 0; have q1 := hbx.cell 1)
    | (go_at_call 9; refine (cA _ hB).mono ?_; rintro e w9 ⟨rfl, hw9⟩; replace hB := stepB' hB hw9))
  go_ret
  exact ⟨rfl, hB⟩
set_option maxHeartbeats 800000 in
theorem back_Ek (b : Nat) (n a : Int) (h : b < 256) (p : Option Addr) (xs : List Int) (c : Nat) (hL : xs.length ≤ 10) (hc : xs.length ≤ c) (w : World) (hk : Rk.Knows kn5 w) (hev : ErrV w)
    (hx : SlAt w p xs) (hb : ∀ x ∈ xs, 0 ≤ x ∧ x < 256) (hp : xs = [] → p = none ∨ ∃ B o, p = some ⟨B, o, none⟩) (hw : wrongL b n ≠ 0) (her : (readW xs a).2.2.2 = 0) :
    Calls Tryd.prog 6 #[.agg #[.int .u8 (b : Int), .int .i64 n], .slice p xs.length c, .int .i64 a] w fun e w' => e = .returned (.bool true) ∧ Below w.heap.size w w' := by
  have _ := hev
  have cA := fun W hW => awake5_calls W (hk.below hW)
  have cR2 := fun W (hW : Below w.heap.size w W) => read_calls p c xs a W (hx.below hW) hb hp
  have cP := fun W (hW : Below w.heap.size w W) => print_err b n h hw W (hk.below hW)
  have d2 : (wrongL b n == 0) = false := beq_eq_false_iff_ne.2 hw
  generalize wrongL b n = ep at cP d2
  have hok := readW_ok xs a hb her
  have hop := readW_op xs a hb
  obtain ⟨e1, e2⟩ := bytes_read xs a hb her
  have cB2 := fun W (hW : Below w.heap.size w W) => byt_okC (readW xs a).1.toNat (readW xs a).2.1 a (by omega) e1 W (hk.below hW)
  rw [e2] at cB2
  rw [show Int.ofNat (readW xs a).1.toNat = (readW xs a).1 from Int.toNat_of_nonneg hop.1, ← hok.2.2.2.2.2.2, show (((readW xs a).1.toNat : Nat) : Int) = (readW xs a).1 from Int.toNat_of_nonneg hop.1] at cB2
  have hne : xs ≠ [] := fun e => by
    have h4 := hok.2.2.2.1
    have h6 := hok.2.2.2.2.2.1
    rw [e] at h4 h6
    have h7 : (([] : List Int).length : Int) = 0 := rfl
    omega
  obtain ⟨z1, z3⟩ : 1 ≤ (readW xs a).2.2.1 ∧ (readW xs a).2.2.1 ≤ xs.length := ⟨hok.2.2.2.1, hok.2.2.2.2.2.1⟩
  generalize readW xs a = R at cR2 cB2 her z1 z3
  obtain ⟨o, m, z, er⟩ := R
  simp only at her cB2 cR2 z1 z3
  subst her
  obtain ⟨Z, rfl⟩ := Int.eq_ofNat_of_zero_le (show 0 ≤ z by omega)
  rw [Int.toNat_natCast] at cB2
  have hZ : Z = (xs.take Z).length := by rw [List.length_take]; omega
  have hZ2 : Z ≤ 65536 := by omega
  have hxz : SlAt w p (xs.take Z) := fun j y hj => by
    rw [List.getElem?_take] at hj
    split at hj
    · exact hx j y hj
    · cases hj
  obtain ⟨B, oo, rfl⟩ : ∃ B oo, p = some ⟨B, oo, none⟩ := sl_some hx hne
  have d4 : decide ((Z : Int) ≥ 1) = true := decide_eq_true (by omega)
  have d5 : decide ((Z : Int) ≤ (xs.length : Int)) = true := decide_eq_true (by omega)
  have d6 : (Z : Int) ≤ (c : Int) := by omega
  have d8 : Z ≤ xs.length := by omega
  have d9 : Z ≤ c := by omega
  have d10 : 1 ≤ Z := by omega
  have d7 : (0 : Int) ≤ (Z : Int) := by omega
  generalize xs.take Z = zs at cB2 hZ hxz
  have HZ : Hid (Z = zs.length) := hZ
  clear hZ
  have d1 : decide ((xs.length : Int) > 10) = false := decide_eq_false (by omega)
  have hB := (Below.refl w.heap.size w).alloc (Nat.le_refl _) (.cells #[.int .u8 (b : Int), .int .i64 n] 23)
  have hbx : boxAt (w.alloc (.cells #[.int .u8 (b : Int), .int .i64 n] 23)) w.heap.size [.int .u8 (b : Int), .int .i64 n] 23 := by
    unfold boxAt; rw [heap_alloc_new]
  generalize xs.length = L at *
  clear hL hc hk hev hb hp h hw hx hok hop e1 e2 hne z1 z3
  have f1 := True.intro
  have f2 := True.intro
  go_enter Tryd.func6, Tryd.ntmps6
  go_wp2_with (first
    | (go_at_call 18; refine (cP _ hB).mono ?_; rintro e w2 ⟨rfl, hw2⟩; replace hB := stepB' hB hw2; replace hbx := hbx.below hw2; have q0 := hbx.cell 0; have q1 := hbx.cell 1)
    | (go_at_call 14; refine (cR2 _ hB).mono ?_; rintro e w6 ⟨rfl, hw6⟩; replace hB := stepB' hB hw6; replace hbx := hbx.below hw6; have q0 := hbx.cell 0; have q1 := hbx.cell 1; replace hB := hB.alloc hB.size (.cells #[.int .u8 o, .int .i64 m] 23); replace hbx := hbx.alloc (.cells #[.int .u8 o, .int .i64 m] 23); have q0 := hbx.cell 0; have q1 := hbx.cell 1)
    | (go_at_call 7; refine (cB2 _ hB).mono ?_; rintro e w7 ⟨g7, cap7, rfl, hc7, hw7⟩; replace hB := stepB' hB hw7; replace hbx := hbx.below hw7; have q0 := hbx.cell 0; have q1 := hbx.cell 1)
    | (go_at_call 11; refine (cmp_same _ _ _ _ _ zs _ HZ.out hZ2 (SlAt.of_cells hc7) (hxz.below hB)).mono ?_; rintro e w8 ⟨rfl, hw8⟩; replace hB := stepB' hB hw8)
    | (go_at_call 9; refine (cA _ hB).mono ?_; rintro e w9 ⟨rfl, hw9⟩; replace hB := stepB' hB hw9))
  go_ret
  exact ⟨rfl, hB⟩
set_option maxHeartbeats 800000 in
theorem back_Xe (b : Nat) (n a : Int) (h : b < 256) (p : Option Addr) (xs : List Int) (c : Nat) (hL : xs.length ≤ 10) (hc : xs.length ≤ c) (w : World) (hk : Rk.Knows kn5 w) (hev : ErrV w)
    (hx : SlAt w p xs) (hb : ∀ x ∈ xs, 0 ≤ x ∧ x < 256) (hp : xs = [] → p = none ∨ ∃ B o, p = some ⟨B, o, none⟩) (hw : wrongL b n = 0) (eb : Int) (hbe : bytE b n a = some eb) (heb : eb ≠ 0) (her : (readW xs a).2.2.2 ≠ 0) :
    Calls Tryd.prog 6 #[.agg #[.int .u8 (b : Int), .int .i64 n], .slice p xs.length c, .int .i64 a] w fun e w' => e = .returned (.bool true) ∧ Below w.heap.size w w' := by
  have _ := hev
  have cA := fun W hW => awake5_calls W (hk.below hW)
  have cR2 := fun W (hW : Below w.heap.size w W) => read_calls p c xs a W (hx.below hW) hb hp
  obtain ⟨ho, n0, n1⟩ := wrongL_0 b n hw
  have cP := fun W (hW : Below w.heap.size w W) => print_inI (b : Int) n (by omega) (by omega) ho n0 n1 W (hk.below hW)
  have htl := textL_len b n h ho
  have cQ := fun W (hW : Below w.heap.size w W) => parse_calls ⟨⟨textL b n⟩⟩ (by show (textL b n).length ≤ 65536; omega) W (hk.below hW) (hev.below hW)
  have hpt : parseW (⟨⟨textL b n⟩⟩ : ByteArray).data.toList = ((b : Int), n, 0) := parse_text b n h ho n0 n1
  rw [hpt] at cQ
  rw [Int.toNat_natCast] at cP
  generalize textL b n = tx at cP cQ htl hpt
  clear htl hpt
  have cB := fun W (hW : Below w.heap.size w W) => byt_errL b n a eb h hbe W (hk.below hW)
  have d2 : (eb == 0) = false := beq_eq_false_iff_ne.2 heb
  have _ := hc
  obtain ⟨r1, r2, r3⟩ := readW_err xs a her
  have d3 : ((readW xs a).2.2.2 == 0) = false := beq_eq_false_iff_ne.2 her
  have d4 : ((readW xs a).2.2.2 != 0) = true := by rw [bne, d3]; rfl
  generalize readW xs a = R at cR2 r1 r2 r3 d3 d4 her
  obtain ⟨o, m, z, er⟩ := R
  simp only at r1 r2 r3 d3 d4 cR2
  subst r1 r2 r3
  have d1 : decide ((xs.length : Int) > 10) = false := decide_eq_false (by omega)
  have hB := (Below.refl w.heap.size w).alloc (Nat.le_refl _) (.cells #[.int .u8 (b : Int), .int .i64 n] 23)
  have hbx : boxAt (w.alloc (.cells #[.int .u8 (b : Int), .int .i64 n] 23)) w.heap.size [.int .u8 (b : Int), .int .i64 n] 23 := by
    unfold boxAt; rw [heap_alloc_new]
  generalize xs.length = L at *
  clear hL hc hk hev hb hp h hw ho n0 n1 hbe heb her hx
  have f1 := True.intro
  have f2 := True.intro
  go_enter Tryd.func6, Tryd.ntmps6
  go_wp2_with (first
    | (go_at_call 18; refine (cP _ hB).mono ?_; rintro e w2 ⟨rfl, hw2⟩; replace hB := stepB' hB hw2; replace hbx := hbx.below hw2; have q0 := hbx.cell 0; have q1 := hbx.cell 1)
    | (go_at_call 19; refine (cQ _ hB).mono ?_; rintro e w3 ⟨rfl, hw3⟩; replace hB := stepB' hB hw3; replace hbx := hbx.below hw3; have q0 := hbx.cell 0; have q1 := hbx.cell 1; replace hB := hB.alloc hB.size (.cells #[.int .u8 (b : Int), .int .i64 n] 23); replace hbx := hbx.alloc (.cells #[.int .u8 (b : Int), .int .i64 n] 23); have q0 := hbx.cell 0; have q1 := hbx.cell 1)
    | (clear f1; go_at_call 7; refine (cB _ hB).mono ?_; rintro e w4 ⟨rfl, hw4⟩; replace hB := stepB' hB hw4; replace hbx := hbx.below hw4; have q0 := hbx.cell 0; have q1 := hbx.cell 1)
    | (go_at_call 14; refine (cR2 _ hB).mono ?_; rintro e w6 ⟨rfl, hw6⟩; replace hB := stepB' hB hw6; replace hbx := hbx.below hw6; have q0 := hbx.cell 0; have q1 := hbx.cell 1; replace hB := hB.alloc hB.size (.cells #[.int .u8 0, .int .i64 0] 23); replace hbx := hbx.alloc (.cells #[.int .u8 0, .int .i64 0] 23); have q0 := hbx.cell 0; have q1 := hbx.cell 1)
    | (go_at_call 9; refine (cA _ hB).mono ?_; rintro e w9 ⟨rfl, hw9⟩; replace hB := stepB' hB hw9))
  go_ret
  exact ⟨rfl, hB⟩
set_option maxHeartbeats 800000 in
theorem back_Xk (b : Nat) (n a : Int) (h : b < 256) (p : Option Addr) (xs : List Int) (c : Nat) (hL : xs.length ≤ 10) (hc : xs.length ≤ c) (w : World) (hk : Rk.Knows kn5 w) (hev : ErrV w)
    (hx : SlAt w p xs) (hb : ∀ x ∈ xs, 0 ≤ x ∧ x < 256) (hp : xs = [] → p = none ∨ ∃ B o, p = some ⟨B, o, none⟩) (hw : wrongL b n = 0) (eb : Int) (hbe : bytE b n a = some eb) (heb : eb ≠ 0) (her : (readW xs a).2.2.2 = 0) :
    Calls Tryd.prog 6 #[.agg #[.int .u8 (b : Int), .int .i64 n], .slice p xs.length c, .int .i64 a] w fun e w' => e = .returned (.bool true) ∧ Below w.heap.size w w' := by
  have _ := hev
  have cA := fun W hW => awake5_calls W (hk.below hW)
  have cR2 := fun W (hW : Below w.heap.size w W) => read_calls p c xs a W (hx.below hW) hb hp
  obtain ⟨ho, n0, n1⟩ := wrongL_0 b n hw
  have cP := fun W (hW : Below w.heap.size w W) => print_inI (b : Int) n (by omega) (by omega) ho n0 n1 W (hk.below hW)
  have htl := textL_len b n h ho
  have cQ := fun W (hW : Below w.heap.size w W) => parse_calls ⟨⟨textL b n⟩⟩ (by show (textL b n).length ≤ 65536; omega) W (hk.below hW) (hev.below hW)
  have hpt : parseW (⟨⟨textL b n⟩⟩ : ByteArray).data.toList = ((b : Int), n, 0) := parse_text b n h ho n0 n1
  rw [hpt] at cQ
  rw [Int.toNat_natCast] at cP
  generalize textL b n = tx at cP cQ htl hpt
  clear htl hpt
  have cB := fun W (hW : Below w.heap.size w W) => byt_errL b n a eb h hbe W (hk.below hW)
  have d2 : (eb == 0) = false := beq_eq_false_iff_ne.2 heb
  have hok := readW_ok xs a hb her
  have hop := readW_op xs a hb
  obtain ⟨e1, e2⟩ := bytes_read xs a hb her
  have cB2 := fun W (hW : Below w.heap.size w W) => byt_okC (readW xs a).1.toNat (readW xs a).2.1 a (by omega) e1 W (hk.below hW)
  rw [e2] at cB2
  rw [show Int.ofNat (readW xs a).1.toNat = (readW xs a).1 from Int.toNat_of_nonneg hop.1, ← hok.2.2.2.2.2.2, show (((readW xs a).1.toNat : Nat) : Int) = (readW xs a).1 from Int.toNat_of_nonneg hop.1] at cB2
  have hne : xs ≠ [] := fun e => by
    have h4 := hok.2.2.2.1
    have h6 := hok.2.2.2.2.2.1
    rw [e] at h4 h6
    have h7 : (([] : List Int).length : Int) = 0 := rfl
    omega
  obtain ⟨z1, z3⟩ : 1 ≤ (readW xs a).2.2.1 ∧ (readW xs a).2.2.1 ≤ xs.length := ⟨hok.2.2.2.1, hok.2.2.2.2.2.1⟩
  generalize readW xs a = R at cR2 cB2 her z1 z3
  obtain ⟨o, m, z, er⟩ := R
  simp only at her cB2 cR2 z1 z3
  subst her
  obtain ⟨Z, rfl⟩ := Int.eq_ofNat_of_zero_le (show 0 ≤ z by omega)
  rw [Int.toNat_natCast] at cB2
  have hZ : Z = (xs.take Z).length := by rw [List.length_take]; omega
  have hZ2 : Z ≤ 65536 := by omega
  have hxz : SlAt w p (xs.take Z) := fun j y hj => by
    rw [List.getElem?_take] at hj
    split at hj
    · exact hx j y hj
    · cases hj
  obtain ⟨B, oo, rfl⟩ : ∃ B oo, p = some ⟨B, oo, none⟩ := sl_some hx hne
  have d4 : decide ((Z : Int) ≥ 1) = true := decide_eq_true (by omega)
  have d5 : decide ((Z : Int) ≤ (xs.length : Int)) = true := decide_eq_true (by omega)
  have d6 : (Z : Int) ≤ (c : Int) := by omega
  have d8 : Z ≤ xs.length := by omega
  have d9 : Z ≤ c := by omega
  have d10 : 1 ≤ Z := by omega
  have d7 : (0 : Int) ≤ (Z : Int) := by omega
  generalize xs.take Z = zs at cB2 hZ hxz
  have HZ : Hid (Z = zs.length) := hZ
  clear hZ
  have d1 : decide ((xs.length : Int) > 10) = false := decide_eq_false (by omega)
  have hB := (Below.refl w.heap.size w).alloc (Nat.le_refl _) (.cells #[.int .u8 (b : Int), .int .i64 n] 23)
  have hbx : boxAt (w.alloc (.cells #[.int .u8 (b : Int), .int .i64 n] 23)) w.heap.size [.int .u8 (b : Int), .int .i64 n] 23 := by
    unfold boxAt; rw [heap_alloc_new]
  generalize xs.length = L at *
  clear hL hc hk hev hb hp h hw ho n0 n1 hbe heb hx hok hop e1 e2 hne z1 z3
  have f1 := True.intro
  have f2 := True.intro
  go_enter Tryd.func6, Tryd.ntmps6
  go_wp2_with (first
    | (go_at_call 18; refine (cP _ hB).mono ?_; rintro e w2 ⟨rfl, hw2⟩; replace hB := stepB' hB hw2; replace hbx := hbx.below hw2; have q0 := hbx.cell 0; have q1 := hbx.cell 1)
    | (go_at_call 19; refine (cQ _ hB).mono ?_; rintro e w3 ⟨rfl, hw3⟩; replace hB := stepB' hB hw3; replace hbx := hbx.below hw3; have q0 := hbx.cell 0; have q1 := hbx.cell 1; replace hB := hB.alloc hB.size (.cells #[.int .u8 (b : Int), .int .i64 n] 23); replace hbx := hbx.alloc (.cells #[.int .u8 (b : Int), .int .i64 n] 23); have q0 := hbx.cell 0; have q1 := hbx.cell 1)
    | (clear f1; go_at_call 7; refine (cB _ hB).mono ?_; rintro e w4 ⟨rfl, hw4⟩; replace hB := stepB' hB hw4; replace hbx := hbx.below hw4; have q0 := hbx.cell 0; have q1 := hbx.cell 1)
    | (go_at_call 14; refine (cR2 _ hB).mono ?_; rintro e w6 ⟨rfl, hw6⟩; replace hB := stepB' hB hw6; replace hbx := hbx.below hw6; have q0 := hbx.cell 0; have q1 := hbx.cell 1; replace hB := hB.alloc hB.size (.cells #[.int .u8 o, .int .i64 m] 23); replace hbx := hbx.alloc (.cells #[.int .u8 o, .int .i64 m] 23); have q0 := hbx.cell 0; have q1 := hbx.cell 1)
    | (go_at_call 7; refine (cB2 _ hB).mono ?_; rintro e w7 ⟨g7, cap7, rfl, hc7, hw7⟩; replace hB := stepB' hB hw7; replace hbx := hbx.below hw7; have q0 := hbx.cell 0; have q1 := hbx.cell 1)
    | (go_at_call 11; refine (cmp_same _ _ _ _ _ zs _ HZ.out hZ2 (SlAt.of_cells hc7) (hxz.below hB)).mono ?_; rintro e w8 ⟨rfl, hw8⟩; replace hB := stepB' hB hw8)
    | (go_at_call 9; refine (cA _ hB).mono ?_; rintro e w9 ⟨rfl, hw9⟩; replace hB := stepB' hB hw9))
  go_ret
  exact ⟨rfl, hB⟩
set_option maxHeartbeats 800000 in
theorem back_Ke (b : Nat) (n a : Int) (h : b < 256) (p : Option Addr) (xs : List Int) (c : Nat) (hL : xs.length ≤ 10) (hc : xs.length ≤ c) (w : World) (hk : Rk.Knows kn5 w) (hev : ErrV w)
    (hx : SlAt w p xs) (hb : ∀ x ∈ xs, 0 ≤ x ∧ x < 256) (hp : xs = [] → p = none ∨ ∃ B o, p = some ⟨B, o, none⟩) (hw : wrongL b n = 0) (hbe : bytE b n a = none) (her : (readW xs a).2.2.2 ≠ 0) :
    Calls Tryd.prog 6 #[.agg #[.int .u8 (b : Int), .int .i64 n], .slice p xs.length c, .int .i64 a] w fun e w' => e = .returned (.bool true) ∧ Below w.heap.size w w' := by
  have _ := hev
  have cA := fun W hW => awake5_calls W (hk.below hW)
  have cR2 := fun W (hW : Below w.heap.size w W) => read_calls p c xs a W (hx.below hW) hb hp
  obtain ⟨ho, n0, n1⟩ := wrongL_0 b n hw
  have cP := fun W (hW : Below w.heap.size w W) => print_inI (b : Int) n (by omega) (by omega) ho n0 n1 W (hk.below hW)
  have htl := textL_len b n h ho
  have cQ := fun W (hW : Below w.heap.size w W) => parse_calls ⟨⟨textL b n⟩⟩ (by show (textL b n).length ≤ 65536; omega) W (hk.below hW) (hev.below hW)
  have hpt : parseW (⟨⟨textL b n⟩⟩ : ByteArray).data.toList = ((b : Int), n, 0) := parse_text b n h ho n0 n1
  rw [hpt] at cQ
  rw [Int.toNat_natCast] at cP
  generalize textL b n = tx at cP cQ htl hpt
  clear htl hpt
  have cB := fun W (hW : Below w.heap.size w W) => byt_okC b n a h hbe W (hk.below hW)
  have hlen := bytI_len b n a h hbe
  have hg := good_len b n a h hbe
  have cR1 : ∀ (g cap : Nat) W, CellsAt W g 0 (bytI b n a) → Calls Tryd.prog 14 #[.slice (some ⟨g, 0, none⟩) (lenM (opMode (Int.ofNat b))).toNat cap, .int .i64 a] W fun e w' => e = .returned (rd4 ((b : Int), n, lenM (opMode (Int.ofNat b)), 0)) ∧ Below W.heap.size W w' := fun g cap W hc => by
    have := read_some g 0 cap (bytI b n a) a W hc (bytI_bd b n a h)
    rw [read_bytes b n a h hbe, hlen] at this
    exact this
  obtain ⟨K, hK⟩ : ∃ K : Nat, lenM (opMode (Int.ofNat b)) = (K : Int) := ⟨(lenM (opMode (Int.ofNat b))).toNat, by omega⟩
  rw [hK, Int.toNat_natCast] at cB
  simp only [hK, Int.toNat_natCast] at cR1
  generalize bytI b n a = ys1 at cB cR1 hlen
  clear hlen hg hK
  have _ := hc
  obtain ⟨r1, r2, r3⟩ := readW_err xs a her
  have d3 : ((readW xs a).2.2.2 == 0) = false := beq_eq_false_iff_ne.2 her
  have d4 : ((readW xs a).2.2.2 != 0) = true := by rw [bne, d3]; rfl
  generalize readW xs a = R at cR2 r1 r2 r3 d3 d4 her
  obtain ⟨o, m, z, er⟩ := R
  simp only at r1 r2 r3 d3 d4 cR2
  subst r1 r2 r3
  have d1 : decide ((xs.length : Int) > 10) = false := decide_eq_false (by omega)
  have hB := (Below.refl w.heap.size w).alloc (Nat.le_refl _) (.cells #[.int .u8 (b : Int), .int .i64 n] 23)
  have hbx : boxAt (w.alloc (.cells #[.int .u8 (b : Int), .int .i64 n] 23)) w.heap.size [.int .u8 (b : Int), .int .i64 n] 23 := by
    unfold boxAt; rw [heap_alloc_new]
  generalize xs.length = L at *
  clear hL hc hk hev hb hp h hw ho n0 n1 hbe her hx
  have f1 := True.intro
  have f2 := True.intro
  go_enter Tryd.func6, Tryd.ntmps6
  go_wp2_with (first
    | (go_at_call 18; refine (cP _ hB).mono ?_; rintro e w2 ⟨rfl, hw2⟩; replace hB := stepB' hB hw2; replace hbx := hbx.below hw2; have q0 := hbx.cell 0; have q1 := hbx.cell 1)
    | (go_at_call 19; refine (cQ _ hB).mono ?_; rintro e w3 ⟨rfl, hw3⟩; replace hB := stepB' hB hw3; replace hbx := hbx.below hw3; have q0 := hbx.cell 0; have q1 := hbx.cell 1; replace hB := hB.alloc hB.size (.cells #[.int .u8 (b : Int), .int .i64 n] 23); replace hbx := hbx.alloc (.cells #[.int .u8 (b : Int), .int .i64 n] 23); have q0 := hbx.cell 0; have q1 := hbx.cell 1)
    | (clear f1; go_at_call 7; refine (cB _ hB).mono ?_; rintro e w4 ⟨g4, cap4, rfl, hc4, hw4⟩; replace hB := stepB' hB hw4; replace hbx := hbx.below hw4; have q0 := hbx.cell 0; have q1 := hbx.cell 1)
    | (clear f2; go_at_call 14; refine (cR1 _ _ _ hc4).mono ?_; rintro e w5 ⟨rfl, hw5⟩; replace hB := stepB' hB hw5; replace hbx := hbx.below hw5; have q0 := hbx.cell 0; have q1 := hbx.cell 1; replace hB := hB.alloc hB.size (.cells #[.int .u8 (b : Int), .int .i64 n] 23); replace hbx := hbx.alloc (.cells #[.int .u8 (b : Int), .int .i64 n] 23); have q0 := hbx.cell 0; have q1 := hbx.cell 1)
    | (go_at_call 14; refine (cR2 _ hB).mono ?_; rintro e w6 ⟨rfl, hw6⟩; replace hB := stepB' hB hw6; replace hbx := hbx.below hw6; have q0 := hbx.cell 0; have q1 := hbx.cell 1; replace hB := hB.alloc hB.size (.cells #[.int .u8 0, .int .i64 0] 23); replace hbx := hbx.alloc (.cells #[.int .u8 0, .int .i64 0] 23); have q0 := hbx.cell 0; have q1 := hbx.cell 1)
    | (go_at_call 9; refine (cA _ hB).mono ?_; rintro e w9 ⟨rfl, hw9⟩; replace hB := stepB' hB hw9))
  go_ret
  exact ⟨rfl, hB⟩
set_option maxHeartbeats 800000 in
theorem back_Kk (b : Nat) (n a : Int) (h : b < 256) (p : Option Addr) (xs : List Int) (c : Nat) (hL : xs.length ≤ 10) (hc : xs.length ≤ c) (w : World) (hk : Rk.Knows kn5 w) (hev : ErrV w)
    (hx : SlAt w p xs) (hb : ∀ x ∈ xs, 0 ≤ x ∧ x < 256) (hp : xs = [] → p = none ∨ ∃ B o, p = some ⟨B, o, none⟩) (hw : wrongL b n = 0) (hbe : bytE b n a = none) (her : (readW xs a).2.2.2 = 0) :
    Calls Tryd.prog 6 #[.agg #[.int .u8 (b : Int), .int .i64 n], .slice p xs.length c, .int .i64 a] w fun e w' => e = .returned (.bool true) ∧ Below w.heap.size w w' := by
  have _ := hev
  have cA := fun W hW => awake5_calls W (hk.below hW)
  have cR2 := fun W (hW : Below w.heap.size w W) => read_calls p c xs a W (hx.below hW) hb hp
  obtain ⟨ho, n0, n1⟩ := wrongL_0 b n hw
  have cP := fun W (hW : Below w.heap.size w W) => print_inI (b : Int) n (by omega) (by omega) ho n0 n1 W (hk.below hW)
  have htl := textL_len b n h ho
  have cQ := fun W (hW : Below w.heap.size w W) => parse_calls ⟨⟨textL b n⟩⟩ (by show (textL b n).length ≤ 65536; omega) W (hk.below hW) (hev.below hW)
  have hpt : parseW (⟨⟨textL b n⟩⟩ : ByteArray).data.toList = ((b : Int), n, 0) := parse_text b n h ho n0 n1
  rw [hpt] at cQ
  rw [Int.toNat_natCast] at cP
  generalize textL b n = tx at cP cQ htl hpt
  clear htl hpt
  have cB := fun W (hW : Below w.heap.size w W) => byt_okC b n a h hbe W (hk.below hW)
  have hlen := bytI_len b n a h hbe
  have hg := good_len b n a h hbe
  have cR1 : ∀ (g cap : Nat) W, CellsAt W g 0 (bytI b n a) → Calls Tryd.prog 14 #[.slice (some ⟨g, 0, none⟩) (lenM (opMode (Int.ofNat b))).toNat cap, .int .i64 a] W fun e w' => e = .returned (rd4 ((b : Int), n, lenM (opMode (Int.ofNat b)), 0)) ∧ Below W.heap.size W w' := fun g cap W hc => by
    have := read_some g 0 cap (bytI b n a) a W hc (bytI_bd b n a h)
    rw [read_bytes b n a h hbe, hlen] at this
    exact this
  obtain ⟨K, hK⟩ : ∃ K : Nat, lenM (opMode (Int.ofNat b)) = (K : Int) := ⟨(lenM (opMode (Int.ofNat b))).toNat, by omega⟩
  rw [hK, Int.toNat_natCast] at cB
  simp only [hK, Int.toNat_natCast] at cR1
  generalize bytI b n a = ys1 at cB cR1 hlen
  clear hlen hg hK
  have hok := readW_ok xs a hb her
  have hop := readW_op xs a hb
  obtain ⟨e1, e2⟩ := bytes_read xs a hb her
  have cB2 := fun W (hW : Below w.heap.size w W) => byt_okC (readW xs a).1.toNat (readW xs a).2.1 a (by omega) e1 W (hk.below hW)
  rw [e2] at cB2
  rw [show Int.ofNat (readW xs a).1.toNat = (readW xs a).1 from Int.toNat_of_nonneg hop.1, ← hok.2.2.2.2.2.2, show (((readW xs a).1.toNat : Nat) : Int) = (readW xs a).1 from Int.toNat_of_nonneg hop.1] at cB2
  have hne : xs ≠ [] := fun e => by
    have h4 := hok.2.2.2.1
    have h6 := hok.2.2.2.2.2.1
    rw [e] at h4 h6
    have h7 : (([] : List Int).length : Int) = 0 := rfl
    omega
  obtain ⟨z1, z3⟩ : 1 ≤ (readW xs a).2.2.1 ∧ (readW xs a).2.2.1 ≤ xs.length := ⟨hok.2.2.2.1, hok.2.2.2.2.2.1⟩
  generalize readW xs a = R at cR2 cB2 her z1 z3
  obtain ⟨o, m, z, er⟩ := R
  simp only at her cB2 cR2 z1 z3
  subst her
  obtain ⟨Z, rfl⟩ := Int.eq_ofNat_of_zero_le (show 0 ≤ z by omega)
  rw [Int.toNat_natCast] at cB2
  have hZ : Z = (xs.take Z).length := by rw [List.length_take]; omega
  have hZ2 : Z ≤ 65536 := by omega
  have hxz : SlAt w p (xs.take Z) := fun j y hj => by
    rw [List.getElem?_take] at hj
    split at hj
    · exact hx j y hj
    · cases hj
  obtain ⟨B, oo, rfl⟩ : ∃ B oo, p = some ⟨B, oo, none⟩ := sl_some hx hne
  have d4 : decide ((Z : Int) ≥ 1) = true := decide_eq_true (by omega)
  have d5 : decide ((Z : Int) ≤ (xs.length : Int)) = true := decide_eq_true (by omega)
  have d6 : (Z : Int) ≤ (c : Int) := by omega
  have d8 : Z ≤ xs.length := by omega
  have d9 : Z ≤ c := by omega
  have d10 : 1 ≤ Z := by omega
  have d7 : (0 : Int) ≤ (Z : Int) := by omega
  generalize xs.take Z = zs at cB2 hZ hxz
  have HZ : Hid (Z = zs.length) := hZ
  clear hZ
  have d1 : decide ((xs.length : Int) > 10) = false := decide_eq_false (by omega)
  have hB := (Below.refl w.heap.size w).alloc (Nat.le_refl _) (.cells #[.int .u8 (b : Int), .int .i64 n] 23)
  have hbx : boxAt (w.alloc (.cells #[.int .u8 (b : Int), .int .i64 n] 23)) w.heap.size [.int .u8 (b : Int), .int .i64 n] 23 := by
    unfold boxAt; rw [heap_alloc_new]
  generalize xs.length = L at *
  clear hL hc hk hev hb hp h hw ho n0 n1 hbe hx hok hop e1 e2 hne z1 z3
  have f1 := True.intro
  have f2 := True.intro
  go_enter Tryd.func6, Tryd.ntmps6
  go_wp2_with (first
    | (go_at_call 18; refine (cP _ hB).mono ?_; rintro e w2 ⟨rfl, hw2⟩; replace hB := stepB' hB hw2; replace hbx := hbx.below hw2; have q0 := hbx.cell 0; have q1 := hbx.cell 1)
    | (go_at_call 19; refine (cQ _ hB).mono ?_; rintro e w3 ⟨rfl, hw3⟩; replace hB := stepB' hB hw3; replace hbx := hbx.below hw3; have q0 := hbx.cell 0; have q1 := hbx.cell 1; replace hB := hB.alloc hB.size (.cells #[.int .u8 (b : Int), .int .i64 n] 23); replace hbx := hbx.alloc (.cells #[.int .u8 (b : Int), .int .i64 n] 23); have q0 := hbx.cell 0; have q1 := hbx.cell 1)
    | (clear f1; go_at_call 7; refine (cB _ hB).mono ?_; rintro e w4 ⟨g4, cap4, rfl, hc4, hw4⟩; replace hB := stepB' hB hw4; replace hbx := hbx.below hw4; have q0 := hbx.cell 0; have q1 := hbx.cell 1)
    | (clear f2; go_at_call 14; refine (cR1 _ _ _ hc4).mono ?_; rintro e w5 ⟨rfl, hw5⟩; replace hB := stepB' hB hw5; replace hbx := hbx.below hw5; have q0 := hbx.cell 0; have q1 := hbx.cell 1; replace hB := hB.alloc hB.size (.cells #[.int .u8 (b : Int), .int .i64 n] 23); replace hbx := hbx.alloc (.cells #[.int .u8 (b : Int), .int .i64 n] 23); have q0 := hbx.cell 0; have q1 := hbx.cell 1)
    | (go_at_call 14; refine (cR2 _ hB).mono ?_; rintro e w6 ⟨rfl, hw6⟩; replace hB := stepB' hB hw6; replace hbx := hbx.below hw6; have q0 := hbx.cell 0; have q1 := hbx.cell 1; replace hB := hB.alloc hB.size (.cells #[.int .u8 o, .int .i64 m] 23); replace hbx := hbx.alloc (.cells #[.int .u8 o, .int .i64 m] 23); have q0 := hbx.cell 0; have q1 := hbx.cell 1)
    | (go_at_call 7; refine (cB2 _ hB).mono ?_; rintro e w7 ⟨g7, cap7, rfl, hc7, hw7⟩; replace hB := stepB' hB hw7; replace hbx := hbx.below hw7; have q0 := hbx.cell 0; have q1 := hbx.cell 1)
    | (go_at_call 11; refine (cmp_same _ _ _ _ _ zs _ HZ.out hZ2 (SlAt.of_cells hc7) (hxz.below hB)).mono ?_; rintro e w8 ⟨rfl, hw8⟩; replace hB := stepB' hB hw8)
    | (go_at_call 9; refine (cA _ hB).mono ?_; rintro e w9 ⟨rfl, hw9⟩; replace hB := stepB' hB hw9))
  go_ret
  exact ⟨rfl, hB⟩
theorem back_calls (b n : Int) (h0 : 0 ≤ b) (h1 : b < 256) (p : Option Addr) (xs : List Int) (c : Nat) (a : Int) (hc : xs.length ≤ c) (w : World) (hk : Rk.Knows kn5 w) (hev : ErrV w)
    (hx : SlAt w p xs) (hb : ∀ x ∈ xs, 0 ≤ x ∧ x < 256) (hp : xs = [] → p = none ∨ ∃ B o, p = some ⟨B, o, none⟩) :
    Calls Tryd.prog 6 #[.agg #[.int .u8 b, .int .i64 n], .slice p xs.length c, .int .i64 a] w fun e w' => e = .returned (.bool true) ∧ Below w.heap.size w w' := by
  obtain ⟨k, rfl⟩ := Int.eq_ofNat_of_zero_le h0
  have h : k < 256 := by omega
  by_cases hL : xs.length ≤ 10
  · by_cases hw : wrongL k n = 0
    · cases hbe : bytE k n a with
      | some eb =>
        have heb := bytE_pos k n a eb hbe
        by_cases her : (readW xs a).2.2.2 = 0
        · exact back_Xk k n a h p xs c hL hc w hk hev hx hb hp hw eb hbe heb her
        · exact back_Xe k n a h p xs c hL hc w hk hev hx hb hp hw eb hbe heb her
      | none =>
        by_cases her : (readW xs a).2.2.2 = 0
        · exact back_Kk k n a h p xs c hL hc w hk hev hx hb hp hw hbe her
        · exact back_Ke k n a h p xs c hL hc w hk hev hx hb hp hw hbe her
    · by_cases her : (readW xs a).2.2.2 = 0
      · exact back_Ek k n a h p xs c hL hc w hk hev hx hb hp hw her
      · exact back_Ee k n a h p xs c hL hc w hk hev hx hb hp hw her
  · exact back_long (k : Int) n p xs.length c a (by omega) w hk
end Go.Proofs.YtadkilofkpmpgaaDoor
