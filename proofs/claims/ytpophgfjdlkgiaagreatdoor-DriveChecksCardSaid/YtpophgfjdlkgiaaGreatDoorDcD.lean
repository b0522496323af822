/- 'drive.Check': its closures, slices.ContainsFunc over them, its walk. -/
import Derived.Test.YtpophgfjdlkgiaaGreatDoorDcR
import Derived.WalkMore
import Derived.Laws.EntriesVeiled
namespace Go.Proofs.YtpophgfjdlkgiaaGreatDoor
open Go Go.RowKit
set_option maxRecDepth 100000
abbrev boxI (W : World) (B : Nat) (cs : List Value) (t : TypeId) : Prop := W.heap[B]? = some (.cells cs.toArray t (0, 0))
theorem boxI.below {W W2 : World} {B : Nat} {cs : List Value} {t : TypeId} (h : boxI W B cs t) (hb : Below W.heap.size W W2) : boxI W2 B cs t := (hb.block _ (Array.getElem?_eq_some_iff.1 h).1).trans h
theorem boxI.alloc {W : World} {B : Nat} {cs : List Value} {t : TypeId} (h : boxI W B cs t) (o : Obj) : boxI (W.alloc o) B cs t := (Below.heap_alloc W o B (Array.getElem?_eq_some_iff.1 h).1).trans h
theorem boxI.cell {W : World} {B : Nat} {cs : List Value} {t : TypeId} (h : boxI W B cs t) (j : Nat) : W.cell? ⟨B, j, none⟩ = cs[j]? := by
  rw [show (⟨B, j, none⟩ : Addr) = ⟨B, j, none⟩ from rfl, cell_of_row W B j _ _ _ h]; simp
theorem boxI.frozen {W : World} {B : Nat} {cs : List Value} {t : TypeId} (h : boxI W B cs t) (j : Nat) : W.frozen? ⟨B, j, none⟩ = some false := by
  unfold World.frozen?
  rw [h]
  simp
/-- The script's box, and the box of 'in'. -/
structure Bx (W : World) (b1 b2 : Nat) (n : Int) (v : Value) : Prop where
  s : boxI W b1 [.int .i64 n, v] 24
  i : boxI W b2 [.func (.func 7) #[] #[.pointer (some ⟨b1, 0, none⟩)]] 30
theorem Bx.below {W W2 : World} {b1 b2 : Nat} {n : Int} {v : Value} (h : Bx W b1 b2 n v) (hb : Below W.heap.size W W2) : Bx W2 b1 b2 n v := ⟨h.s.below hb, h.i.below hb⟩

theorem in_calls (x n : Int) (b1 b2 : Nat) (v : Value) (w : World) (h : Bx w b1 b2 n v) : Calls Tryz.prog 7 #[.int .i64 x, .pointer (some ⟨b1, 0, none⟩)] w fun e w' => e = .returned (.bool (decide (0 ≤ x) && decide (x < n))) ∧ w' = w := by
  have c0 := h.s.cell 0
  simp only [List.getElem?_cons_zero] at c0
  by_cases h1 : 0 ≤ x
  · have d1 : decide (0 ≤ x) = true := decide_eq_true h1
    by_cases h2 : x < n
    · have d2 : decide (x < n) = true := decide_eq_true h2
      rw [d1, d2]
      clear h h1 h2
      go_enter Tryz.func7, Tryz.ntmps7
      go_wp2
      go_ret
      exact ⟨rfl, rfl⟩
    · have d2 : decide (x < n) = false := decide_eq_false h2
      rw [d1, d2]
      clear h h1 h2
      go_enter Tryz.func7, Tryz.ntmps7
      go_wp2
      go_ret
      exact ⟨rfl, rfl⟩
  · have d1 : decide (0 ≤ x) = false := decide_eq_false h1
    rw [d1]
    clear h h1
    go_enter Tryz.func7, Tryz.ntmps7
    go_wp2
    go_ret
    exact ⟨rfl, rfl⟩

theorem not_calls (x n : Int) (b1 b2 : Nat) (v : Value) (w : World) (h : Bx w b1 b2 n v) : Calls Tryz.prog 9 #[.int .i64 x, .pointer (some ⟨b2, 0, none⟩)] w fun e w' => e = .returned (.bool (decide (x < 0) || decide (n ≤ x))) ∧ w' = w := by
  have c0 := h.i.cell 0
  simp only [List.getElem?_cons_zero] at c0
  have hc := in_calls x n b1 b2 v w h
  have e : (decide (x < 0) || decide (n ≤ x)) = !(decide (0 ≤ x) && decide (x < n)) := by
    rw [Bool.not_and, ← decide_not, ← decide_not]
    congr 1 <;> exact decide_eq_decide.2 (by omega)
  rw [e]
  generalize (decide (0 ≤ x) && decide (x < n)) = q at hc
  clear h e
  go_enter Tryz.func9, Tryz.ntmps9
  go_wp2_with (go_at_call 7; refine hc.mono ?_; rintro e w2 ⟨rfl, rfl⟩)
  go_ret
  exact ⟨rfl, rfl⟩

set_option maxHeartbeats 800000 in
theorem idx_calls (p : Option Addr) (c : Nat) (es : List Int) (n : Int) (b1 b2 : Nat) (v : Value) (w : World) (hm : es.length ≤ 4611686018427387904) (hx : IntAt w p es) (hb : Bx w b1 b2 n v) :
    Calls Tryz.prog 13 #[.slice p es.length c, .func (.func 9) #[] #[.pointer (some ⟨b2, 0, none⟩)]] w fun e w' => (∃ r : Int, e = .returned (.int .i64 r) ∧ decide (0 ≤ r) = outL n es) ∧ w' = w := by
  go_enter Tryz.func13, Tryz.ntmps13
  go_wp2
  go_loopw [8] (fun v8 wr => ∃ i : Nat, i ≤ es.length ∧ v8 = .int .i64 i ∧ Hid (outL n es = outL n (es.drop i)) ∧ wr = w) (fun v8 _ => es.length - (intOf v8).toNat)
  case atStart => exact ⟨0, by omega, rfl, by exact rfl, rfl⟩
  case round =>
    obtain ⟨i, hi, rfl, HO, rfl⟩ := hrel
    by_cases hlt : i < es.length
    · have hd : decide (i < es.length) = true := decide_eq_true hlt
      obtain ⟨B, o, rfl, r1⟩ := hx i _ (List.getElem?_eq_getElem hlt)
      have hli : (i : Int) < (es.length : Int) := by omega
      have hdr2 : Hid (outL n es = ((decide (es[i] < 0) || decide (n ≤ es[i])) || outL n (es.drop (i + 1)))) := by
        show _ = _
        rw [HO.out, List.drop_eq_getElem_cons hlt, outL]
      have hc := not_calls es[i] n b1 b2 v wr hb
      clear HO hx hb
      generalize es[i] = x at r1 hdr2 hc
      generalize hq : (decide (x < 0) || decide (n ≤ x)) = q at hc hdr2
      clear hq
      cases q with
      | true =>
        have HR : Hid (outL n es = true) := by
          show _ = _
          rw [hdr2.out]; rfl
        clear hdr2
        go_wp2_with (go_at_call 9; refine hc.mono ?_; rintro e w2 ⟨rfl, rfl⟩)
        go_ret
        exact ⟨⟨_, rfl, by rw [HR.out]; exact decide_eq_true (by omega)⟩, rfl⟩
      | false =>
        have HN : Hid (outL n es = outL n (es.drop (i + 1))) := by
          show _ = _
          rw [hdr2.out]; rfl
        clear hdr2
        go_wp2_with (go_at_call 9; refine hc.mono ?_; rintro e w2 ⟨rfl, rfl⟩)
        exact ⟨⟨i + 1, by omega, by go_num, HN, by first | rfl | trivial⟩, by simp [intOf]; omega⟩
    · have hd : decide (i < es.length) = false := decide_eq_false hlt
      have HR : Hid (outL n es = false) := by
        show _ = _
        rw [HO.out, List.drop_eq_nil_of_le (by omega)]; rfl
      clear HO hx hb
      go_wp2
      go_ret
      exact ⟨⟨_, rfl, by rw [HR.out]; rfl⟩, rfl⟩
theorem has_calls (p : Option Addr) (c : Nat) (es : List Int) (n : Int) (b1 b2 : Nat) (v : Value) (w : World) (hm : es.length ≤ 4611686018427387904) (hx : IntAt w p es) (hb : Bx w b1 b2 n v) :
    Calls Tryz.prog 8 #[.slice p es.length c, .func (.func 9) #[] #[.pointer (some ⟨b2, 0, none⟩)]] w fun e w' => e = .returned (.bool (outL n es)) ∧ w' = w := by
  have hc := idx_calls p c es n b1 b2 v w hm hx hb
  clear hx hb
  go_enter Tryz.func8, Tryz.ntmps8
  go_wp2_with (go_at_call 13; refine hc.mono ?_; rintro e w2 ⟨⟨r, rfl, hr⟩, rfl⟩)
  go_ret
  exact ⟨by rw [← hr]; rfl, rfl⟩

def chkD (n : Int) (es : List Int) : Int :=
  if n < 0 ∨ 100000 < n then 10 else if 1000 < es.length then 12 else if outL n es = true then 10 else if ordA (-1) es = true then 21 else 0
/-- What the start of 'Check' leaves: the two boxes. -/
structure Two (w W3 : World) (N : Nat) (n : Int) (v : Value) : Prop where
  b : Below N w W3
  x : Bx W3 N (N + 1) n v
theorem two_mk (w : World) (n : Int) (v : Value) :
    Two w ((w.alloc (.cells #[.int .i64 n, v] 24)).alloc (.cells #[.func (.func 7) #[] #[.pointer (some ⟨w.heap.size, 0, none⟩)]] 30)) w.heap.size n v := by
  have h1 : (w.alloc (.cells #[.int .i64 n, v] 24)).heap.size = w.heap.size + 1 := World.size_alloc ..
  have s1 : boxI (w.alloc (.cells #[.int .i64 n, v] 24)) w.heap.size [.int .i64 n, v] 24 := by unfold boxI; rw [heap_alloc_new]
  refine ⟨((Below.refl w.heap.size w).alloc (Nat.le_refl _) _).alloc (by rw [h1]; omega) _, ⟨s1.alloc _, ?_⟩⟩
  unfold boxI; rw [← h1, heap_alloc_new]
theorem Two.c0 {w W3 : World} {N : Nat} {n : Int} {v : Value} (h : Two w W3 N n v) : W3.cell? ⟨N, 0, none⟩ = some (.int .i64 n) := h.x.s.cell 0
theorem Two.c1 {w W3 : World} {N : Nat} {n : Int} {v : Value} (h : Two w W3 N n v) : W3.cell? ⟨N, 1, none⟩ = some v := h.x.s.cell 1

set_option maxHeartbeats 1600000 in
theorem check_calls (p : Option Addr) (c : Nat) (es : List Int) (n : Int) (w : World) (hm : es.length ≤ 4611686018427387904) (hx : IntAt w p es) :
    Calls Tryz.prog 4 #[.agg #[.int .i64 n, .slice p es.length c]] w fun e w' => e = .returned (.int .i64 (chkD n es)) ∧ Below w.heap.size w w' := by
  have HT := two_mk w n (.slice p es.length c)
  have c0 := HT.c0
  have c1 := HT.c1
  have hh : ∀ W4, Below (w.heap.size) w W4 → Bx W4 w.heap.size (w.heap.size + 1) n (.slice p es.length c) → Calls Tryz.prog 8 #[.slice p es.length c, .func (.func 9) #[] #[.pointer (some ⟨w.heap.size + 1, 0, none⟩)]] W4 fun e w' => e = .returned (.bool (outL n es)) ∧ w' = W4 := fun W4 hW hb => has_calls p c es n _ _ _ W4 hm (hx.below hW) hb
  have hb3 := HT.b
  have hx3 := HT.x
  clear HT
  have hcases : True := trivial
  by_cases h1 : n < 0
  · have d1 : decide (n < 0) = true := decide_eq_true h1
    have HR : Hid (chkD n es = 10) := by
      show chkD n es = 10
      unfold chkD; rw [if_pos (.inl h1)]
    clear hcases
    go_enter Tryz.func4, Tryz.ntmps4
    go_wp2
    go_ret
    exact ⟨by rw [HR.out]; rfl, hb3⟩
  have d1 : decide (n < 0) = false := decide_eq_false h1
  by_cases h2 : 100000 < n
  · have d2 : decide (100000 < n) = true := decide_eq_true h2
    have HR : Hid (chkD n es = 10) := by
      show chkD n es = 10
      unfold chkD; rw [if_pos (.inr h2)]
    clear hcases
    go_enter Tryz.func4, Tryz.ntmps4
    go_wp2
    go_ret
    exact ⟨by rw [HR.out]; rfl, hb3⟩
  have d2 : decide (100000 < n) = false := decide_eq_false h2
  by_cases h3 : 1000 < es.length
  · have d3 : decide (1000 < (es.length : Int)) = true := decide_eq_true (by omega)
    have HR : Hid (chkD n es = 12) := by
      show chkD n es = 12
      unfold chkD; rw [if_neg (by omega), if_pos h3]
    clear hcases
    go_enter Tryz.func4, Tryz.ntmps4
    go_wp2
    go_ret
    exact ⟨by rw [HR.out]; rfl, hb3⟩
  have d3 : decide (1000 < (es.length : Int)) = false := decide_eq_false (by omega)
  by_cases h4 : outL n es = true
  · rw [h4] at hh
    have HR : Hid (chkD n es = 10) := by
      show chkD n es = 10
      unfold chkD; rw [if_neg (by omega), if_neg (by omega), if_pos h4]
    clear hcases
    go_enter Tryz.func4, Tryz.ntmps4
    go_wp2_with (go_at_call 8; refine (hh _ hb3 hx3).mono ?_; rintro e w4 ⟨rfl, rfl⟩)
    go_ret
    exact ⟨by rw [HR.out]; rfl, hb3⟩
  rw [Bool.not_eq_true] at h4
  rw [h4] at hh
  have HC : Hid (chkD n es = if ordA (-1) es = true then 21 else 0) := by
    show chkD n es = _
    unfold chkD; rw [if_neg (by omega), if_neg (by omega), if_neg (by rw [h4]; exact Bool.false_ne_true)]
  clear hcases h4 h1 h2
  go_enter Tryz.func4, Tryz.ntmps4
  go_wp2_with (go_at_call 8; refine (hh _ hb3 hx3).mono ?_; rintro e w4 ⟨rfl, rfl⟩)
  generalize ((w.alloc (.cells #[.int .i64 n, .slice p es.length c] 24)).alloc (.cells #[.func (.func 7) #[] #[.pointer (some ⟨w.heap.size, 0, none⟩)]] 30)) = W3 at hb3 ⊢
  clear hh hx3 c0 c1
  go_loopw [4, 30] (fun v4 v30 wr => ∃ (i : Nat) (l : Int), i ≤ es.length ∧ v30 = .int .i64 i ∧ v4 = .int .i64 l ∧ Hid (ordA (-1) es = ordA l (es.drop i)) ∧ Below w.heap.size w wr) (fun _ v30 _ => es.length - (intOf v30).toNat)
  case atStart => exact ⟨0, -1, by omega, rfl, rfl, by exact rfl, hb3⟩
  case round =>
    clear hb3
    obtain ⟨i, l, hi, rfl, rfl, HO, hB⟩ := hrel
    by_cases hlt : i < es.length
    · have hd : decide (i < es.length) = true := decide_eq_true hlt
      obtain ⟨B, o, rfl, k1⟩ := hx i _ (List.getElem?_eq_getElem hlt)
      have r1 := (hB.cell (p := ⟨B, o + i, none⟩) (World.block_lt_of_cell? w _ k1)).trans k1
      have hli : (i : Int) < (es.length : Int) := by omega
      have hdr : Hid (ordA (-1) es = (decide (es[i] ≤ l) || ordA es[i] (es.drop (i + 1)))) := by
        show _ = _
        rw [HO.out, List.drop_eq_getElem_cons hlt, ordA]
      clear HO k1
      generalize es[i] = x at r1 hdr
      by_cases hxl : x ≤ l
      · have q1 : decide (x ≤ l) = true := decide_eq_true hxl
        have HR : Hid (chkD n es = 21) := by
          show chkD n es = 21
          rw [HC.out, hdr.out, q1]; rfl
        clear hxl hdr HC hx
        go_wp2
        go_ret
        exact ⟨by rw [HR.out]; rfl, hB⟩
      · have q1 : decide (x ≤ l) = false := decide_eq_false hxl
        have HN : Hid (ordA (-1) es = ordA x (es.drop (i + 1))) := by
          show _ = _
          rw [hdr.out, q1]; rfl
        clear hxl hdr HC hx
        go_wp2
        exact ⟨⟨i + 1, x, by omega, by go_num, rfl, HN, hB⟩, by simp [intOf]; omega⟩
    · have hd : decide (i < es.length) = false := decide_eq_false hlt
      have HR : Hid (chkD n es = 0) := by
        show chkD n es = 0
        rw [HC.out, HO.out, List.drop_eq_nil_of_le (by omega)]; rfl
      clear HC HO hx
      go_wp2
      go_ret
      exact ⟨by rw [HR.out]; rfl, hB⟩

/-- The program's answer is the document's. -/
theorem chk_same (n : Int) (es : List Int) : chkD n es = chkR n es := by
  unfold chkD chkR
  by_cases h1 : n < 0 ∨ 100000 < n
  · rw [if_pos h1, if_pos h1]
  rw [if_neg h1, if_neg h1]
  by_cases h2 : 1000 < es.length
  · rw [if_pos h2, if_pos h2]
  rw [if_neg h2, if_neg h2]
  by_cases h3 : outL n es = true
  · rw [if_pos h3, if_pos h3]
  rw [if_neg h3, if_neg h3]
  have : ordA (-1) es = ordA (es.getD 0 0) (es.drop 1) := by
    cases es with
    | nil => rfl
    | cons x r =>
      have hx : ¬ x < 0 := fun hx => h3 (by rw [outL, decide_eq_true hx]; rfl)
      rw [ordA, decide_eq_false (by omega)]
      rfl
  rw [this]
end Go.Proofs.YtpophgfjdlkgiaaGreatDoor
