/- 'asm.Read': its contract. -/
import Derived.Test.YtadkilofkpmpgaaGreatDoorRdA
namespace Go.Proofs.YtadkilofkpmpgaaGreatDoor
open Go Go.RowKit
set_option maxRecDepth 100000
abbrev rd4 (r : Int × Int × Int × Int) : Value := .tuple #[.agg #[.int .u8 r.1, .int .i64 r.2.1], .int .i64 r.2.2.1, .int .i64 r.2.2.2]
noncomputable abbrev runRn (c : Nat) (a : Int) (orc : Rk.Orc) : Option (Value × Rk.Orc × Prop) :=
  Rk.fn Tryz.prog okf (knA 0 (fun _ => 0) (fun _ => False)) (callR false) 100 1 36 #[.slice none 0 c, .int .i64 a] orc True
theorem rdn_a0 (c : Nat) (a : Int) : runRn c a [(0, true)] = some (rdV 0 0 0 10, [], decide (a < 0) = true ∧ True) := by kernel_rfl
theorem rdn_a1 (c : Nat) (a : Int) : runRn c a [(0, false), (0, true)] = some (rdV 0 0 0 10, [], decide (a > 65535) = true ∧ decide (a < 0) = false ∧ True) := by kernel_rfl
theorem rdn_e (c : Nat) (a : Int) : runRn c a [(0, false), (0, false)] = some (rdV 0 0 0 11, [], pA a) := by kernel_rfl
theorem read_nil (c : Nat) (a : Int) (w : World) : Calls Tryz.prog 36 #[.slice none 0 c, .int .i64 a] w fun e w' => e = .returned (rd4 (readW [] a)) ∧ Below w.heap.size w w' := by
  have hk : Rk.Knows (knA 0 (fun _ => 0) (fun _ => False)) w := knA_knows fun i h => h.elim
  unfold readW
  by_cases h0 : a < 0
  · rw [if_pos (.inl h0)]
    exact (Rk.fn_good mixed okf_ok (callR_good _ false) 1 _ _ _ _ _ _ _ (rdn_a0 c a) w hk ⟨decide_eq_true h0, trivial⟩).2
  · by_cases h1 : 65535 < a
    · rw [if_pos (.inr h1)]
      exact (Rk.fn_good mixed okf_ok (callR_good _ false) 1 _ _ _ _ _ _ _ (rdn_a1 c a) w hk ⟨decide_eq_true h1, decide_eq_false h0, trivial⟩).2
    · rw [if_neg (by omega), if_pos rfl]
      exact (Rk.fn_good mixed okf_ok (callR_good _ false) 1 _ _ _ _ _ _ _ (rdn_e c a) w hk ⟨decide_eq_false h1, decide_eq_false h0, trivial⟩).2
theorem mode_of (b : Int) (h0 : 0 ≤ b) (h1 : b < 256) (ho : (opName b).isEmpty = false) : 0 ≤ opMode b ∧ opMode b < 13 ∧ 1 ≤ lenM (opMode b) ∧ lenM (opMode b) ≤ 3 := by
  obtain ⟨k, rfl⟩ := Int.eq_ofNat_of_zero_le h0
  have hmo := List.all_eq_true.1 modes_ok k (mem_good k (by omega) ho)
  simp only [Bool.and_eq_true, decide_eq_true_eq] at hmo
  exact ⟨hmo.1.1.1, hmo.1.1.2, hmo.1.2, hmo.2⟩
theorem len_12 : lenM 12 = 2 := by decide
set_option maxHeartbeats 800000 in
theorem read_some (B o c : Nat) (xs : List Int) (a : Int) (w : World) (hc : CellsAt w B o xs) (hb : ∀ x ∈ xs, 0 ≤ x ∧ x < 256) :
    Calls Tryz.prog 36 #[.slice (some ⟨B, o, none⟩) xs.length c, .int .i64 a] w fun e w' => e = .returned (rd4 (readW xs a)) ∧ Below w.heap.size w w' := by
  obtain ⟨X, hX⟩ : ∃ X : Nat → Int, ∀ i, X (o + i) = xs.getD i 0 := ⟨fun i => xs.getD (i - o) 0, fun i => by simp⟩
  obtain ⟨ok, hok⟩ : ∃ ok : Nat → Prop, ∀ i, ok i ↔ o ≤ i ∧ i - o < xs.length := ⟨fun i => o ≤ i ∧ i - o < xs.length, fun _ => Iff.rfl⟩
  have hk : Rk.Knows (knA B X ok) w := knA_knows fun i hi => by
    have h := (hok i).1 hi
    have e : i = o + (i - o) := by omega
    rw [e, hX]
    refine hc (i - o) _ ?_
    rw [List.getD, List.getElem?_eq_getElem h.2]; rfl
  have hbd : ∀ i, i < xs.length → 0 ≤ X (o + i) ∧ X (o + i) < 256 := fun i hi => by
    rw [hX, List.getD, List.getElem?_eq_getElem hi]
    exact hb _ (List.getElem_mem hi)
  have good : ∀ (t : Bool) {q : Rk.Orc} {v : Value} {q' : Rk.Orc} {ob : Prop}, runRd B o xs.length c X ok a t q = some (v, q', ob) → ob →
      Calls Tryz.prog 36 #[.slice (some ⟨B, o, none⟩) xs.length c, .int .i64 a] w fun e w' => e = .returned v ∧ Below w.heap.size w w' :=
    fun t {q v q' ob} h ho => (Rk.fn_good mixed okf_ok (callR_good _ t) 1 _ _ _ _ _ _ _ h w hk ho).2
  have e0 : xs.getD 0 0 = X o := (hX 0).symm
  have e1 : xs.getD 1 0 = X (o + 1) := (hX 1).symm
  have e2 : xs.getD 2 0 = X (o + 2) := (hX 2).symm
  unfold readW
  by_cases h0 : a < 0
  · rw [if_pos (.inl h0)]
    exact good false (rd_a0 ..) ⟨decide_eq_true h0, trivial⟩
  · by_cases h1 : 65535 < a
    · rw [if_pos (.inr h1)]
      exact good false (rd_a1 ..) ⟨decide_eq_true h1, decide_eq_false h0, trivial⟩
    · rw [if_neg (by omega)]
      have pa : pA a := ⟨decide_eq_false h1, decide_eq_false h0, trivial⟩
      by_cases hne : xs = []
      · rw [if_pos hne]
        exact good false (rd_e ..) ⟨decide_eq_true (by rw [hne]; rfl), pa⟩
      · rw [if_neg hne]
        have hL : 0 < xs.length := List.length_pos_iff.2 hne
        have pe : pE xs.length a := ⟨decide_eq_false (by omega), pa⟩
        have i0 : pI 0 xs.length := decide_eq_true (by omega)
        have k0 : pB B o ok := ⟨rfl, (hok o).2 (by omega)⟩
        have b0 := hbd 0 hL
        rw [e0]
        by_cases ho : (opName (X o)).isEmpty = true
        · rw [if_pos ho]
          exact good true (rd_o ..) ⟨⟨b0.1, b0.2, ho⟩, k0, i0, pe⟩
        · have ho' : (opName (X o)).isEmpty = false := by simpa using ho
          rw [if_neg ho]
          have po : pO B o xs.length X ok a false := ⟨⟨b0.1, b0.2, ho'⟩, k0, i0, pe⟩
          have hm := mode_of (X o) b0.1 b0.2 ho'
          by_cases hs : (xs.length : Int) < lenM (opMode (X o))
          · rw [if_pos hs]
            exact good false (rd_s ..) ⟨decide_eq_true hs, po⟩
          · rw [if_neg hs]
            have ps : pS B o xs.length X ok a := ⟨decide_eq_false hs, po⟩
            have zz : zR X o = lenM (opMode (X o)) := rfl
            have zw : IntKind.i64.wrap (zR X o - 1) = zR X o - 1 := by rw [IntKind.wrap_i64]; omega
            have aw : IntKind.i64.wrap (a + zR X o) = a + zR X o := by rw [IntKind.wrap_i64]; omega
            have hN : numR xs a = if opMode (X o) = 12 then a + 2 + sgn (X (o + 1)) else if lenM (opMode (X o)) = 1 then 0 else if lenM (opMode (X o)) = 2 then X (o + 1) else X (o + 1) + 256 * X (o + 2) := by
              rw [numR, e0, e1, e2]
            have lp : ∀ (i : Int) (t : Bool), decide (i < zR X o - 1) = t → pL i X o t := fun i t h => by rw [pL, zw]; exact h
            have zp : ∀ (t : Bool), decide (a + zR X o > 65536) = t → pZ X o a t := fun t h => by rw [pZ, aw]; exact h
            have hz3 : zR X o = 1 ∨ zR X o = 2 ∨ zR X o = 3 := by omega
            by_cases h12 : opMode (X o) = 12
            · have hz : zR X o = 2 := by show lenM (opMode (X o)) = 2; rw [h12]; exact len_12
              have b1 := hbd 1 (by omega)
              have i1 : pI 1 xs.length := decide_eq_true (by omega)
              have k1 : pB B (o + 1) ok := ⟨rfl, (hok (o + 1)).2 (by omega)⟩
              have q : qr B o xs.length X ok a := ⟨decide_eq_true h12, lp 1 false (decide_eq_false (by omega)), k1, i1, lp 0 true (decide_eq_true (by omega)), ps⟩
              have hn : nr X o a = numR xs a := by
                rw [hN, if_pos h12]
                show relB a (zR X o) (X (o + 1)) = _
                rw [relB_is _ _ _ b1.1 b1.2 (by omega) (by omega) (by omega) (by omega), hz]
              by_cases hzz : 65536 < a + zR X o
              · rw [if_pos (.inl hzz)]
                exact good false (rd_rz ..) ⟨zp true (decide_eq_true hzz), q⟩
              · have z0 := zp false (decide_eq_false hzz)
                by_cases hn0 : numR xs a < 0
                · rw [if_pos (.inr (.inl hn0))]
                  exact good false (rd_rn ..) ⟨decide_eq_true (by rw [hn]; exact hn0), z0, q⟩
                · by_cases hn1 : 65535 < numR xs a
                  · rw [if_pos (.inr (.inr hn1))]
                    exact good false (rd_rf ..) ⟨decide_eq_true (by rw [hn]; exact hn1), decide_eq_false (by rw [hn]; exact hn0), z0, q⟩
                  · rw [if_neg (by omega), ← hn]
                    exact good false (rd_r ..) ⟨k0, i0, decide_eq_false (by rw [hn]; exact hn1), decide_eq_false (by rw [hn]; exact hn0), z0, q⟩
            · rw [if_neg h12] at hN
              have m0 : pM X o false := decide_eq_false h12
              rcases hz3 with hz | hz | hz
              · rw [if_pos hz] at hN
                have q : q1 B o xs.length X ok a := ⟨m0, lp 0 false (decide_eq_false (by omega)), ps⟩
                by_cases hzz : 65536 < a + zR X o
                · rw [if_pos (.inl hzz)]
                  exact good false (rd_1z ..) ⟨zp true (decide_eq_true hzz), q⟩
                · have z0 := zp false (decide_eq_false hzz)
                  rw [if_neg (by omega), hN]
                  exact good false (rd_1 ..) ⟨k0, i0, z0, q⟩
              · rw [if_neg (by omega), if_pos hz] at hN
                have b1 := hbd 1 (by omega)
                have i1 : pI 1 xs.length := decide_eq_true (by omega)
                have k1 : pB B (o + 1) ok := ⟨rfl, (hok (o + 1)).2 (by omega)⟩
                have q : q2 B o xs.length X ok a := ⟨m0, lp 1 false (decide_eq_false (by omega)), k1, i1, lp 0 true (decide_eq_true (by omega)), ps⟩
                have hn : n2 X o = numR xs a := by rw [hN]; exact nb2_is _ b1.1 b1.2
                by_cases hzz : 65536 < a + zR X o
                · rw [if_pos (.inl hzz)]
                  exact good false (rd_2z ..) ⟨zp true (decide_eq_true hzz), q⟩
                · have z0 := zp false (decide_eq_false hzz)
                  rw [if_neg (by omega), ← hn]
                  exact good false (rd_2 ..) ⟨k0, i0, decide_eq_false (by omega), decide_eq_false (by omega), z0, q⟩
              · rw [if_neg (by omega), if_neg (by omega)] at hN
                have b1 := hbd 1 (by omega)
                have b2 := hbd 2 (by omega)
                have i1 : pI 1 xs.length := decide_eq_true (by omega)
                have k1 : pB B (o + 1) ok := ⟨rfl, (hok (o + 1)).2 (by omega)⟩
                have i2 : pI 2 xs.length := decide_eq_true (by omega)
                have k2 : pB B (o + 2) ok := ⟨rfl, (hok (o + 2)).2 (by omega)⟩
                have q : q3 B o xs.length X ok a := ⟨m0, lp 2 false (decide_eq_false (by omega)), k2, i2, lp 1 true (decide_eq_true (by omega)), k1, i1, lp 0 true (decide_eq_true (by omega)), ps⟩
                have hn : n3 X o = numR xs a := by rw [hN]; exact nb3_is _ _ b1.1 b1.2 b2.1 b2.2
                by_cases hzz : 65536 < a + zR X o
                · rw [if_pos (.inl hzz)]
                  exact good false (rd_3z ..) ⟨zp true (decide_eq_true hzz), q⟩
                · have z0 := zp false (decide_eq_false hzz)
                  rw [if_neg (by omega), ← hn]
                  exact good false (rd_3 ..) ⟨k0, i0, decide_eq_false (by omega), decide_eq_false (by omega), z0, q⟩
theorem read_calls (p : Option Addr) (c : Nat) (xs : List Int) (a : Int) (w : World) (hx : SlAt w p xs) (hb : ∀ x ∈ xs, 0 ≤ x ∧ x < 256) (hp : xs = [] → p = none ∨ ∃ B o, p = some ⟨B, o, none⟩) :
    Calls Tryz.prog 36 #[.slice p xs.length c, .int .i64 a] w fun e w' => e = .returned (rd4 (readW xs a)) ∧ Below w.heap.size w w' := by
  by_cases hne : xs = []
  · rcases hp hne with rfl | ⟨B, o, rfl⟩
    · subst hne
      exact read_nil c a w
    · exact read_some B o c xs a w (fun j x hj => by rw [hne] at hj; cases hj) hb
  · match xs, hne with
    | x :: r, _ =>
      obtain ⟨B, o, rfl, _⟩ := hx 0 x rfl
      exact read_some B o c (x :: r) a w (fun j y hj => by
        obtain ⟨B', o', e, h⟩ := hx j y hj
        cases e
        exact h) hb
end Go.Proofs.YtadkilofkpmpgaaGreatDoor
