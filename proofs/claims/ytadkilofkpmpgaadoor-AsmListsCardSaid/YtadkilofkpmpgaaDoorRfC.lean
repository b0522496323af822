/- 'cochinealref05.Read': its contract: it answers as 'asm.Read' does. -/
import Derived.Test.YtadkilofkpmpgaaDoorRfW
namespace Go.Proofs.YtadkilofkpmpgaaDoor
open Go Go.RowKit
set_option maxRecDepth 100000
theorem Rk.Knows.cellA {B o i : Nat} {X : Nat → Int} {ok : Nat → Prop} {w : World} (h : Rk.Knows (knA B X ok) w) (hi : ok (o + i)) : w.cell? ⟨B, o + i, none⟩ = some (.int .u8 (X (o + i))) :=
  h ⟨B, o + i, none⟩ _ _ rfl (fun p hp => by cases hp; exact ⟨rfl, hi⟩)
abbrev rf4 (r : Int × Int × Int × Int) : Value := .tuple #[.agg #[.int .i64 r.1, .int .i64 r.2.1], .int .i64 r.2.2.1, .int .i64 r.2.2.2]
noncomputable abbrev runRfn (c : Nat) (a : Int) (orc : Rk.Orc) : Option (Value × Rk.Orc × Prop) :=
  Rk.fn Tryd.prog okf (knA 0 (fun _ => 0) (fun _ => False)) callF 100 1 15 #[.slice none 0 c, .int .i64 a] orc True
theorem rfn_a0 (c : Nat) (a : Int) : runRfn c a [(0, true)] = some (rfV 0 0 0 10, [], decide (a < 0) = true ∧ True) := by kernel_rfl
theorem rfn_a1 (c : Nat) (a : Int) : runRfn c a [(0, false), (0, true)] = some (rfV 0 0 0 10, [], decide (a > 65535) = true ∧ decide (a < 0) = false ∧ True) := by kernel_rfl
theorem rfn_e (c : Nat) (a : Int) : runRfn c a [(0, false), (0, false)] = some (rfV 0 0 0 11, [], pA a) := by kernel_rfl
theorem rread_nil (c : Nat) (a : Int) (w : World) : Calls Tryd.prog 15 #[.slice none 0 c, .int .i64 a] w fun e w' => e = .returned (rf4 (readW [] a)) ∧ Below w.heap.size w w' := by
  have hk : Rk.Knows (knA 0 (fun _ => 0) (fun _ => False)) w := knA_knows fun i h => h.elim
  unfold readW
  by_cases h0 : a < 0
  · rw [if_pos (.inl h0)]
    exact (Rk.fn_good mixed okf_ok (callF_good _) 1 _ _ _ _ _ _ _ (rfn_a0 c a) w hk ⟨decide_eq_true h0, trivial⟩).2
  · by_cases h1 : 65535 < a
    · rw [if_pos (.inr h1)]
      exact (Rk.fn_good mixed okf_ok (callF_good _) 1 _ _ _ _ _ _ _ (rfn_a1 c a) w hk ⟨decide_eq_true h1, decide_eq_false h0, trivial⟩).2
    · rw [if_neg (by omega), if_pos rfl]
      exact (Rk.fn_good mixed okf_ok (callF_good _) 1 _ _ _ _ _ _ _ (rfn_e c a) w hk ⟨decide_eq_false h1, decide_eq_false h0, trivial⟩).2
set_option maxHeartbeats 800000 in
theorem rread_some (B o c : Nat) (xs : List Int) (a : Int) (w : World) (hc : CellsAt w B o xs) (hb : ∀ x ∈ xs, 0 ≤ x ∧ x < 256) :
    Calls Tryd.prog 15 #[.slice (some ⟨B, o, none⟩) xs.length c, .int .i64 a] w fun e w' => e = .returned (rf4 (readW xs a)) ∧ Below w.heap.size w w' := by
  obtain ⟨X, hX⟩ : ∃ X : Nat → Int, ∀ i, X (o + i) = xs.getD i 0 := ⟨fun i => xs.getD (i - o) 0, fun i => by simp⟩
  obtain ⟨ok, hok⟩ : ∃ ok : Nat → Prop, ∀ i, ok i ↔ o ≤ i ∧ i - o < xs.length := ⟨fun i => o ≤ i ∧ i - o < xs.length, fun _ => Iff.rfl⟩
  have hk : Rk.Knows (knA B X ok) w := knA_knows fun i hi => by
    have h := (hok i).1 hi
    have e : i = o + (i - o) := by omega
    rw [e, hX]
    refine hc (i - o) _ ?_
    rw [List.getD, List.getElem?_eq_getElem h.2]; rfl
  have hbd : ∀ i, i < xs.length → 0 ≤ X (o + i) ∧ X (o + i) < 256 := fun i hi => by
    rw [hX, List.getD, List.getElem?_eq_getElem hi]
    exact hb _ (List.getElem_mem hi)
  have good : ∀ {q : Rk.Orc} {v : Value} {q' : Rk.Orc} {ob : Prop}, runRf B o xs.length c X ok a q = some (v, q', ob) → ob →
      Calls Tryd.prog 15 #[.slice (some ⟨B, o, none⟩) xs.length c, .int .i64 a] w fun e w' => e = .returned v ∧ Below w.heap.size w w' :=
    fun {q v q' ob} h ho => (Rk.fn_good mixed okf_ok (callF_good _) 1 _ _ _ _ _ _ _ h w hk ho).2
  have e0 : xs.getD 0 0 = X o := (hX 0).symm
  have e1 : xs.getD 1 0 = X (o + 1) := (hX 1).symm
  have e2 : xs.getD 2 0 = X (o + 2) := (hX 2).symm
  unfold readW
  by_cases h0 : a < 0
  · rw [if_pos (.inl h0)]
    exact good (rf_a0 ..) ⟨decide_eq_true h0, trivial⟩
  · by_cases h1 : 65535 < a
    · rw [if_pos (.inr h1)]
      exact good (rf_a1 ..) ⟨decide_eq_true h1, decide_eq_false h0, trivial⟩
    · rw [if_neg (by omega)]
      have pa : pA a := ⟨decide_eq_false h1, decide_eq_false h0, trivial⟩
      by_cases hne : xs = []
      · rw [if_pos hne]
        exact good (rf_e ..) ⟨decide_eq_true (by rw [hne]; rfl), pa⟩
      · rw [if_neg hne]
        have hL : 0 < xs.length := List.length_pos_iff.2 hne
        have pe : pE xs.length a := ⟨decide_eq_false (by omega), pa⟩
        have i0 : pI 0 xs.length := decide_eq_true (by omega)
        have k0 : pB B o ok := ⟨rfl, (hok o).2 (by omega)⟩
        have b0 : 0 ≤ X o ∧ X o < 256 := hbd 0 hL
        have wX : ∀ i, i < xs.length → W (X (o + i)) = X (o + i) := fun i hi => by
          have := hbd i hi
          show IntKind.i64.wrap _ = _
          rw [IntKind.wrap_i64]; omega
        have wX0 : W (X o) = X o := wX 0 hL
        rw [e0]
        by_cases ho : (opName (X o)).isEmpty = true
        · rw [if_pos ho]
          exact good (rf_o ..) ⟨decide_eq_true (by rw [wX0, fnd_bad _ b0.1 b0.2 ho]; decide), k0, i0, pe⟩
        · have ho' : (opName (X o)).isEmpty = false := by simpa using ho
          rw [if_neg ho]
          have hf := fnd_good (X o) b0.1 b0.2 ho'
          have po : rO B o xs.length X ok a false := ⟨decide_eq_false (by rw [wX0]; omega), k0, i0, pe⟩
          have hm := mode_of (X o) b0.1 b0.2 ho'
          have mm : mF X o = opMode (X o) := by show (fnd (W (X o))).2 = _; rw [wX0]; exact hf.2.2.1
          have zz : zF X o = lenM (opMode (X o)) := by show lenM (mF X o) = _; rw [mm]
          by_cases hs : (xs.length : Int) < lenM (opMode (X o))
          · rw [if_pos hs]
            exact good (rf_s ..) ⟨decide_eq_true (by omega), po⟩
          · rw [if_neg hs]
            have ps : rS B o xs.length X ok a := ⟨k0, i0, decide_eq_false (by omega), po⟩
            have aw : W (a + zF X o) = a + zF X o := by show IntKind.i64.wrap _ = _; rw [IntKind.wrap_i64]; omega
            have hN : numR xs a = if opMode (X o) = 12 then a + 2 + sgn (X (o + 1)) else if lenM (opMode (X o)) = 1 then 0 else if lenM (opMode (X o)) = 2 then X (o + 1) else X (o + 1) + 256 * X (o + 2) := by
              rw [numR, e0, e1, e2]
            have zp : ∀ (t : Bool), decide (a + zF X o > 65536) = t → rZ X o a t := fun t h => by rw [rZ, aw]; exact h
            have hz3 : lenM (opMode (X o)) = 1 ∨ lenM (opMode (X o)) = 2 ∨ lenM (opMode (X o)) = 3 := by omega
            by_cases h12 : opMode (X o) = 12
            · have hz : lenM (opMode (X o)) = 2 := by rw [h12]; exact len_12
              have b1 := hbd 1 (by omega)
              have wX1 : W (X (o + 1)) = X (o + 1) := wX 1 (by omega)
              have i1 : pI 1 xs.length := decide_eq_true (by omega)
              have k1 : pB B (o + 1) ok := ⟨rfl, (hok (o + 1)).2 (by omega)⟩
              have qv : v2 B o xs.length X ok a := ⟨decide_eq_false (by omega), k1, i1, decide_eq_true (by omega), ps⟩
              have q : ∀ t, decide (X (o + 1) > 127) = t → rr B o xs.length X ok a t := fun t h => ⟨by rw [wX1]; exact h, decide_eq_true (by rw [mm]; exact h12), qv⟩
              by_cases h127 : X (o + 1) > 127
              · have hn : nF X o a true = numR xs a := by
                  rw [hN, if_pos h12, sgn, if_pos h127]
                  show W (W (a + 2) + W (W (X (o + 1)) - 256)) = _
                  rw [wX1]
                  show IntKind.i64.wrap (IntKind.i64.wrap (a + 2) + IntKind.i64.wrap (X (o + 1) - 256)) = _
                  rw [IntKind.wrap_i64, IntKind.wrap_i64, IntKind.wrap_i64]; omega
                have q := q true (decide_eq_true h127)
                by_cases hzz : 65536 < a + lenM (opMode (X o))
                · rw [if_pos (.inl hzz)]
                  exact good (rf_rz1 ..) ⟨zp true (decide_eq_true (by omega)), q⟩
                · have z0 := zp false (decide_eq_false (by omega))
                  by_cases hn0 : numR xs a < 0
                  · rw [if_pos (.inr (.inl hn0))]
                    exact good (rf_rn1 ..) ⟨decide_eq_true (by rw [hn]; exact hn0), z0, q⟩
                  · by_cases hn1 : 65535 < numR xs a
                    · rw [if_pos (.inr (.inr hn1))]
                      exact good (rf_rf1 ..) ⟨decide_eq_true (by rw [hn]; exact hn1), decide_eq_false (by rw [hn]; exact hn0), z0, q⟩
                    · rw [if_neg (by omega), ← hn]
                      have := good (rf_r1 ..) ⟨decide_eq_false (by rw [hn]; exact hn1), decide_eq_false (by rw [hn]; exact hn0), z0, q⟩
                      rw [wX0, zz] at this
                      exact this
              · have hn : nF X o a false = numR xs a := by
                  rw [hN, if_pos h12, sgn, if_neg h127]
                  show W (W (a + 2) + W (X (o + 1))) = _
                  rw [wX1]
                  show IntKind.i64.wrap (IntKind.i64.wrap (a + 2) + X (o + 1)) = _
                  rw [IntKind.wrap_i64, IntKind.wrap_i64]; omega
                have q := q false (decide_eq_false h127)
                by_cases hzz : 65536 < a + lenM (opMode (X o))
                · rw [if_pos (.inl hzz)]
                  exact good (rf_rz0 ..) ⟨zp true (decide_eq_true (by omega)), q⟩
                · have z0 := zp false (decide_eq_false (by omega))
                  by_cases hn0 : numR xs a < 0
                  · rw [if_pos (.inr (.inl hn0))]
                    exact good (rf_rn0 ..) ⟨decide_eq_true (by rw [hn]; exact hn0), z0, q⟩
                  · by_cases hn1 : 65535 < numR xs a
                    · rw [if_pos (.inr (.inr hn1))]
                      exact good (rf_rf0 ..) ⟨decide_eq_true (by rw [hn]; exact hn1), decide_eq_false (by rw [hn]; exact hn0), z0, q⟩
                    · rw [if_neg (by omega), ← hn]
                      have := good (rf_r0 ..) ⟨decide_eq_false (by rw [hn]; exact hn1), decide_eq_false (by rw [hn]; exact hn0), z0, q⟩
                      rw [wX0, zz] at this
                      exact this
            · rw [if_neg h12] at hN
              have m0 : rM X o false := decide_eq_false (by rw [mm]; exact h12)
              rcases hz3 with hz | hz | hz
              · rw [if_pos hz] at hN
                have q : r1 B o xs.length X ok a := ⟨m0, decide_eq_false (by omega), decide_eq_false (by omega), ps⟩
                by_cases hzz : 65536 < a + lenM (opMode (X o))
                · rw [if_pos (.inl hzz)]
                  exact good (rf_1z ..) ⟨zp true (decide_eq_true (by omega)), q⟩
                · have z0 := zp false (decide_eq_false (by omega))
                  rw [if_neg (by omega), hN]
                  have := good (rf_1 ..) ⟨z0, q⟩
                  rw [wX0, zz] at this
                  exact this
              · rw [if_neg (by omega), if_pos hz] at hN
                have b1 := hbd 1 (by omega)
                have wX1 : W (X (o + 1)) = X (o + 1) := wX 1 (by omega)
                have i1 : pI 1 xs.length := decide_eq_true (by omega)
                have k1 : pB B (o + 1) ok := ⟨rfl, (hok (o + 1)).2 (by omega)⟩
                have qv : v2 B o xs.length X ok a := ⟨decide_eq_false (by omega), k1, i1, decide_eq_true (by omega), ps⟩
                by_cases hzz : 65536 < a + lenM (opMode (X o))
                · rw [if_pos (.inl hzz)]
                  exact good (rf_2z ..) ⟨zp true (decide_eq_true (by omega)), m0, qv⟩
                · have z0 := zp false (decide_eq_false (by omega))
                  rw [if_neg (by omega), hN]
                  have := good (rf_2 ..) ⟨decide_eq_false (by rw [wX1]; omega), decide_eq_false (by rw [wX1]; omega), z0, m0, qv⟩
                  rw [wX0, wX1, zz] at this
                  exact this
              · rw [if_neg (by omega), if_neg (by omega)] at hN
                have b1 := hbd 1 (by omega)
                have b2 := hbd 2 (by omega)
                have c0 := hk.cellA (o := o) (i := 0) k0.2
                have c1 := hk.cellA (o := o) (i := 1) ((hok (o + 1)).2 (by omega))
                have c2 := hk.cellA (o := o) (i := 2) ((hok (o + 2)).2 (by omega))
                have hfm : fnd (X o) = ((fnd (X o)).1, opMode (X o)) := by rw [← hf.2.2.1]
                by_cases hzz : 65536 < a + lenM (opMode (X o))
                · rw [if_pos (.inl hzz)]
                  exact rfw_z B o xs.length c (X o) (X (o + 1)) (X (o + 2)) a _ _ w c0 c1 c2 hfm hf.1 h12 hz (by omega) (by omega) (by omega) (by omega) b0 b1 b2
                · rw [if_neg (by omega), hN, hz]
                  exact rfw_ok B o xs.length c (X o) (X (o + 1)) (X (o + 2)) a _ _ w c0 c1 c2 hfm hf.1 h12 hz (by omega) (by omega) (by omega) b0 b1 b2
theorem rread_calls (p : Option Addr) (c : Nat) (xs : List Int) (a : Int) (w : World) (hx : SlAt w p xs) (hb : ∀ x ∈ xs, 0 ≤ x ∧ x < 256) (hp : xs = [] → p = none ∨ ∃ B o, p = some ⟨B, o, none⟩) :
    Calls Tryd.prog 15 #[.slice p xs.length c, .int .i64 a] w fun e w' => e = .returned (rf4 (readW xs a)) ∧ Below w.heap.size w w' := by
  by_cases hne : xs = []
  · rcases hp hne with rfl | ⟨B, o, rfl⟩
    · subst hne
      exact rread_nil c a w
    · exact rread_some B o c xs a w (fun j x hj => by rw [hne] at hj; cases hj) hb
  · match xs, hne with
    | x :: r, _ =>
      obtain ⟨B, o, rfl, _⟩ := hx 0 x rfl
      exact rread_some B o c (x :: r) a w (fun j y hj => by
        obtain ⟨B', o', e, h⟩ := hx j y hj
        cases e
        exact h) hb
end Go.Proofs.YtadkilofkpmpgaaDoor
