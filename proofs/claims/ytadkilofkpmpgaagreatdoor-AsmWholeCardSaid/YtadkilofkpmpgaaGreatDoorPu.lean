/- 'strconv.ParseUint' to the base 16, of one to four bytes. -/
import Derived.Test.YtadkilofkpmpgaaGreatDoorShf
import Derived.Test.YtadkilofkpmpgaaGreatDoorByt
import Derived.Lib.Strings
import Derived.Lib.Walk
import Derived.Lib.ConvBytes
import Derived.Lib.Hide
import Derived.Laws.Strings3
import Derived.Laws.Closers25
import Derived.Laws.Closers25b
import Derived.WalkKit
import Derived.BigCall
import Derived.BigGuard
namespace Go.Proofs.YtadkilofkpmpgaaGreatDoor
open Go Go.RowKit
set_option maxRecDepth 100000
/-- A hexadecimal digit; -1: it is none. -/
def hexD (c : UInt8) : Int :=
  if 48 ≤ c.toNat ∧ c.toNat ≤ 57 then (c.toNat : Int) - 48 else if 65 ≤ c.toNat ∧ c.toNat ≤ 70 then (c.toNat : Int) - 55 else if 97 ≤ c.toNat ∧ c.toNat ≤ 102 then (c.toNat : Int) - 87 else -1
/-- The number that digits are; -1: they are none. -/
def hexV : List UInt8 → Int → Int
  | [], a => a
  | c :: l, a => if hexD c < 0 then -1 else hexV l (16 * a + hexD c)
def lowB (c : Int) : Int := bits .or .u8 c 32
theorem low_all : ((List.range 256).all fun c => decide (0 ≤ lowB (Int.ofNat c)) && decide (lowB (Int.ofNat c) < 256) &&
    decide (hexD (UInt8.ofNat c) = (if 48 ≤ c ∧ c ≤ 57 then (c : Int) - 48 else if 97 ≤ lowB (Int.ofNat c) ∧ lowB (Int.ofNat c) ≤ 102 then lowB (Int.ofNat c) - 87 else -1))) = true := by decide +kernel
theorem low_at (c : UInt8) : 0 ≤ lowB (c.toNat : Int) ∧ lowB (c.toNat : Int) < 256 ∧ hexD c = (if 48 ≤ c.toNat ∧ c.toNat ≤ 57 then (c.toNat : Int) - 48 else if 97 ≤ lowB (c.toNat : Int) ∧ lowB (c.toNat : Int) ≤ 102 then lowB (c.toNat : Int) - 87 else -1) := by
  have h := List.all_eq_true.1 low_all c.toNat (List.mem_range.2 c.toNat_lt)
  simp only [Bool.and_eq_true, decide_eq_true_eq, UInt8.ofNat_toNat] at h
  exact ⟨h.1.1, h.1.2, h.2⟩
/-- What is handed back. -/
def puV (v : Int) : Value := if v < 0 then .tuple #[.int .u64 0, .iface 152 (.int .i64 2)] else .tuple #[.int .u64 v, .nilIface]
def okAcc (k : Nat) (a : Int) : Prop := 0 ≤ a ∧ (k = 0 → a = 0) ∧ (k ≤ 1 → a ≤ 15) ∧ (k ≤ 2 → a ≤ 255) ∧ (k ≤ 3 → a ≤ 4095) ∧ a ≤ 65535
set_option maxHeartbeats 3200000 in
theorem ipu_calls (t : ByteArray) (hne : t.size ≠ 0) (hmax : t.size ≤ 4) (w : World) :
    Calls Tryz.prog 84 #[.string t, .int .i64 16, .int .i64 32] w fun e w' => e = .returned (puV (hexV t.data.toList 0)) ∧ w' = Lib.bytesWorld w 5 t := by
  have hemp : t.toList.isEmpty = false := by
    rw [← decide_eq_emptyBytes]
    exact decide_eq_false (fun h => hne (by rw [h]; rfl))
  have hcv := Lib.run_convert_string_bytes (P := Tryz.prog) w 9 38 5 t (u := .string) Tryz.underlying9 Tryz.underlying38 Tryz.underlying5
  have hB : ∀ j, j < t.size → (Lib.bytesWorld w 5 t).cell? ⟨w.heap.size, j, none⟩ = some (.int .u8 (t.data.toList.getD j 0).toNat) := fun j hj => Lib.bytesWorld_cell w 5 t j hj
  obtain ⟨W1, hW1⟩ : ∃ W1, W1 = Lib.bytesWorld w 5 t := ⟨_, rfl⟩
  rw [← hW1] at hcv hB ⊢
  clear hW1
  obtain ⟨bs, hL⟩ : ∃ bs, bs = t.data.toList := ⟨_, rfl⟩
  have hLn : bs.length = t.size := by rw [hL, Lib.size_eq]
  rw [← hL] at hB ⊢
  clear hL
  have hmv : IntKind.u64.wrap (IntKind.u64.wrap 4294967296 - 1) = 4294967295 := by
    rw [IntKind.wrap_u64, IntKind.wrap_u64]
    decide
  go_enter Tryz.func84, Tryz.ntmps84
  go_wp2
  go_loop [12, 13, 101] (fun vu vn vi => ∃ (k : Nat) (a : Int), vu = .bool false ∧ vn = .int .u64 a ∧ vi = .int .i64 k ∧ k ≤ t.size ∧ Hid (okAcc k a ∧ hexV bs 0 = hexV (bs.drop k) a))
    (fun _ _ vi => t.size - (intOf vi).toNat)
  case atStart => exact ⟨0, 0, rfl, rfl, rfl, by omega, by exact ⟨⟨by omega, by omega, by omega, by omega, by omega, by omega⟩, rfl⟩⟩
  case round =>
    obtain ⟨k, a, rfl, rfl, rfl, hk, hh⟩ := hrel
    obtain ⟨hacc, hdec⟩ := hh.out
    clear hh
    have a0 : 0 ≤ a := hacc.1
    have a1 : a ≤ 65535 := hacc.2.2.2.2.2
    by_cases hkn : k < t.size
    · have hc := hB k hkn
      have hdrop : bs.drop k = bs[k]'(by omega) :: bs.drop (k + 1) := List.drop_eq_getElem_cons (by omega)
      have hget : bs.getD k 0 = bs[k]'(by omega) := by simp [List.getD, List.getElem?_eq_getElem (show k < bs.length by omega)]
      rw [hdrop] at hdec
      rw [hget] at hc
      generalize bs[k]'(by omega) = c at hc hdec
      have hc256 : c.toNat < 256 := c.toNat_lt
      obtain ⟨v0, v1, hD⟩ := low_at c
      clear hB hdrop hget
      have ha3 : a ≤ 4095 := hacc.2.2.2.2.1 (by omega)
      have step : ∀ d : Int, 0 ≤ d → d < 16 → hexD c = d → Hid (okAcc (k + 1) (a * 16 + d) ∧ hexV bs 0 = hexV (bs.drop (k + 1)) (a * 16 + d)) := fun d d0 d1 e => by
        obtain ⟨h1, h2, h3, h4, h5, h6⟩ := hacc
        refine ⟨⟨by omega, by omega, by omega, by omega, by omega, by omega⟩, ?_⟩
        rw [hdec, hexV, e, if_neg (by omega)]
        congr 1
        omega
      have stop : hexD c < 0 → Hid (hexV bs 0 = -1) := fun e => by
        show hexV bs 0 = -1
        rw [hdec, hexV, if_pos e]
      by_cases hdig : 48 ≤ c.toNat ∧ c.toNat ≤ 57
      · obtain ⟨hd0, hd1⟩ := hdig
        have HN := step ((c.toNat : Int) - 48) (by omega) (by omega) (by rw [hD, if_pos ⟨hd0, hd1⟩])
        have iov : a * 16 + ((c.toNat : Int) - 48) ≤ 65535 := by omega
        clear step stop hD hacc hdec v0 v1
        go_wp2
        refine ⟨⟨k + 1, a * 16 + ((c.toNat : Int) - 48), rfl, (by first | rfl | (congr 1; omega)), (by first | rfl | (congr 1; omega)), by omega, HN⟩, by simp [intOf]; omega⟩
      · rw [if_neg hdig] at hD
        by_cases hl : 97 ≤ lowB (c.toNat : Int) ∧ lowB (c.toNat : Int) ≤ 102
        · rw [if_pos hl] at hD
          have HN := step (lowB (c.toNat : Int) - 87) (by omega) (by omega) hD
          have hlow := fun W => lower_calls (c.toNat : Int) W
          change ∀ W, Calls Tryz.prog 104 _ W (fun e w' => e = .returned (.int .u8 (lowB (c.toNat : Int))) ∧ w' = W) at hlow
          have h95 : ((c.toNat : Int) == 95) = false := beq_eq_false_iff_ne.2 (fun e => by
            rw [e] at hl
            exact absurd hl (by decide))
          generalize lowB (c.toNat : Int) = v at hl HN hlow v0 v1
          obtain ⟨l0, l1⟩ := hl
          clear step stop hD hacc hdec
          go_wp2_with (go_at_call 104; refine (hlow _).mono ?_; rintro e w' ⟨rfl, rfl⟩)
          all_goals refine ⟨⟨k + 1, a * 16 + (v - 87), rfl, (by first | rfl | (congr 1; omega)), (by first | rfl | (congr 1; omega)), by omega, HN⟩, by simp [intOf]; omega⟩
        · rw [if_neg hl] at hD
          have HS := stop (by rw [hD]; omega)
          have HV : Hid (puV (hexV bs 0) = .tuple #[.int .u64 0, .iface 152 (.int .i64 2)]) := by rw [HS.out]; rfl
          have hlow := fun W => lower_calls (c.toNat : Int) W
          change ∀ W, Calls Tryz.prog 104 _ W (fun e w' => e = .returned (.int .u8 (lowB (c.toNat : Int))) ∧ w' = W) at hlow
          by_cases h95 : (c.toNat : Int) = 95
          · rw [h95] at hlow hl v0 v1 hc
            have e95 : lowB 95 = 127 := by decide
            rw [e95] at hlow
            clear step stop hD hacc hdec hdig hl v0 v1 HS h95 hc256
            go_wp2_with (go_at_call 104; refine (hlow _).mono ?_; rintro e w' ⟨rfl, rfl⟩)
            all_goals go_ret2
            all_goals exact ⟨by rw [HV.out]; rfl, rfl⟩
          · have h95' : ((c.toNat : Int) == 95) = false := beq_eq_false_iff_ne.2 h95
            generalize lowB (c.toNat : Int) = v at hl hlow v0 v1
            by_cases g0 : 97 ≤ v
            · by_cases g1 : v ≤ 122
              · have g2 : 102 < v := by omega
                clear step stop hD hacc hdec hl HS
                go_wp2_with (go_at_call 104; refine (hlow _).mono ?_; rintro e w' ⟨rfl, rfl⟩)
                all_goals go_ret2
                all_goals exact ⟨by rw [HV.out]; rfl, rfl⟩
              · clear step stop hD hacc hdec hl HS
                go_wp2_with (go_at_call 104; refine (hlow _).mono ?_; rintro e w' ⟨rfl, rfl⟩)
                all_goals go_ret2
                all_goals exact ⟨by rw [HV.out]; rfl, rfl⟩
            · clear step stop hD hacc hdec hl HS
              go_wp2_with (go_at_call 104; refine (hlow _).mono ?_; rintro e w' ⟨rfl, rfl⟩)
              all_goals go_ret2
              all_goals exact ⟨by rw [HV.out]; rfl, rfl⟩
    · have hkk : k = t.size := by omega
      subst hkk
      have hF : hexV (bs.drop t.size) a = a := by rw [List.drop_eq_nil_of_le (by omega)]; rfl
      rw [hF] at hdec
      have HE : Hid (hexV bs 0 = a) := hdec
      clear hacc hF hdec
      go_wp2
      go_ret2
      exact ⟨by rw [HE.out, puV, if_neg (by omega)]; rfl, rfl⟩
end Go.Proofs.YtadkilofkpmpgaaGreatDoor
