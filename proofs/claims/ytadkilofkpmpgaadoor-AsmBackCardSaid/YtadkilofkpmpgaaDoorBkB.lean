/- A line's bytes are read as the line, and what is read has those bytes: plain laws. -/
import Derived.Test.YtadkilofkpmpgaaDoorLsP
namespace Go.Proofs.YtadkilofkpmpgaaDoor
open Go Go.RowKit
set_option maxRecDepth 100000
theorem lim_len (b : Nat) (h : b < 256) (ho : (opName (Int.ofNat b)).isEmpty = false) : limM (opMode (Int.ofNat b)) = (if opMode (Int.ofNat b) = 12 then 65536 else if lenM (opMode (Int.ofNat b)) = 1 then 1 else if lenM (opMode (Int.ofNat b)) = 2 then 256 else 65536) := by
  have hall : (good.all fun b => decide (limM (opMode (Int.ofNat b)) = (if opMode (Int.ofNat b) = 12 then 65536 else if lenM (opMode (Int.ofNat b)) = 1 then 1 else if lenM (opMode (Int.ofNat b)) = 2 then 256 else 65536))) = true := by decide +kernel
  exact of_decide_eq_true (List.all_eq_true.1 hall b (mem_good b h ho))
theorem bytE_none (b : Nat) (n a : Int) : bytE b n a = none ↔ (opName (Int.ofNat b)).isEmpty = false ∧ (0 ≤ n ∧ n < limM (opMode (Int.ofNat b))) ∧ (0 ≤ a ∧ a ≤ 65535 ∧ a + lenM (opMode (Int.ofNat b)) ≤ 65536) ∧ (opMode (Int.ofNat b) = 12 → -128 ≤ n - (a + 2) ∧ n - (a + 2) < 128) := by
  unfold bytE
  constructor
  · intro h
    split at h
    · cases h
    · rename_i h1
      split at h
      · cases h
      · split at h
        · cases h
        · split at h
          · cases h
          · rename_i h2 h3 h4
            exact ⟨by simpa using h1, by omega, by omega, fun h12 => by omega⟩
  · rintro ⟨h1, h2, h3, h4⟩
    rw [if_neg (by rw [h1]; simp), if_neg (by omega), if_neg (by omega), if_neg]
    rintro ⟨q1, q2⟩
    have := h4 q1
    omega
theorem read_bytes (b : Nat) (n a : Int) (h : b < 256) (he : bytE b n a = none) : readW (bytI b n a) a = ((b : Int), n, lenM (opMode (Int.ofNat b)), 0) := by
  obtain ⟨ho, hn, ha, hr⟩ := (bytE_none b n a).1 he
  have hm := mode_of (Int.ofNat b) (Int.natCast_nonneg b) (by simp; omega) ho
  have hlim := lim_len b h ho
  have hlen := bytI_len b n a h he
  have hne : bytI b n a ≠ [] := fun e => by
    have hl0 : (bytI b n a).length = 0 := by rw [e]; rfl
    rw [hlen] at hl0
    omega
  have h0 : (bytI b n a).getD 0 0 = Int.ofNat b := by rw [List.getD, bytI_0]; rfl
  have hN : numR (bytI b n a) a = n := by
    unfold numR
    rw [h0]
    by_cases h12 : opMode (Int.ofNat b) = 12
    · have hr := hr h12
      rw [if_pos h12]
      have e : bytI b n a = [(b : Int), (n - (a + 2)) % 256] := by
        unfold bytI
        rw [if_pos h12]
        simp [outI, List.range_succ]
      rw [e]
      show a + 2 + sgn ((n - (a + 2)) % 256) = n
      unfold sgn
      split <;> omega
    · rw [if_neg h12]
      rw [if_neg h12] at hlim
      have hz3 : lenM (opMode (Int.ofNat b)) = 1 ∨ lenM (opMode (Int.ofNat b)) = 2 ∨ lenM (opMode (Int.ofNat b)) = 3 := by omega
      rcases hz3 with hz | hz | hz
      · rw [if_pos hz]
        rw [if_pos hz] at hlim
        omega
      · rw [if_neg (by omega), if_pos hz]
        rw [if_neg (by omega), if_pos hz] at hlim
        have e : bytI b n a = [(b : Int), n % 256] := by
          unfold bytI
          rw [if_neg h12, hz]
          simp [outI, List.range_succ]
        rw [e]
        show n % 256 = n
        omega
      · rw [if_neg (by omega), if_neg (by omega)]
        rw [if_neg (by omega), if_neg (by omega)] at hlim
        have e : bytI b n a = [(b : Int), n % 256, n / 256 % 256] := by
          unfold bytI
          rw [if_neg h12, hz]
          simp [outI, List.range_succ]
        rw [e]
        show n % 256 + 256 * (n / 256 % 256) = n
        omega
  unfold readW
  rw [if_neg (by omega), if_neg hne, h0, if_neg (by rw [ho]; simp), hN]
  have hn65 : n ≤ 65535 := by
    rw [hlim] at hn
    split at hn
    · omega
    · split at hn
      · omega
      · split at hn <;> omega
  rw [if_neg (by rw [hlen]; omega), if_neg (by omega)]
  rfl
theorem bytes_read (xs : List Int) (a : Int) (hb : ∀ x ∈ xs, 0 ≤ x ∧ x < 256) (h : (readW xs a).2.2.2 = 0) :
    bytE (readW xs a).1.toNat (readW xs a).2.1 a = none ∧ bytI (readW xs a).1.toNat (readW xs a).2.1 a = xs.take (readW xs a).2.2.1.toNat := by
  have hok := readW_ok xs a hb h
  have hbd : ∀ i, i < xs.length → 0 ≤ xs.getD i 0 ∧ xs.getD i 0 < 256 := fun i hi => by
    rw [List.getD, List.getElem?_eq_getElem hi]
    exact hb _ (List.getElem_mem hi)
  have hR : readW xs a = (xs.getD 0 0, numR xs a, lenM (opMode (xs.getD 0 0)), 0) ∧ xs ≠ [] ∧ 0 ≤ a ∧ a ≤ 65535 ∧ a + lenM (opMode (xs.getD 0 0)) ≤ 65536 := by
    unfold readW at h ⊢
    split at h
    · cases h
    · rename_i h1
      rw [if_neg h1]
      split at h
      · cases h
      · rename_i h2
        rw [if_neg h2]
        split at h
        · cases h
        · rename_i h3
          rw [if_neg h3]
          split at h
          · cases h
          · rename_i h4
            rw [if_neg h4]
            split at h
            · cases h
            · rename_i h5
              rw [if_neg h5]
              exact ⟨rfl, h2, by omega, by omega, by omega⟩
  obtain ⟨hR, hne, a0, a1, a2⟩ := hR
  rw [hR] at hok ⊢
  obtain ⟨k1, k2, k3, k4, k5, k6, _⟩ := hok
  simp only at k1 k2 k3 k4 k5 k6 ⊢
  have b0 := hbd 0 (by omega)
  obtain ⟨k, hk⟩ := Int.eq_ofNat_of_zero_le b0.1
  have e0 : (xs.getD 0 0).toNat = k := by omega
  have e0' : Int.ofNat (xs.getD 0 0).toNat = xs.getD 0 0 := by rw [e0, hk]; rfl
  have hnr : opMode (xs.getD 0 0) = 12 → numR xs a = a + 2 + sgn (xs.getD 1 0) := fun h12 => by unfold numR; rw [if_pos h12]
  refine ⟨(bytE_none _ _ _).2 ⟨by rw [e0']; exact k1, ⟨k2, by rw [e0']; exact k3⟩, by rw [e0']; exact ⟨a0, a1, a2⟩, fun h12 => ?_⟩, ?_⟩
  · rw [e0'] at h12
    have hl2 : lenM (opMode (xs.getD 0 0)) = 2 := by rw [h12]; exact len_12
    have b1 := hbd 1 (by omega)
    have := sgn_lo _ b1.1 b1.2
    rw [hnr h12]
    omega
  · unfold bytI
    rw [e0']
    have take2 : 2 ≤ xs.length → xs.take 2 = [xs.getD 0 0, xs.getD 1 0] := fun hl => by
      match xs, hl with
      | x :: y :: r, _ => rfl
    have take3 : 3 ≤ xs.length → xs.take 3 = [xs.getD 0 0, xs.getD 1 0, xs.getD 2 0] := fun hl => by
      match xs, hl with
      | x :: y :: z :: r, _ => rfl
    have take1 : 1 ≤ xs.length → xs.take 1 = [xs.getD 0 0] := fun hl => by
      match xs, hl with
      | x :: r, _ => rfl
    by_cases h12 : opMode (xs.getD 0 0) = 12
    · have hl2 : lenM (opMode (xs.getD 0 0)) = 2 := by rw [h12]; exact len_12
      have b1 := hbd 1 (by omega)
      rw [if_pos h12, hl2, show (2 : Int).toNat = 2 from rfl, take2 (by omega), e0, hnr h12]
      have : (a + 2 + sgn (xs.getD 1 0) - (a + 2)) % 256 = xs.getD 1 0 := by
        unfold sgn
        split <;> omega
      simp only [outI, List.range_succ, List.range_zero, List.nil_append, List.map_cons, List.map_nil]
      rw [Int.pow_zero, Int.ediv_one, this, hk]
    · rw [if_neg h12]
      have hz3 : lenM (opMode (xs.getD 0 0)) = 1 ∨ lenM (opMode (xs.getD 0 0)) = 2 ∨ lenM (opMode (xs.getD 0 0)) = 3 := by omega
      unfold numR
      rw [if_neg h12]
      rcases hz3 with hz | hz | hz
      · rw [hz, show (1 : Int).toNat = 1 from rfl, take1 (by omega), e0, hk]
        rfl
      · have b1 := hbd 1 (by omega)
        rw [hz, show (2 : Int).toNat = 2 from rfl, take2 (by omega), e0]
        have : xs.getD 1 0 % 256 = xs.getD 1 0 := by omega
        simp only [outI, List.range_succ, List.range_zero, List.nil_append, List.map_cons, List.map_nil, Int.pow_zero, Int.ediv_one, if_neg (show ¬ (2 : Int) = 1 by decide), if_true, this, hk]
      · have b1 := hbd 1 (by omega)
        have b2 := hbd 2 (by omega)
        rw [hz, show (3 : Int).toNat = 3 from rfl, take3 (by omega), e0]
        have q1 : (xs.getD 1 0 + 256 * xs.getD 2 0) % 256 = xs.getD 1 0 := by omega
        have q2 : (xs.getD 1 0 + 256 * xs.getD 2 0) / 256 % 256 = xs.getD 2 0 := by omega
        rw [if_neg (by decide), if_neg (by decide)]
        simp only [outI, List.range_succ, List.range_zero, List.nil_append, List.map_cons, List.map_nil, List.cons_append, Int.pow_zero, Int.ediv_one, show (3 - 1 : Nat) = 1 + 1 from rfl, show (256 : Int) ^ 1 = 256 from rfl, q1, q2, hk]
theorem readW_err (xs : List Int) (a : Int) (h : (readW xs a).2.2.2 ≠ 0) : (readW xs a).1 = 0 ∧ (readW xs a).2.1 = 0 ∧ (readW xs a).2.2.1 = 0 := by
  unfold readW at h ⊢
  by_cases c1 : a < 0 ∨ 65535 < a
  · rw [if_pos c1]; exact ⟨rfl, rfl, rfl⟩
  · rw [if_neg c1] at h ⊢
    by_cases c2 : xs = []
    · rw [if_pos c2]; exact ⟨rfl, rfl, rfl⟩
    · rw [if_neg c2] at h ⊢
      by_cases c3 : (opName (xs.getD 0 0)).isEmpty = true
      · rw [if_pos c3]; exact ⟨rfl, rfl, rfl⟩
      · rw [if_neg c3] at h ⊢
        by_cases c4 : (xs.length : Int) < lenM (opMode (xs.getD 0 0))
        · rw [if_pos c4]; exact ⟨rfl, rfl, rfl⟩
        · rw [if_neg c4] at h ⊢
          by_cases c5 : 65536 < a + lenM (opMode (xs.getD 0 0)) ∨ numR xs a < 0 ∨ 65535 < numR xs a
          · rw [if_pos c5]; exact ⟨rfl, rfl, rfl⟩
          · rw [if_neg c5] at h
            exact absurd rfl h
end Go.Proofs.YtadkilofkpmpgaaDoor
