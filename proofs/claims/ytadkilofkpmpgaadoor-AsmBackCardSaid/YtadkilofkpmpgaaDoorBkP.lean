/- A line's text is read as the line; a line's bytes are read as the line: plain laws. -/
import Derived.Test.YtadkilofkpmpgaaDoorPar
import Derived.Test.YtadkilofkpmpgaaDoorTxt
import Derived.Test.YtadkilofkpmpgaaDoorRdA
namespace Go.Proofs.YtadkilofkpmpgaaDoor
open Go Go.RowKit
set_option maxRecDepth 100000
theorem hexV_bad (l r : List UInt8) (c : UInt8) (hc : hexD c < 0) : ∀ a, hexV (l ++ c :: r) a = -1 := by
  induction l with
  | nil => intro a; simp [hexV, hc]
  | cons x l ih =>
    intro a
    rw [List.cons_append, hexV]
    split
    · rfl
    · exact ih _
theorem hexD_hu_all : ((List.range 16).all fun x => decide (hexD (hu (Int.ofNat x)) = Int.ofNat x)) = true := by decide +kernel
theorem hexD_hu (x : Int) (h0 : 0 ≤ x) (h1 : x < 16) : hexD (hu x) = x := by
  obtain ⟨k, rfl⟩ := Int.eq_ofNat_of_zero_le h0
  exact of_decide_eq_true (List.all_eq_true.1 hexD_hu_all k (List.mem_range.2 (by omega)))
theorem hexV_2 (n : Int) (h0 : 0 ≤ n) (h1 : n < 256) : hexV (digS 2 n) 0 = n := by
  have a := hexD_hu (n % 16) (by omega) (by omega)
  have b := hexD_hu (n / 16 % 16) (by omega) (by omega)
  simp only [digS, List.nil_append, List.cons_append, hexV, a, b]
  rw [if_neg (by omega), if_neg (by omega)]
  omega
theorem hexV_4 (n : Int) (h0 : 0 ≤ n) (h1 : n < 65536) : hexV (digS 4 n) 0 = n := by
  have a := hexD_hu (n % 16) (by omega) (by omega)
  have b := hexD_hu (n / 16 % 16) (by omega) (by omega)
  have c := hexD_hu (n / 16 / 16 % 16) (by omega) (by omega)
  have d := hexD_hu (n / 16 / 16 / 16 % 16) (by omega) (by omega)
  simp only [digS, List.nil_append, List.cons_append, hexV, a, b, c, d]
  rw [if_neg (by omega), if_neg (by omega), if_neg (by omega), if_neg (by omega)]
  omega
/-- What stands behind the name. -/
def restM (m : Nat) (ds : List UInt8) : List UInt8 := (shp (m : Int)).1 ++ (ds ++ (shp (m : Int)).2.2)
theorem ne_of_hex {x c : UInt8} (h : 0 ≤ hexD x) (hc : hexD c = -1) : x ≠ c := fun e => by rw [e, hc] at h; omega
def sameSh (m m' : Nat) : Bool := m' == m || (m' == 6 && m == 12) || (m' == 12 && m == 6)
theorem cross0 (m : Nat) (hm : m = 0 ∨ m = 1) (m' : Nat) (hm' : m' < 13) (hs : sameSh m m' = false) : wrM m' (restM m []) = -1 := by
  have hall : ((List.range 2).all fun m => (List.range 13).all fun m' => sameSh m m' || decide (wrM m' (restM m []) = -1)) = true := by decide +kernel
  have h := List.all_eq_true.1 (List.all_eq_true.1 hall m (List.mem_range.2 (by omega))) m' (List.mem_range.2 hm')
  rw [hs, Bool.false_or] at h
  exact of_decide_eq_true h
theorem cross2 (m : Nat) (hm : m = 2 ∨ m = 3 ∨ m = 4 ∨ m = 5 ∨ m = 9 ∨ m = 10) (m' : Nat) (hm' : m' < 13) (hs : sameSh m m' = false) (x y : UInt8) (_hx : 0 ≤ hexD x) (_hy : 0 ≤ hexD y) : wrM m' (restM m [x, y]) = -1 := by
  have b44 : hexD 44 < 0 := by decide
  have z1 := hexV_bad [x, y] [88] 44 b44 0
  have z2 := hexV_bad [x, y] [89] 44 b44 0
  simp only [List.cons_append, List.nil_append] at z1 z2
  have hm2 : m' = 0 ∨ m' = 1 ∨ m' = 2 ∨ m' = 3 ∨ m' = 4 ∨ m' = 5 ∨ m' = 6 ∨ m' = 7 ∨ m' = 8 ∨ m' = 9 ∨ m' = 10 ∨ m' = 11 ∨ m' = 12 := by omega
  rcases hm with rfl | rfl | rfl | rfl | rfl | rfl
  all_goals rcases hm2 with rfl | rfl | rfl | rfl | rfl | rfl | rfl | rfl | rfl | rfl | rfl | rfl | rfl
  all_goals first
    | (exact absurd hs (by decide))
    | (simp [wrM, wrL, restM, shp, shpRows, z1, z2])
theorem cross4 (m : Nat) (hm : m = 6 ∨ m = 7 ∨ m = 8 ∨ m = 11 ∨ m = 12) (m' : Nat) (hm' : m' < 13) (hs : sameSh m m' = false) (x y z u : UInt8) (_hx : 0 ≤ hexD x) (_hy : 0 ≤ hexD y) (hz : 0 ≤ hexD z) (_hu : 0 ≤ hexD u) : wrM m' (restM m [x, y, z, u]) = -1 := by
  have n1 : z ≠ 44 := ne_of_hex hz (by decide)
  have n2 : z ≠ 41 := ne_of_hex hz (by decide)
  have hm2 : m' = 0 ∨ m' = 1 ∨ m' = 2 ∨ m' = 3 ∨ m' = 4 ∨ m' = 5 ∨ m' = 6 ∨ m' = 7 ∨ m' = 8 ∨ m' = 9 ∨ m' = 10 ∨ m' = 11 ∨ m' = 12 := by omega
  rcases hm with rfl | rfl | rfl | rfl | rfl
  all_goals rcases hm2 with rfl | rfl | rfl | rfl | rfl | rfl | rfl | rfl | rfl | rfl | rfl | rfl | rfl
  all_goals first
    | (exact absurd hs (by decide))
    | (simp [wrM, wrL, restM, shp, shpRows, n1, n2])
/-- The same shape reads its own digits. -/
theorem same_read (m m' : Nat) (hm : m < 13) (hm' : m' < 13) (hs : sameSh m m' = true) (ds : List UInt8) (hd : ds.length = (shp (m : Int)).2.1.toNat) : wrM m' (restM m ds) = hexV ds 0 := by
  have hall : ((List.range 13).all fun m => (List.range 13).all fun m' => !sameSh m m' || (shp (Int.ofNat m) == shp (Int.ofNat m'))) = true := by decide +kernel
  have h := List.all_eq_true.1 (List.all_eq_true.1 hall m (List.mem_range.2 hm)) m' (List.mem_range.2 hm')
  rw [hs, Bool.not_true, Bool.false_or] at h
  have e : shp (m : Int) = shp (m' : Int) := beq_iff_eq.1 h
  unfold wrM restM
  rw [← e, wrL_yes _ _ _ _ ds rfl, if_pos hd]
theorem prsA_skip (nm rest : List UInt8) (e : Int) : ∀ (k i f : Nat), (∀ j, i ≤ j → j < i + k → wrM j rest < 0) → prsA nm rest (k + f) i e = prsA nm rest f (i + k) e
  | 0, i, f, _ => by rw [Nat.zero_add, Nat.add_zero]
  | k + 1, i, f, h => by
    rw [show k + 1 + f = (k + f) + 1 by omega, prsA, if_pos (h i (Nat.le_refl _) (by omega)), prsA_skip nm rest e k (i + 1) f (fun j h1 h2 => h j (by omega) (by omega))]
    congr 1
    omega
theorem names_ok : (good.all fun b => decide ((opName (Int.ofNat b)).length = 3) && (opName (Int.ofNat b)).all isAZ) = true := by decide +kernel
theorem byteW_good : (good.all fun b => byteW (opName (Int.ofNat b)) (opMode (Int.ofNat b)) opTab 0 14 == (Int.ofNat b, 0)) = true := by decide +kernel
theorem byteW_rel : (good.all fun b => decide (opMode (Int.ofNat b) ≠ 12) || decide ((byteW (opName (Int.ofNat b)) 6 opTab 0 14).2 ≠ 0)) = true := by decide +kernel
theorem digs_mode : (good.all fun b => decide (((opMode (Int.ofNat b) = 0 ∨ opMode (Int.ofNat b) = 1) ∧ digs b = 0 ∧ limM (opMode (Int.ofNat b)) = 1) ∨
    ((opMode (Int.ofNat b) = 2 ∨ opMode (Int.ofNat b) = 3 ∨ opMode (Int.ofNat b) = 4 ∨ opMode (Int.ofNat b) = 5 ∨ opMode (Int.ofNat b) = 9 ∨ opMode (Int.ofNat b) = 10) ∧ digs b = 2 ∧ limM (opMode (Int.ofNat b)) = 256) ∨
    ((opMode (Int.ofNat b) = 6 ∨ opMode (Int.ofNat b) = 7 ∨ opMode (Int.ofNat b) = 8 ∨ opMode (Int.ofNat b) = 11 ∨ opMode (Int.ofNat b) = 12) ∧ digs b = 4 ∧ limM (opMode (Int.ofNat b)) = 65536))) = true := by decide +kernel
/-- A line's text is read as the line. -/
theorem parse_text (b : Nat) (n : Int) (h : b < 256) (ho : (opName (Int.ofNat b)).isEmpty = false) (h0 : 0 ≤ n) (h1 : n < limM (opMode (Int.ofNat b))) : parseW (textL b n) = ((b : Int), n, 0) := by
  have hg := mem_good b h ho
  have hn := List.all_eq_true.1 names_ok b hg
  simp only [Bool.and_eq_true, decide_eq_true_eq] at hn
  have hb := beq_iff_eq.1 (List.all_eq_true.1 byteW_good b hg)
  have hr := List.all_eq_true.1 byteW_rel b hg
  have hd := of_decide_eq_true (List.all_eq_true.1 digs_mode b hg)
  have hm0 : 0 ≤ opMode (Int.ofNat b) := by omega
  obtain ⟨m, hm⟩ := Int.eq_ofNat_of_zero_le hm0
  have hdg : digs b = (shp (m : Int)).2.1 := by rw [← hm]; rfl
  have htx : textL b n = opName (Int.ofNat b) ++ restM m (digS (digs b).toNat n) := by
    unfold textL restM
    rw [hm]
  rw [hm] at hd hb hr h1
  have e1 : (textL b n).take 3 = opName (Int.ofNat b) := by rw [htx, List.take_append_of_le_length (by omega), List.take_of_length_le (by omega)]
  have e2 : (textL b n).drop 3 = restM m (digS (digs b).toNat n) := by rw [htx, List.drop_append, List.drop_of_length_le (by omega), hn.1]; rfl
  have hl : ¬ (textL b n).length < 3 := by rw [htx, List.length_append]; omega
  rw [parseW, e1, e2, if_neg (by rintro (q | q); exact hl q; rw [hn.2] at q; cases q)]
  have hm13 : m < 13 := by omega
  have hdl : ∀ (k : Nat) (x : Int), (digS k x).length = k := by
    intro k
    induction k with
    | zero => intro x; rfl
    | succ k ih => intro x; simp [digS, ih]
  have hval : hexV (digS (digs b).toNat n) 0 = n := by
    rcases hd with ⟨_, d, l⟩ | ⟨_, d, l⟩ | ⟨_, d, l⟩
    · rw [d]
      have : n = 0 := by omega
      rw [this]; rfl
    · rw [d]; exact hexV_2 n h0 (by omega)
    · rw [d]; exact hexV_4 n h0 (by omega)
  have hdx : ∀ q : Int, 0 ≤ hexD (hu (q % 16)) := fun q => by rw [hexD_hu (q % 16) (by omega) (by omega)]; omega
  have other : ∀ m', m' < 13 → sameSh m m' = false → wrM m' (restM m (digS (digs b).toNat n)) < 0 := fun m' hm' hs => by
    rcases hd with ⟨g, d, l⟩ | ⟨g, d, l⟩ | ⟨g, d, l⟩
    · rw [d]
      have := cross0 m (by omega) m' hm' hs
      rw [show digS (0 : Int).toNat n = [] from rfl, this]; decide
    · rw [d]
      have := cross2 m (by omega) m' hm' hs (hu (n / 16 % 16)) (hu (n % 16)) (hdx _) (hdx _)
      rw [show digS (2 : Int).toNat n = [hu (n / 16 % 16), hu (n % 16)] from rfl, this]; decide
    · rw [d]
      have := cross4 m (by omega) m' hm' hs (hu (n / 16 / 16 / 16 % 16)) (hu (n / 16 / 16 % 16)) (hu (n / 16 % 16)) (hu (n % 16)) (hdx _) (hdx _) (hdx _) (hdx _)
      rw [show digS (4 : Int).toNat n = [hu (n / 16 / 16 / 16 % 16), hu (n / 16 / 16 % 16), hu (n / 16 % 16), hu (n % 16)] from rfl, this]; decide
  have same : ∀ m', m' < 13 → sameSh m m' = true → wrM m' (restM m (digS (digs b).toNat n)) = n := fun m' hm' hs => by
    rw [same_read m m' hm13 hm' hs _ (by rw [hdl, hdg]), hval]
  have stepm : ∀ (f : Nat) (e : Int), prsA (opName (Int.ofNat b)) (restM m (digS (digs b).toNat n)) (f + 1) m e = ((b : Int), n, 0) := fun f e => by
    rw [prsA, same m hm13 (by simp [sameSh]), if_neg (by omega)]
    show (if (byteW (opName (Int.ofNat b)) (Int.ofNat m) opTab 0 14).2 = 0 then _ else _) = _
    have hb' : byteW (opName (Int.ofNat b)) (Int.ofNat m) opTab 0 14 = (Int.ofNat b, 0) := hb
    rw [hb', if_pos rfl]
    show ((byteW (opName (Int.ofNat b)) (Int.ofNat m) opTab 0 14).1, n, (0 : Int)) = _
    rw [hb']; rfl
  by_cases h12 : m = 12
  · subst h12
    have hr' : (byteW (opName (Int.ofNat b)) 6 opTab 0 14).2 ≠ 0 := by
      simp only [Bool.or_eq_true, decide_eq_true_eq] at hr
      exact hr.resolve_left (fun q => q rfl)
    have s1 := prsA_skip (opName (Int.ofNat b)) (restM 12 (digS (digs b).toNat n)) 11 6 0 7 (fun j _ h2 => other j (by omega) (by
      have : j = 0 ∨ j = 1 ∨ j = 2 ∨ j = 3 ∨ j = 4 ∨ j = 5 := by omega
      rcases this with rfl | rfl | rfl | rfl | rfl | rfl <;> rfl))
    show prsA _ _ (6 + 7) 0 11 = _
    rw [s1]
    show prsA _ _ (6 + 1) 6 11 = _
    rw [prsA, same 6 (by omega) rfl, if_neg (by omega)]
    show (if (byteW (opName (Int.ofNat b)) 6 opTab 0 14).2 = 0 then _ else prsA _ _ 6 7 (byteW (opName (Int.ofNat b)) 6 opTab 0 14).2) = _
    rw [if_neg hr']
    have s2 := prsA_skip (opName (Int.ofNat b)) (restM 12 (digS (digs b).toNat n)) (byteW (opName (Int.ofNat b)) 6 opTab 0 14).2 5 7 1 (fun j h2 h3 => other j (by omega) (by
      have : j = 7 ∨ j = 8 ∨ j = 9 ∨ j = 10 ∨ j = 11 := by omega
      rcases this with rfl | rfl | rfl | rfl | rfl <;> rfl))
    show prsA _ _ (5 + 1) 7 _ = _
    rw [s2]
    exact stepm 0 _
  · have s1 := prsA_skip (opName (Int.ofNat b)) (restM m (digS (digs b).toNat n)) 11 m 0 (13 - m) (fun j _ h2 => other j (by omega) (by
      have a1 : (j == m) = false := beq_eq_false_iff_ne.2 (by omega)
      have a2 : (m == 12) = false := beq_eq_false_iff_ne.2 h12
      have a3 : (j == 12) = false := beq_eq_false_iff_ne.2 (by omega)
      simp [sameSh, a1, a2, a3]))
    rw [show m + (13 - m) = 13 by omega, Nat.zero_add] at s1
    rw [s1, show 13 - m = (12 - m) + 1 by omega]
    exact stepm _ _
end Go.Proofs.YtadkilofkpmpgaaDoor
