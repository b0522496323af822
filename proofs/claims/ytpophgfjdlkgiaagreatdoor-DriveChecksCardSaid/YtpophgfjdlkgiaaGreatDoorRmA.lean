/- A reckoner with memory, part 10: what holds behind the operations of a region that have come, whichever they are. -/
import Derived.Test.YtpophgfjdlkgiaaGreatDoorRm9
namespace Go.Proofs.YtpophgfjdlkgiaaGreatDoor
namespace Rm
open Go Go.RowKit
open Rk (Kn)

/-! ### Values that avoid a row of numbers -/
def avA (lo hi : Nat) : Option Addr → Bool
  | some ⟨k, _, some _⟩ => !(Nat.ble lo k && Nat.blt k hi)
  | _ => true
mutual
def av (lo hi : Nat) : Value → Bool
  | .bool _ => true
  | .int _ _ => true
  | .float _ _ => true
  | .complex _ _ _ => true
  | .string _ => true
  | .pointer a => avA lo hi a
  | .slice a _ _ => avA lo hi a
  | .map _ => true
  | .chan _ => true
  | .func _ ⟨xs⟩ ⟨ys⟩ => avL lo hi xs && avL lo hi ys
  | .nilFunc => true
  | .iface _ v => av lo hi v
  | .nilIface => true
  | .agg ⟨cs⟩ => avL lo hi cs
  | .tuple ⟨vs⟩ => avL lo hi vs
def avL (lo hi : Nat) : List Value → Bool
  | [] => true
  | v :: r => av lo hi v && avL lo hi r
end
def Blk.av (lo hi : Nat) : Blk → Bool
  | .row cs _ => avL lo hi cs
  | .room cs _ _ => avL lo hi cs
  | _ => true
/-- The same but for a row of numbers. -/
def Out (lo hi : Nat) (ρ ρ' : Env) : Prop := ∀ k, ¬ (lo ≤ k ∧ k < hi) → ρ k = ρ' k

theorem avA_key {lo hi k o t : Nat} (h : avA lo hi (some ⟨k, o, some t⟩) = true) : ¬ (lo ≤ k ∧ k < hi) := by
  simp only [avA, Bool.not_eq_true', Bool.and_eq_false_iff] at h
  rintro ⟨h1, h2⟩
  rcases h with h | h
  · rw [Nat.ble_eq_true_of_le h1] at h; cases h
  · have : Nat.blt k hi = true := by rw [Nat.blt_eq]; exact h2
    rw [this] at h; cases h
theorem avA_of {lo hi n : Nat} (h : n ≤ lo) (a : Option Addr) (hs : scA n a) : avA lo hi a = true := by
  rcases a with _ | ⟨k, o, _ | t⟩
  · rfl
  · rfl
  · simp only [scA] at hs
    have : Nat.ble lo k = false := by
      cases hb : Nat.ble lo k with
      | false => rfl
      | true => have := Nat.le_of_ble_eq_true hb; omega
    simp [avA, this]
theorem avA_empty {lo hi : Nat} (h : hi ≤ lo) (a : Option Addr) : avA lo hi a = true := by
  rcases a with _ | ⟨k, o, _ | t⟩
  · rfl
  · rfl
  · simp only [avA, Bool.not_eq_true', Bool.and_eq_false_iff]
    by_cases h1 : lo ≤ k
    · right
      cases hb : Nat.blt k hi with
      | false => rfl
      | true => rw [Nat.blt_eq] at hb; omega
    · left
      cases hb : Nat.ble lo k with
      | false => rfl
      | true => exact absurd (Nat.le_of_ble_eq_true hb) h1

theorem cP_out {lo hi : Nat} {ρ ρ' : Env} (h : Out lo hi ρ ρ') (a : Option Addr) (hs : avA lo hi a = true) : cP ρ a = cP ρ' a := by
  rcases a with _ | ⟨k, o, _ | t⟩
  · rfl
  · rfl
  · simp only [cP, h k (avA_key hs)]
theorem cS_out {lo hi : Nat} {ρ ρ' : Env} (h : Out lo hi ρ ρ') (a : Option Addr) (m c : Nat) (hs : avA lo hi a = true) : cS ρ a m c = cS ρ' a m c := by
  rcases a with _ | ⟨k, o, _ | t⟩
  · rfl
  · rfl
  · simp only [cS, h k (avA_key hs)]
mutual
theorem conc_out {lo hi : Nat} {ρ ρ' : Env} (h : Out lo hi ρ ρ') : ∀ v : Value, av lo hi v = true → conc ρ v = conc ρ' v
  | .bool _, _ => rfl
  | .int _ _, _ => rfl
  | .float _ _, _ => rfl
  | .complex _ _ _, _ => rfl
  | .string _, _ => rfl
  | .pointer a, hs => cP_out h a hs
  | .slice a m c, hs => cS_out h a m c hs
  | .map _, _ => rfl
  | .chan _, _ => rfl
  | .func fn ⟨xs⟩ ⟨ys⟩, hs => by
    rw [av, Bool.and_eq_true] at hs
    rw [conc, conc, concL_out h xs hs.1, concL_out h ys hs.2]
  | .nilFunc, _ => rfl
  | .iface t v, hs => by
    rw [av] at hs
    rw [conc, conc, conc_out h v hs]
  | .nilIface, _ => rfl
  | .agg ⟨cs⟩, hs => by
    rw [av] at hs
    rw [conc, conc, concL_out h cs hs]
  | .tuple ⟨vs⟩, hs => by
    rw [av] at hs
    rw [conc, conc, concL_out h vs hs]
theorem concL_out {lo hi : Nat} {ρ ρ' : Env} (h : Out lo hi ρ ρ') : ∀ l : List Value, avL lo hi l = true → concL ρ l = concL ρ' l
  | [], _ => rfl
  | v :: r, hs => by
    rw [avL, Bool.and_eq_true] at hs
    rw [concL, concL, conc_out h v hs.1, concL_out h r hs.2]
end
mutual
theorem av_of {lo hi n : Nat} (h : n ≤ lo) : ∀ v : Value, sc n v → av lo hi v = true
  | .bool _, _ => rfl
  | .int _ _, _ => rfl
  | .float _ _, _ => rfl
  | .complex _ _ _, _ => rfl
  | .string _, _ => rfl
  | .pointer a, hs => avA_of h a hs
  | .slice a _ _, hs => avA_of h a hs
  | .map _, _ => rfl
  | .chan _, _ => rfl
  | .func _ ⟨xs⟩ ⟨ys⟩, hs => by
    rw [av, avL_of h xs hs.1, avL_of h ys hs.2]; rfl
  | .nilFunc, _ => rfl
  | .iface _ v, hs => av_of h v hs
  | .nilIface, _ => rfl
  | .agg ⟨cs⟩, hs => avL_of h cs hs
  | .tuple ⟨vs⟩, hs => avL_of h vs hs
theorem avL_of {lo hi n : Nat} (h : n ≤ lo) : ∀ l : List Value, scL n l → avL lo hi l = true
  | [], _ => rfl
  | v :: r, hs => by rw [avL, av_of h v hs.1, avL_of h r hs.2]; rfl
end
theorem Blk.av_of {lo hi n : Nat} (h : n ≤ lo) : ∀ b : Blk, b.sc n → b.av lo hi = true
  | .row cs _, hs => avL_of h cs hs
  | .room cs _ _, hs => avL_of h cs hs
  | .big _ _ _, _ => rfl
  | .snap _ _, _ => rfl
  | .dfr, _ => rfl
theorem BAt.out {lo hi : Nat} {ρ ρ' : Env} {w : World} {e : Ent} {b : Blk} (h : BAt ρ w e b) (hs : Out lo hi ρ ρ') (hb : b.av lo hi = true) : BAt ρ' w e b := by
  cases b with
  | row cs ty =>
    show w.heap[e.b]? = some (.cells ⟨concL ρ' cs⟩ ty (0, 0))
    rw [← concL_out hs cs hb]; exact h
  | room cs ty sz =>
    obtain ⟨rest, n, h1, h2, h3⟩ := h
    exact ⟨rest, n, by rw [← concL_out hs cs hb]; exact h1, by rw [← concL_out hs cs hb]; exact h2, h3⟩
  | big n f ty => exact h
  | snap n f => exact h
  | dfr => exact h
theorem R.same {B : Nat} {ρ ρ' : Env} {H : Heap} {nx : Nat} {w : World} (h : R B ρ H nx w) (hs : Same nx ρ ρ') : R B ρ' H nx w :=
  ⟨h.base, fun k b hk => by
    obtain ⟨g1, g2, g3, g4⟩ := h.mem k b hk
    rw [← hs k g1]
    exact ⟨g1, g2.same hs g3, g3, g4⟩, fun k k' b b' hk hk' hm hm' e => by
    rw [← hs k (h.mem k b hk).1, ← hs k' (h.mem k' b' hk').1] at e
    exact h.inj k k' b b' hk hk' hm hm' e⟩

/-! ### A region's operations as they were reckoned, in the text's order -/
structure Rec where
  dst : Option Tmp
  v : Value
  F : Heap
  wr : Bool
  mem : Bool
  /-- What it has looked at lies below. -/
  rd : Nat
  deriving Inhabited

instance : Inhabited Blk := ⟨.snap 0 (fun _ => undef)⟩

/-- The frame behind the first i operations, those that L has. -/
def TLn (rc : Nat → Rec) (L : Set') : Nat → Array Value → Array Value
  | 0, T => T
  | i + 1, T => if L i = true then Rk.put (TLn rc L i T) (rc i).dst (rc i).v else TLn rc L i T
/-- What is known behind the first i operations, those that L has. -/
def HL (rc : Nat → Rec) (L : Set') (H0 : Heap) : Nat → Heap
  | 0 => H0
  | i + 1 => if L i = true then (if (rc i).wr = true then (rc i).F else (rc i).F ++ HL rc L H0 i) else HL rc L H0 i

section
variable {rc : Nat → Rec} {L L' A : Set'} {H0 : Heap} {T0 : Array Value}
theorem TLn_congr : ∀ (n : Nat), (∀ j, j < n → L j = L' j) → TLn rc L n T0 = TLn rc L' n T0
  | 0, _ => rfl
  | n + 1, h => by rw [TLn, TLn, TLn_congr n (fun j hj => h j (by omega)), h n (by omega)]
theorem put_getD {T : Array Value} {d : Option Tmp} {v : Value} {x : Nat} (h : d ≠ some x) : (Rk.put T d v).getD x undef = T.getD x undef := by
  cases d with
  | none => rfl
  | some d =>
    simp only [Rk.put]
    have hne : d ≠ x := fun e => h (by rw [e])
    by_cases hx : x < T.size
    · simp [Array.getD, hx, hne]
    · simp [Array.getD, hx]
theorem put_comm {T : Array Value} {d d' : Option Tmp} {v v' : Value} (h : ∀ x, d = some x → d' ≠ some x) : Rk.put (Rk.put T d v) d' v' = Rk.put (Rk.put T d' v') d v := by
  cases d with
  | none => rfl
  | some d => cases d' with
    | none => rfl
    | some d' =>
      simp only [Rk.put]
      exact Array.setIfInBounds_comm _ _ (fun e => h d rfl (by rw [e]))
/-- A temporary that is not written where the sets differ. -/
theorem TLn_at {x : Nat} : ∀ (n : Nat), (∀ j, j < n → L j ≠ L' j → (rc j).dst ≠ some x) → (TLn rc L n T0).getD x undef = (TLn rc L' n T0).getD x undef
  | 0, _ => rfl
  | n + 1, h => by
    have ih := TLn_at n (fun j hj => h j (by omega))
    rw [TLn, TLn]
    by_cases e : L n = L' n
    · rw [e]
      split
      · by_cases hd : (rc n).dst = some x
        · rw [hd]
          simp only [Rk.put]
          have hs : (TLn rc L n T0).size = (TLn rc L' n T0).size := by
            have key : ∀ (M : Set') m, (TLn rc M m T0).size = T0.size := by
              intro M m
              induction m with
              | zero => rfl
              | succ m ihm =>
                rw [TLn]
                split
                · cases hq : (rc m).dst with
                  | none => exact ihm
                  | some d => simp [Rk.put, ihm]
                · exact ihm
            rw [key, key]
          by_cases hx : x < (TLn rc L n T0).size
          · simp [Array.getD, hx, ← hs]
          · simp [Array.getD, hx, ← hs]
        · rw [put_getD hd, put_getD hd]; exact ih
      · exact ih
    · have hd := h n (by omega) e
      split <;> split <;> (try rw [put_getD hd]) <;> (try rw [put_getD hd]) <;> exact ih
theorem TLn_get {p : Value → Prop} (h0 : ∀ x, p (T0.getD x undef)) (hu : p undef) : ∀ (n : Nat), (∀ j, j < n → L j = true → p (rc j).v) → ∀ x, p ((TLn rc L n T0).getD x undef)
  | 0, _ => h0
  | n + 1, h => fun x => by
    have ih := TLn_get h0 hu n (fun j hj => h j (by omega)) x
    rw [TLn]
    split
    · rename_i hl
      cases hq : (rc n).dst with
      | none => exact ih
      | some d =>
        simp only [Rk.put]
        by_cases e : d = x
        · subst e
          by_cases hx : d < (TLn rc L n T0).size
          · simpa [Array.getD, hx] using h n (by omega) hl
          · simpa [Array.getD, hx] using hu
        · by_cases hx : x < (TLn rc L n T0).size
          · have := ih
            simpa [Array.getD, hx, Array.getElem_setIfInBounds, e] using this
          · simpa [Array.getD, hx] using hu
    · exact ih
/-- One more operation has come. -/
theorem TLn_add {i : Nat} (hi : L i = false) : ∀ (n : Nat), i < n → (∀ j, i < j → j < n → L j = true → ∀ x, (rc i).dst = some x → (rc j).dst ≠ some x) → TLn rc (addS L i) n T0 = Rk.put (TLn rc L n T0) (rc i).dst (rc i).v
  | 0, h, _ => by omega
  | n + 1, h, hd => by
    rw [TLn, TLn]
    by_cases e : n = i
    · subst e
      rw [if_pos (by simp [addS]), if_neg (by simp [hi]), TLn_congr (L := addS L n) (L' := L) n (fun j hj => by simp only [addS]; rw [if_neg (by omega)])]
    · have e2 : addS L i n = L n := by simp only [addS]; rw [if_neg e]
      rw [e2, TLn_add hi n (by omega) (fun j h1 h2 => hd j h1 (by omega))]
      split
      · rename_i hl
        exact put_comm (hd n (by omega) (by omega) hl)
      · rfl

theorem HL_congr : ∀ (n : Nat), (∀ j, j < n → L j = L' j) → HL rc L H0 n = HL rc L' H0 n
  | 0, _ => rfl
  | n + 1, h => by rw [HL, HL, HL_congr n (fun j hj => h j (by omega)), h n (by omega)]
theorem HL_pure {i : Nat} (hF : (rc i).F = []) (hw : (rc i).wr = false) : ∀ (n : Nat), HL rc (addS L i) H0 n = HL rc L H0 n
  | 0 => rfl
  | n + 1 => by
    rw [HL, HL, HL_pure hF hw n]
    by_cases e : n = i
    · subst e
      rw [if_pos (by simp [addS]), hw, hF]
      simp
    · have e2 : addS L i n = L n := by simp only [addS]; rw [if_neg e]
      rw [e2]

theorem lk_or {X Y : Heap} {k : Nat} {b : Blk} (h : lk (X ++ Y) k = some b) : lk X k = some b ∨ (lk X k = none ∧ lk Y k = some b) := by
  rw [lk_app] at h
  cases hx : lk X k with
  | none => rw [hx] at h; exact .inr ⟨rfl, by simpa using h⟩
  | some c => rw [hx] at h; exact .inl (by simpa using h)
/-- Where an entry comes from. -/
theorem HL_from {k : Nat} {b : Blk} : ∀ (n : Nat), lk (HL rc L H0 n) k = some b → lk H0 k = some b ∨ ∃ j, j < n ∧ L j = true ∧ lk (rc j).F k = some b
  | 0, h => .inl h
  | n + 1, h => by
    rw [HL] at h
    split at h
    · rename_i hl
      split at h
      · exact .inr ⟨n, by omega, hl, h⟩
      · rcases lk_or h with h1 | ⟨_, h1⟩
        · exact .inr ⟨n, by omega, hl, h1⟩
        · rcases HL_from n h1 with h2 | ⟨j, h2, h3, h4⟩
          · exact .inl h2
          · exact .inr ⟨j, by omega, h3, h4⟩
    · rcases HL_from n h with h2 | ⟨j, h2, h3, h4⟩
      · exact .inl h2
      · exact .inr ⟨j, by omega, h3, h4⟩
/-- Behind one more: its own entries, or those of before. -/
theorem HL_add {i k : Nat} {b : Blk} (hi : L i = false) : ∀ (n : Nat), lk (HL rc (addS L i) H0 n) k = some b → lk (rc i).F k = some b ∨ lk (HL rc L H0 n) k = some b
  | 0, h => .inr h
  | n + 1, h => by
    rw [HL] at h ⊢
    by_cases e : n = i
    · subst e
      have hc : HL rc (addS L n) H0 n = HL rc L H0 n := HL_congr n (fun j hj => by simp only [addS]; rw [if_neg (by omega)])
      rw [if_pos (by simp [addS])] at h
      rw [if_neg (by simp [hi])]
      split at h
      · exact .inl h
      · rcases lk_or h with h1 | ⟨_, h1⟩
        · exact .inl h1
        · rw [hc] at h1; exact .inr h1
    · have e2 : addS L i n = L n := by simp only [addS]; rw [if_neg e]
      rw [e2] at h
      split
      · rename_i hl
        rw [if_pos hl] at h
        split
        · rename_i hw
          rw [if_pos hw] at h; exact .inr h
        · rename_i hw
          rw [if_neg hw] at h
          rcases lk_or h with h1 | ⟨h0, h1⟩
          · right; rw [lk_app, h1]; rfl
          · rcases HL_add hi n h1 with h2 | h2
            · exact .inl h2
            · right; rw [lk_app, h0]; exact h2
      · rename_i hl
        rw [if_neg hl] at h
        exact HL_add hi n h
end
end Rm
end Go.Proofs.YtpophgfjdlkgiaaGreatDoor
