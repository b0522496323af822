/- A reckoner with memory, part 13: what the reckoning of a region shows. -/
import Derived.Test.YtpophgfjdlkgiaaGreatDoorRmC
namespace Go.Proofs.YtpophgfjdlkgiaaGreatDoor
namespace Rm
open Go Go.RowKit
open Rk (Orc Kn)

def Comp (rc : Nat → Rec) (nxs : Nat → Nat) : RL → Nat → Nat → Prop
  | [], k, nx => k = 0 ∧ nxs 0 = nx
  | (j, n, r) :: l, k, nx => k = j + 1 ∧ rc j = r ∧ nxs (j + 1) = nx ∧ Comp rc nxs l j n
def WI : RL → Nat → Prop
  | [], k => k = 0
  | (j, _, _) :: l, k => k = j + 1 ∧ WI l j

section
variable {rc : Nat → Rec} {nxs : Nat → Nat}
theorem Comp.nx : ∀ {l : RL} {k nx : Nat}, Comp rc nxs l k nx → nxs k = nx
  | [], k, nx, h => by obtain ⟨rfl, h⟩ := h; exact h
  | (j, n, r) :: l, k, nx, h => by obtain ⟨rfl, _, h, _⟩ := h; exact h
theorem Comp.congr {rc' : Nat → Rec} {nxs' : Nat → Nat} : ∀ {l : RL} {k nx : Nat}, (∀ j, j < k → rc j = rc' j) → (∀ j, j ≤ k → nxs j = nxs' j) → Comp rc nxs l k nx → Comp rc' nxs' l k nx
  | [], k, nx, _, h2, h => by obtain ⟨rfl, h⟩ := h; exact ⟨rfl, by rw [← h2 0 (Nat.le_refl _)]; exact h⟩
  | (j, n, r) :: l, k, nx, h1, h2, h => by
    obtain ⟨rfl, h3, h4, h5⟩ := h
    exact ⟨rfl, by rw [← h1 j (by omega)]; exact h3, by rw [← h2 (j + 1) (Nat.le_refl _)]; exact h4, Comp.congr (fun i hi => h1 i (by omega)) (fun i hi => h2 i (by omega)) h5⟩
theorem comp_ex : ∀ (l : RL) (k nx : Nat), WI l k → ∃ rc nxs, Comp rc nxs l k nx
  | [], k, nx, h => ⟨fun _ => ⟨none, undef, [], false, false, 0⟩, fun _ => nx, h, rfl⟩
  | (j, n, r) :: l, k, nx, h => by
    obtain ⟨rfl, h⟩ := h
    obtain ⟨rc, nxs, hc⟩ := comp_ex l j n h
    refine ⟨fun i => if i = j then r else rc i, fun i => if i = j + 1 then nx else nxs i, rfl, by simp, by simp, ?_⟩
    exact Comp.congr (fun i hi => by rw [if_neg (by omega)]) (fun i hi => by rw [if_neg (by omega)]) hc
theorem hinR_eq (H0 : Heap) (m : Nat) : ∀ {l : RL} {k nx : Nat}, Comp rc nxs l k nx → hinR H0 m l = HL rc (fun j => m.testBit j) H0 k
  | [], k, nx, h => by obtain ⟨rfl, _⟩ := h; rfl
  | (j, n, r) :: l, k, nx, h => by
    obtain ⟨rfl, h1, _, h2⟩ := h
    rw [hinR, HL, hinR_eq H0 m h2, h1]
    cases m.testBit j <;> cases r.wr <;> simp
theorem hinA_eq (H0 : Heap) : ∀ {l : RL} {k nx : Nat}, Comp rc nxs l k nx → hinA H0 l = HL rc (fun _ => true) H0 k
  | [], k, nx, h => by obtain ⟨rfl, _⟩ := h; rfl
  | (j, n, r) :: l, k, nx, h => by
    obtain ⟨rfl, h1, _, h2⟩ := h
    rw [hinA, HL, hinA_eq H0 h2, h1]
    cases r.wr <;> simp
theorem okWr_ok {m : Nat} : ∀ {l : RL} {k nx : Nat}, Comp rc nxs l k nx → okWr m l = true → ∀ j, j < k → (rc j).wr = true → m.testBit j = true
  | [], k, nx, h, _, j, hj, _ => by obtain ⟨rfl, _⟩ := h; omega
  | (i, n, r) :: l, k, nx, h, ho, j, hj, hw => by
    obtain ⟨rfl, h1, _, h2⟩ := h
    simp only [okWr, List.all_cons, Bool.and_eq_true] at ho
    by_cases e : j = i
    · subst e
      rw [h1] at hw
      simpa [hw] using ho.1
    · exact okWr_ok h2 ho.2 j (by omega) hw
theorem okMem_ok {m : Nat} : ∀ {l : RL} {k nx : Nat}, Comp rc nxs l k nx → okMem m l = true → ∀ j, j < k → (rc j).mem = true → m.testBit j = true
  | [], k, nx, h, _, j, hj, _ => by obtain ⟨rfl, _⟩ := h; omega
  | (i, n, r) :: l, k, nx, h, ho, j, hj, hw => by
    obtain ⟨rfl, h1, _, h2⟩ := h
    simp only [okMem, List.all_cons, Bool.and_eq_true] at ho
    by_cases e : j = i
    · subst e
      rw [h1] at hw
      simpa [hw] using ho.1
    · exact okMem_ok h2 ho.2 j (by omega) hw
theorem okRd_ok {m n0 wk : Nat} : ∀ {l : RL} {k nx : Nat}, Comp rc nxs l k nx → okRd m n0 wk l = true → ∀ j, j < k → m.testBit j = false → (rc j).rd ≤ n0 ∨ (wk ≠ 0 ∧ (rc j).rd ≠ wk)
  | [], k, nx, h, _, j, hj, _ => by obtain ⟨rfl, _⟩ := h; omega
  | (i, n, r) :: l, k, nx, h, ho, j, hj, hw => by
    obtain ⟨rfl, h1, _, h2⟩ := h
    simp only [okRd, List.all_cons, Bool.and_eq_true] at ho
    by_cases e : j = i
    · subst e
      rw [h1]
      have := ho.1
      rw [hw] at this
      by_cases h3 : r.rd ≤ n0
      · exact .inl h3
      · have hb : Nat.ble r.rd n0 = false := by
          cases hq : Nat.ble r.rd n0 with
          | false => rfl
          | true => exact absurd (Nat.le_of_ble_eq_true hq) h3
        rw [hb] at this
        refine .inr ⟨fun q => ?_, fun q => ?_⟩
        · rw [q, show Nat.beq 0 0 = true from rfl] at this
          exact absurd this (by simp)
        · rw [q, Nat.beq_refl] at this
          exact absurd this (by simp)
    · exact okRd_ok h2 ho.2 j (by omega) hw
theorem allH {F : Heap} {p : Blk → Bool} (h : F.all (fun x => p x.2) = true) : ∀ k b, lk F k = some b → p b = true := by
  induction F with
  | nil => intro k b hk; simp [lk] at hk
  | cons x r ih =>
    obtain ⟨j, c⟩ := x
    simp only [List.all_cons, Bool.and_eq_true] at h
    intro k b hk
    rw [lk_cons] at hk
    split at hk
    · cases hk; exact h.1
    · exact ih h.2 k b hk
theorem okAv_ok {m : Nat} {v : Value} {F : Heap} : ∀ {l : RL} {k nx : Nat}, Comp rc nxs l k nx → okAv m v F nx l = true → ∀ j, j < k → (rc j).mem = true → m.testBit j = false → nxs j < nxs (j + 1) →
      av (nxs j) (nxs (j + 1)) v = true ∧ ∀ k b, lk F k = some b → b.av (nxs j) (nxs (j + 1)) = true
  | [], k, nx, h, _, j, hj, _, _, _ => by obtain ⟨rfl, _⟩ := h; omega
  | (i, n, r) :: l, k, nx, h, ho, j, hj, hw, hm, hlt => by
    obtain ⟨rfl, h1, h3, h2⟩ := h
    simp only [okAv, Bool.and_eq_true] at ho
    by_cases e : j = i
    · subst e
      rw [h1] at hw
      have hn := h2.nx
      rw [h3, hn] at hlt ⊢
      have hb : Nat.blt n nx = true := by rw [Nat.blt_eq]; exact hlt
      have := ho.1
      rw [hw, hm, hb] at this
      simp only [Bool.not_true, Bool.or_self, Bool.false_or, Bool.and_eq_true] at this
      exact ⟨this.1, allH this.2⟩
    · exact okAv_ok h2 ho.2 j (by omega) hw hm hlt
end

section
variable {P : Program} {B : Nat} {kn : Kn} {okf : FuncId → Bool} {bz : BZ} {call : Call} {all : Array Oper} {H0 : Heap} {T0 : Array Value} {rc : Nat → Rec} {nxs : Nat → Nat}

structure DOk (P : Program) (B : Nat) (kn : Kn) (all : Array Oper) (H0 : Heap) (T0 : Array Value) (rc : Nat → Rec) (nxs : Nat → Nat) (s sF : DS) (len : Nat) : Prop where
  comp : Comp rc nxs s.rs s.ix s.nx
  ix : sF.ix = s.ix + len
  ob : sF.ob → s.ob
  lo : sF.lo ≤ s.lo
  fr : s.t.arr = TLn rc (fun _ => true) s.ix T0 → sF.t.arr = TLn rc (fun _ => true) sF.ix T0 ∧ (sF.ob → ∀ i, s.ix ≤ i → i < sF.ix → ∃ o, Stp P B kn all (pOf all) rc nxs T0 H0 i o)
  low : ∀ i, s.ix ≤ i → i < sF.ix → (rc i).wr = true → (∀ j, j < i → (rc j).wr = true → pOf all i j = true) ∧ ∀ k b, k < sF.lo → k < nxs i → lk (HL rc (pOf all i) H0 i) k = some b → lk (rc i).F k = some b
  new : ∀ i, s.ix ≤ i → i < sF.ix → nxs i ≤ nxs (i + 1) ∧ ((rc i).wr = false → ∀ k b, lk (rc i).F k = some b → nxs i ≤ k)

theorem DOk.cons {s s' sF : DS} {len : Nat} {r : Rec} (h : DOk P B kn all H0 T0 rc nxs s' sF len) (hix : s'.ix = s.ix + 1) (hrs : s'.rs = (s.ix, s.nx, r) :: s.rs) (hob : s'.ob → s.ob) (hlo : s'.lo ≤ s.lo) (hnx : s.nx ≤ s'.nx)
    (hfr : s'.t.arr = Rk.put s.t.arr r.dst r.v)
    (hst : Comp rc nxs s.rs s.ix s.nx → rc s.ix = r → nxs (s.ix + 1) = s'.nx → nxs s.ix = s.nx → s.t.arr = TLn rc (fun _ => true) s.ix T0 → s'.ob → ∃ o, Stp P B kn all (pOf all) rc nxs T0 H0 s.ix o)
    (hlow : Comp rc nxs s.rs s.ix s.nx → r.wr = true → (∀ j, j < s.ix → (rc j).wr = true → pOf all s.ix j = true) ∧ ∀ k b, k < s'.lo → k < s.nx → lk (HL rc (pOf all s.ix) H0 s.ix) k = some b → lk r.F k = some b)
    (hnew : r.wr = false → ∀ k b, lk r.F k = some b → s.nx ≤ k) : DOk P B kn all H0 T0 rc nxs s sF (len + 1) := by
  have hc := h.comp
  rw [hrs, hix] at hc
  obtain ⟨_, c1, c2, c3⟩ := hc
  have c4 := c3.nx
  refine ⟨c3, by rw [h.ix, hix]; omega, fun x => hob (h.ob x), Nat.le_trans h.lo hlo, fun ht => ?_, fun i h1 h2 hw => ?_, fun i h1 h2 => ?_⟩
  · have ht' : s'.t.arr = TLn rc (fun _ => true) s'.ix T0 := by rw [hfr, hix, TLn, if_pos rfl, c1, ht]
    obtain ⟨g1, g2⟩ := h.fr ht'
    refine ⟨g1, fun x i h1 h2 => ?_⟩
    by_cases e : i = s.ix
    · subst e
      exact hst c3 c1 c2 c4 ht (h.ob x)
    · exact g2 x i (by rw [hix]; omega) h2
  · by_cases e : i = s.ix
    · subst e
      rw [c1] at hw ⊢
      rw [c4]
      obtain ⟨g1, g2⟩ := hlow c3 hw
      exact ⟨g1, fun k b hk => g2 k b (Nat.lt_of_lt_of_le hk h.lo)⟩
    · exact h.low i (by rw [hix]; omega) h2 hw
  · by_cases e : i = s.ix
    · subst e
      rw [c1, c2, c4]
      exact ⟨hnx, hnew⟩
    · exact h.new i (by rw [hix]; omega) h2

theorem gOk_ok {t : Rk.Fr} {o : Oper} (h : gOk all t o = true) : ∀ j c, o.guard = some (j, c) → ∃ d b, (all[j]?).bind (·.dst) = some d ∧ t.arr[d]? = some (.bool b) := by
  intro j c hg
  unfold gOk at h
  rw [hg] at h
  simp only at h
  split at h
  · rename_i d hd
    split at h
    · rename_i b hlt hv
      refine ⟨d, b, hd, ?_⟩
      have hlt' : d < t.n := by rwa [Nat.blt_eq] at hlt
      have hsz : d < t.arr.size := by simpa [Rk.Fr.arr] using hlt'
      have := t.arr_getD d
      rw [hv] at this
      rw [Array.getElem?_eq_getElem hsz]
      simpa [Array.getD, hsz] using this
    · cases h
  · cases h

theorem pOf_at {ms : List Nat} {s : DS} (hms : ms = (masks all.toList []).drop s.ix) {m : Nat} {r : List Nat} (e : ms = m :: r) (j : Nat) : pOf all s.ix j = m.testBit j := by
  unfold pOf
  have : (masks all.toList [])[s.ix]? = some m := by
    have h2 : ((masks all.toList []).drop s.ix)[0]? = some m := by rw [← hms, e]; rfl
    rwa [List.getElem?_drop, Nat.add_zero] at h2
  rw [List.getD, this]; rfl

theorem drw_ok (hbz : BZOk P bz) (hg : Good P B kn call) (hf : Rk.OkF P okf) : ∀ (os : List Oper) (ms : List Nat) (s sF : DS), drw P okf kn bz call all H0 ms os s = some sF → Comp rc nxs sF.rs sF.ix sF.nx → os = all.toList.drop s.ix → ms = (masks all.toList []).drop s.ix →
    DOk P B kn all H0 T0 rc nxs s sF os.length
  | [], ms, s, sF, h, hc, _, _ => by
    have : sF = s := by cases ms <;> simp only [drw, Option.some.injEq] at h <;> exact h.symm
    subst this
    exact ⟨hc, rfl, id, Nat.le_refl _, fun ht => ⟨ht, fun _ i h1 h2 => by omega⟩, fun i h1 h2 => by omega, fun i h1 h2 => by omega⟩
  | o :: os, [], s, sF, h, _, _, _ => by simp [drw] at h
  | o :: os, m :: ms, s, sF, h, hc, hos, hms => by
    have hop : all[s.ix]? = some o := by
      have h2 : (all.toList.drop s.ix)[0]? = some o := by rw [← hos]; rfl
      rw [List.getElem?_drop, Nat.add_zero] at h2
      simpa using h2
    have hos' : os = all.toList.drop (s.ix + 1) := by rw [← List.tail_drop, ← hos]; rfl
    have hms' : ms = (masks all.toList []).drop (s.ix + 1) := by rw [← List.tail_drop, ← hms]; rfl
    have hp := pOf_at (all := all) hms rfl
    have hpf : pOf all s.ix = fun j => m.testBit j := funext hp
    simp only [drw] at h
    split at h
    · rename_i hgk
      have hgrd := gOk_ok hgk
      split at h
      · rename_i hw
        rw [Rk.yieldedF_eq] at hw
        split at h
        · rename_i hoc
          have hoc' : ∀ x ∈ o.op.operands.toList, okc x = true := fun x hx => List.all_eq_true.1 hoc x hx
          split at h
          · rename_i r hr
            split at h
            · rename_i hav
              have ih := drw_ok hbz hg hf os ms _ sF h hc hos' hms'
              have hr' := opU_ok (B := B) hr
              refine ih.cons rfl rfl hr'.1 (Nat.le_refl _) (Nat.le_refl _) (Rk.putF_arr _ _ _) (fun c0 c1 c2 c3 ht hob => ?_) (fun _ hw => by cases hw) (fun _ k b hk => by simp [lk] at hk)
              refine ⟨o, hop, by rw [c1], by rw [c2, c3]; exact Nat.le_refl _, fun j hj hm hpj hlt => ?_, fun j c hgd => by rw [← ht]; exact hgrd j c hgd, .inr ⟨by rw [← ht]; exact hw, hoc', .inl ⟨by rw [c1], by rw [c1], by rw [c1], ?_⟩⟩, by rw [c1]; simp, by rw [c1]; simp⟩
              · rw [c1]
                rw [hp] at hpj
                exact okAv_ok c0 hav j hj hm hpj hlt
              · have h2 := hr'.2 hob
                rw [c1, ← ht, ← Rk.evF_eq]
                exact .inl ⟨h2.1, h2.2⟩
            · cases h
          · split at h
            · rename_i hwr
              split at h
              · rename_i k v hr
                split at h
                · rename_i hcond
                  simp only [Bool.and_eq_true] at hcond
                  obtain ⟨d1, hav⟩ := hcond
                  have ih := drw_ok hbz hg hf os ms _ sF h hc hos' hms'
                  obtain ⟨b, hkb, hrd⟩ := rdO_ok hr
                  refine ih.cons rfl rfl id (Nat.le_refl _) (Nat.le_refl _) (Rk.putF_arr _ _ _) (fun c0 c1 c2 c3 ht hob => ?_) (fun _ hw => by cases hw) (fun _ k b hk => by simp [lk] at hk)
                  refine ⟨o, hop, by rw [c1], by rw [c2, c3]; exact Nat.le_refl _, fun j hj hm hpj hlt => ?_, fun j c hgd => by rw [← ht]; exact hgrd j c hgd, .inr ⟨by rw [← ht]; exact hw, hoc', .inl ⟨by rw [c1], by rw [c1], by rw [c1], .inr ⟨fun j hj hjw => by rw [hp]; exact okWr_ok c0 hwr j hj hjw, k, b, by rw [c1], ?_, ?_⟩⟩⟩, by rw [c1]; simp, by rw [c1]; simp⟩
                  · rw [c1]
                    rw [hp] at hpj
                    exact okAv_ok c0 hav j hj hm hpj hlt
                  · rw [hpf, ← hinR_eq H0 m c0]; exact hkb
                  · rw [c1, ← ht, ← Rk.evF_eq]; exact hrd
                · cases h
              · split at h
                · rename_i r hr
                  have hr' := opW_ok (B := B) hbz hg hf hr
                  split at h
                  · rename_i hb
                    split at h
                    · rename_i hcond
                      simp only [Bool.and_eq_true] at hcond
                      obtain ⟨⟨⟨d1, d4⟩, d2⟩, d3⟩ := hcond
                      have ih := drw_ok hbz hg hf os ms _ sF h hc hos' hms'
                      refine ih.cons rfl rfl hr'.1 (mn_le _ _).1 (Nat.le_of_ble_eq_true d2) (Rk.putF_arr _ _ _) (fun c0 c1 c2 c3 ht hob => ?_) (fun c0 _ => ⟨fun j hj hjw => by rw [hp]; exact okWr_ok c0 hwr j hj hjw, fun k b hk hkn hkb => ?_⟩) (fun hw => by cases hw)
                      · refine ⟨o, hop, by rw [c1], by rw [c2, c3]; exact Nat.le_of_ble_eq_true d2, fun j hj hm hpj hlt => ?_, fun j c hgd => by rw [← ht]; exact hgrd j c hgd, .inr ⟨by rw [← ht]; exact hw, hoc', .inr ⟨by rw [c1], fun j hj hjw => by rw [hp]; exact okWr_ok c0 hwr j hj hjw, r.H, ?_, .inl ⟨by rw [c1], by rw [c1], fun j hj hjm => by rw [hp]; exact okMem_ok c0 d1 j hj hjm, fun j hj hpj k b hkr hkb => ?_⟩⟩⟩, by rw [c1]; simp, by rw [c1]; simp⟩
                        · rw [c1]
                          rw [hp] at hpj
                          exact okAv_ok c0 d3 j hj hm hpj hlt
                        · have h2 := hr'.2.2 hob
                          rw [c1, c2, c3, ← ht, ← Rk.evF_eq, hpf, ← hinR_eq H0 m c0]
                          exact h2
                        · have hle := okRd_ok c0 d4 j hj (by rw [← hp]; exact hpj)
                          rw [c1]
                          rw [hpf, ← hinR_eq H0 m c0] at hkb
                          rcases hle with hle | ⟨w1, w2⟩
                          · exact hr'.2.1 k b (by have := (mn_le r.lo s.nx).1; omega) (by have := (mn_le r.lo s.nx).2; omega) hkb
                          · obtain ⟨kw, hkw⟩ := Nat.exists_eq_succ_of_ne_zero w1
                            exact wkO_ok hr hkw (fun q => w2 (by rw [hkw, ← hkr, q])) hkb
                      · rw [hpf, ← hinR_eq H0 m c0] at hkb
                        exact hr'.2.1 k b (Nat.lt_of_lt_of_le hk (mn_le _ _).2) hkn hkb
                    · cases h
                  · rename_i hb
                    split at h
                    · rename_i hcond
                      simp only [Bool.and_eq_true] at hcond
                      obtain ⟨d2, d3⟩ := hcond
                      have hlo : s.nx ≤ r.lo := by
                        by_cases q : r.lo < s.nx
                        · have : Nat.blt r.lo s.nx = true := by rw [Nat.blt_eq]; exact q
                          rw [this] at hb; cases hb
                        · omega
                      have hkeep : ∀ k b, lk (keep (Nat.ble s.nx) r.H) k = some b → lk r.H k = some b ∧ s.nx ≤ k := fun k b hk => by
                        rw [lk_keep] at hk
                        split at hk
                        · rename_i q; exact ⟨hk, Nat.le_of_ble_eq_true q⟩
                        · cases hk
                      have ih := drw_ok hbz hg hf os ms _ sF h hc hos' hms'
                      refine ih.cons rfl rfl hr'.1 (Nat.le_refl _) (Nat.le_of_ble_eq_true d2) (Rk.putF_arr _ _ _) (fun c0 c1 c2 c3 ht hob => ?_) (fun _ hw => by cases hw) (fun _ k b hk => (hkeep k b hk).2)
                      refine ⟨o, hop, by rw [c1], by rw [c2, c3]; exact Nat.le_of_ble_eq_true d2, fun j hj hm hpj hlt => ?_, fun j c hgd => by rw [← ht]; exact hgrd j c hgd, .inr ⟨by rw [← ht]; exact hw, hoc', .inr ⟨by rw [c1], fun j hj hjw => by rw [hp]; exact okWr_ok c0 hwr j hj hjw, r.H, ?_, .inr ⟨by rw [c1], fun k b hk => by rw [c1] at hk; rw [c3]; exact hkeep k b hk, fun k b hk hkn => ?_, fun k b hkn hkb => ?_⟩⟩⟩, by rw [c1]; simp, by rw [c1]; simp⟩
                      · rw [c1]
                        rw [hp] at hpj
                        exact okAv_ok c0 d3 j hj hm hpj hlt
                      · have h2 := hr'.2.2 hob
                        rw [c1, c2, c3, ← ht, ← Rk.evF_eq, hpf, ← hinR_eq H0 m c0]
                        exact h2
                      · rw [c1]
                        rw [c3] at hkn
                        show lk (keep (Nat.ble s.nx) r.H) k = some b
                        rw [lk_keep, if_pos (Nat.ble_eq_true_of_le hkn)]
                        exact hk
                      · rw [hpf, ← hinR_eq H0 m c0] at hkb
                        rw [c3] at hkn
                        exact hr'.2.1 k b (by omega) hkn hkb
                    · cases h
                · cases h
            · cases h
        · cases h
      · rename_i hw
        rw [Rk.yieldedF_eq] at hw
        have ih := drw_ok hbz hg hf os ms _ sF h hc hos' hms'
        refine ih.cons rfl rfl id (Nat.le_refl _) (Nat.le_refl _) (Rk.putF_arr _ _ _) (fun c0 c1 c2 c3 ht hob => ?_) (fun _ hw => by cases hw) (fun _ k b hk => by simp [lk] at hk)
        refine ⟨o, hop, by rw [c1], by rw [c2, c3]; exact Nat.le_refl _, fun j hj hm hpj hlt => ?_, fun j c hgd => by rw [← ht]; exact hgrd j c hgd, .inl ⟨by rw [← ht]; simpa using hw, by rw [c1], by rw [c1], by rw [c1], by rw [c1]⟩, by rw [c1]; simp, by rw [c1]; simp⟩
        rw [c1]
        exact ⟨rfl, fun k b hk => by simp [lk] at hk⟩
    · cases h
end
end Rm
end Go.Proofs.YtpophgfjdlkgiaaGreatDoor
