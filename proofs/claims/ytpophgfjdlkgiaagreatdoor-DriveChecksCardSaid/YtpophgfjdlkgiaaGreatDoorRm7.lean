/- A reckoner with memory, part 7: what is appended; all operations in one. -/
import Derived.Test.YtpophgfjdlkgiaaGreatDoorRm6
namespace Go.Proofs.YtpophgfjdlkgiaaGreatDoor
namespace Rm
open Go Go.RowKit
open Rk (Orc tst tst_ok Kn run run_ok szOf isAg run_isAgg run_sizeOf)

def emptyS : Value → Bool
  | .slice _ n _ => Nat.beq n 0
  | _ => false

def oldsOf (H : Heap) (k off n sz : Nat) : Option (List Value) :=
  if n = 0 then some [] else match lk H k with
    | some (.row cs _) => if ((cs.drop off).take (n * sz)).length = n * sz then some ((cs.drop off).take (n * sz)) else none
    | some (.room cs _ _) => if ((cs.drop off).take (n * sz)).length = n * sz then some ((cs.drop off).take (n * sz)) else none
    | _ => none

def opAp (P : Program) (kn : Kn) (tys : List TypeId) (args : List Value) (H : Heap) (nx : Nat) (q : Orc) (ob : Prop) : Option Res :=
  match tys, args with
  | [t, t'], [s, x] => if Nat.beq t t' = true then
    match P.underlying t with
    | some (.slice el) => match P.info? el with
      | some ie => match ie.zero with
        | some z => if emptyS x = true then
            match roomOf H s, s with
            | some (_, _, n, c), _ => if n ≤ c then some ⟨s, H, nx, nx, nx, q, ob⟩ else none
            | none, .slice none 0 0 => some ⟨s, H, nx, nx, nx, q, ob⟩
            | none, .slice (some ⟨_, _, none⟩) n c => if n ≤ c then some ⟨s, H, nx, nx, nx, q, ob⟩ else none
            | _, _ => none
          else if 0 < ie.size ∧ z.cells.size = ie.size ∧ ie.bytes ≤ 4096 then
            match srcOf kn H x ie.size ob with
            | some (us, m, ob1) => match s with
              | .slice none 0 0 => if 0 < m ∧ m ≤ 1048576 then some ⟨.slice (some ⟨nx, 0, some 1⟩) m 0, (nx, .room us el ie.size) :: H, nx + 1, nx, nx, q, ob1⟩ else none
              | .slice (some ⟨k, 0, some 1⟩) n 0 => match lk H k with
                | some (.room cs ty sz) => if ty = el ∧ sz = ie.size ∧ cs.length = n * sz ∧ n + m ≤ 1048576 then some ⟨.slice (some ⟨nx, 0, some 1⟩) (n + m) 0, (nx, .room (cs ++ us) el ie.size) :: del H k, nx + 1, k, nx, q, ob1⟩ else none
                | _ => none
              | .slice (some ⟨k, off, some 0⟩) n c => if c < n + m ∧ n + m ≤ 1048576 then
                  match oldsOf H k off n ie.size with
                  | some olds => some ⟨.slice (some ⟨nx, 0, some 1⟩) (n + m) 0, (nx, .room (olds ++ us) el ie.size) :: H, nx + 1, nx, nx, q, ob1⟩
                  | none => none
                else none
              | .slice (some ⟨_, _, none⟩) n c => if n = 0 ∧ c < m ∧ m ≤ 1048576 then some ⟨.slice (some ⟨nx, 0, some 1⟩) m 0, (nx, .room us el ie.size) :: H, nx + 1, nx, nx, q, ob1⟩ else none
              | _ => none
            | none => none
          else none
        | none => none
      | none => none
    | _ => none
  else none
  | _, _ => none

section
variable {P : Program} {B : Nat} {kn : Kn}
theorem run_append_none {t el ty : TypeId} {ie : TypeInfo} (ht : P.underlying t = some (.slice el)) (hi : P.info? el = some ie) (base b : Option Addr) (n cap c : Nat) (h : n ≤ cap) (w : World) :
    (Builtin.append_ #[t, t] ty #[.slice base n cap, .slice b 0 c]).run P w = .ok (.slice base n cap) w := by
  cases base <;> cases b <;> simp [Builtin.append_, run_underlying ht, sizeOf, typeInfo, hi, Builtin.lenOf, Builtin.firstCells, loadCells, loadCellsFrom, storeCells, h]

theorem exec_append {c : Go.Call} {t : TypeId} {s x : Value} {o : Oper} {e ev : Operand → Value} {ρ : Env} (ho : o.op = .call c) (hc : c.callee = .builtin .append) (ht : c.argTypes.toList = [t, t]) (hargs : c.args.toList.map e = [s, x]) (hev : ∀ y ∈ o.op.operands.toList, ev y = conc ρ (e y))
    {w w' : World} {v : Value} (h : (Builtin.append_ #[t, t] o.type #[conc ρ s, conc ρ x]).run P w = .ok v w') : (execOp ev o).run P w = .ok (.value v) w' := by
  have hoa : ∀ y ∈ c.args.toList, y ∈ o.op.operands.toList := fun y hy => by simp [ho, Op.operands, Call.operands, hc]; simpa using hy
  have e1 : c.args.map ev = #[conc ρ s, conc ρ x] := by
    apply Array.ext'
    rw [Array.toList_map, List.map_congr_left (g := fun y => conc ρ (e y)) (fun y hy => hev y (hoa y hy)), show (fun y => conc ρ (e y)) = conc ρ ∘ e from rfl, ← List.map_map, hargs]
    rfl
  have e2 : c.argTypes = #[t, t] := Array.ext' ht
  rw [execOp, ho]
  simp only [Sem.run_bind, resolve, hc, e1, e2, Sem.run_pure, Result.andThen_ok, invoke, builtin, h]

theorem oldsOf_ok {H : Heap} {k off n sz : Nat} {olds : List Value} (h : oldsOf H k off n sz = some olds) : olds.length = n * sz ∧ ∀ ρ nx w, R B ρ H nx w → scL nx olds ∧ ∀ j u, (concL ρ olds)[j]? = some u → w.cell? ((⟨(ρ k).b, off, none⟩ : Addr).add j) = some u := by
  have own : ∀ (cs : List Value) (olds : List Value), olds = (cs.drop off).take (n * sz) → (∀ ρ nx w, R B ρ H nx w → scL nx cs ∧ ∃ ty rest, w.heap[(ρ k).b]? = some (.cells ⟨concL ρ cs ++ rest⟩ ty (0, 0))) →
      ∀ ρ nx w, R B ρ H nx w → scL nx olds ∧ ∀ j u, (concL ρ olds)[j]? = some u → w.cell? ((⟨(ρ k).b, off, none⟩ : Addr).add j) = some u := by
    intro cs olds hl hm ρ nx w hR
    obtain ⟨g1, ty, rest, g2⟩ := hm ρ nx w hR
    subst hl
    refine ⟨(scL_all nx _).2 fun v hv => (scL_all nx _).1 g1 v (List.mem_of_mem_drop (List.mem_of_mem_take hv)), fun j u hu => ?_⟩
    rw [Rk.addr_add, cell_at g2]
    rw [concL_map, List.getElem?_map] at hu
    cases hj : ((cs.drop off).take (n * sz))[j]? with
    | none => rw [hj] at hu; cases hu
    | some y =>
      rw [hj] at hu
      cases hu
      rw [List.getElem?_take] at hj
      split at hj
      · rw [List.getElem?_drop] at hj
        have hlt : off + j < cs.length := (List.getElem?_eq_some_iff.1 hj).1
        simp only [List.getElem?_toArray]
        rw [List.getElem?_append_left (by rw [concL_map]; simpa using hlt), concL_map, List.getElem?_map, hj]
        rfl
      · cases hj
  unfold oldsOf at h
  split at h
  · rename_i hn
    cases h
    exact ⟨by simp [hn], fun ρ nx w _ => ⟨trivial, fun j u hu => by simp [concL] at hu⟩⟩
  · split at h
    · rename_i cs ty hk
      split at h
      · rename_i hl
        cases h
        exact ⟨hl, own cs _ rfl (fun ρ nx w hR => ⟨(hR.mem k _ hk).2.2.1, ty, [], by rw [List.append_nil]; exact (hR.mem k _ hk).2.1⟩)⟩
      · cases h
    · rename_i cs ty sz' hk
      split at h
      · rename_i hl
        cases h
        exact ⟨hl, own cs _ rfl (fun ρ nx w hR => by
          obtain ⟨_, ⟨rest, _, g2, _⟩, g3, _⟩ := hR.mem k _ hk
          exact ⟨g3, ty, rest, g2⟩)⟩
      · cases h
    · cases h

/-- A new array that has grown. -/
theorem grown_ok {ρ : Env} {H : Heap} {nx : Nat} {w : World} (hR : R B ρ H nx w) {el : TypeId} {sz cap cnt : Nat} {cs : List Value} {z : Value} (hz : z.cells.size = sz) (hl : cs.length = cnt * sz) (hc : cnt ≤ cap) (hm : cap ≤ maxLen) (hs : scL nx cs) :
    R B (bind ρ nx ⟨w.heap.size, cap, undef⟩) ((nx, .room cs el sz) :: H) (nx + 1) (w.drew.alloc (.cells ((concL ρ cs).toArray ++ Builtin.zeroCells z.cells (cap - cnt)) el)) ∧
    Ext w ρ H nx (w.drew.alloc (.cells ((concL ρ cs).toArray ++ Builtin.zeroCells z.cells (cap - cnt)) el)) (bind ρ nx ⟨w.heap.size, cap, undef⟩) ((nx, .room cs el sz) :: H) (nx + 1) := by
  refine hR.fresh (fun _ => rfl) ⟨(Builtin.zeroCells z.cells (cap - cnt)).toList, cnt, ?_, ?_, hl, hc, hm⟩ (scL_mono (Nat.le_succ _) _ hs) (fun x hx => heap_alloc_old w.drew _ x hx) (by simp) rfl rfl rfl
  · rw [← concL_same (bind_same ρ nx _) cs hs]
    have := heap_alloc_new w.drew (.cells ((concL ρ cs).toArray ++ Builtin.zeroCells z.cells (cap - cnt)) el)
    rw [show w.drew.heap.size = w.heap.size from rfl] at this
    rw [this]
    congr 2
    apply Array.ext'
    simp
  · rw [← concL_same (bind_same ρ nx _) cs hs, List.length_append, concL_len, hl, Array.length_toList, size_zeroCells, hz, ← Nat.add_mul]
    congr 1
    show cnt + (cap - cnt) = cap
    omega

theorem opAp_ok {c : Go.Call} {o : Oper} {e : Operand → Value} {H : Heap} {nx : Nat} {q : Orc} {ob : Prop} {r : Res} (ho : o.op = .call c) (hc : c.callee = .builtin .append) (h : opAp P kn c.argTypes.toList (c.args.toList.map e) H nx q ob = some r) : MOk P B kn o e H nx ob r := by
  have hoa : ∀ y ∈ c.args.toList, y ∈ o.op.operands.toList := fun y hy => by simp [ho, Op.operands, Call.operands, hc]; simpa using hy
  unfold opAp at h
  split at h
  · rename_i t t' s x hty hargs
    have hscs : ∀ n, (∀ y ∈ o.op.operands.toList, sc n (e y)) → sc n s ∧ sc n x := fun n hn => by
      have : ∀ v ∈ [s, x], sc n v := fun v hv => by
        rw [← hargs] at hv
        obtain ⟨y, hy, rfl⟩ := List.mem_map.1 hv
        exact hn y (hoa y hy)
      exact ⟨this s (by simp), this x (by simp)⟩
    split at h
    · rename_i htt
      have htt := Nat.eq_of_beq_eq_true htt
      subst htt
      split at h
      · rename_i el hu
        split at h
        · rename_i ie hi
          split at h
          · rename_i z hz
            split at h
            · rename_i hem
              obtain ⟨xa, xc, rfl⟩ : ∃ xa xc, x = .slice xa 0 xc := by
                unfold emptyS at hem
                split at hem
                · rename_i a n c'
                  have := Nat.eq_of_beq_eq_true hem
                  subst this
                  exact ⟨a, c', rfl⟩
                · cases hem
              have hxc : ∀ ρ, ∃ b c', conc ρ (.slice xa 0 xc) = .slice b 0 c' := fun ρ => by
                rcases xa with _ | ⟨k, o2, _ | t2⟩
                · exact ⟨_, _, rfl⟩
                · exact ⟨_, _, rfl⟩
                · exact ⟨_, _, rfl⟩
              have same : ∀ (hcs : ∀ ρ w, R B ρ H nx w → ∃ base n cap, conc ρ s = .slice base n cap ∧ n ≤ cap), MOk P B kn o e H nx ob ⟨s, H, nx, nx, nx, q, ob⟩ := fun hcs => MOk.val id fun _ ρ w hR _ hsc => ⟨(hscs nx hsc).1, fun a ha => by
                obtain ⟨base, n, cap, h1, h2⟩ := hcs ρ w hR
                obtain ⟨b, c', h3⟩ := hxc ρ
                refine exec_append ho hc hty hargs ha ?_
                rw [h1, h3]
                exact run_append_none hu hi base b n cap c' h2 w⟩
              split at h
              · rename_i k off n c' hro
                split at h
                · rename_i hle
                  cases h
                  refine same fun ρ w hR => ?_
                  unfold roomOf at hro
                  split at hro
                  · rename_i k2 off2 n2 c2
                    cases hro
                    exact ⟨_, _, _, conc_slc .., hle⟩
                  · rename_i k2 off2 n2 c2
                    split at hro
                    · rename_i cs ty sz hk
                      split at hro
                      · rename_i hcc
                        cases hro
                        obtain ⟨_, ⟨rest, cnt, _, _, g6, g7, _⟩, _, _⟩ := hR.mem _ _ hk
                        have hcn : n + c2 ≤ cnt := Nat.le_of_mul_le_mul_right (by rw [← g6]; exact hcc.1) hcc.2
                        exact ⟨_, _, _, conc_slr .., by omega⟩
                      · cases hro
                    · cases hro
                  · cases hro
                · cases h
              · cases h
                exact same fun ρ w hR => ⟨none, 0, 0, rfl, Nat.le_refl _⟩
              · split at h
                · rename_i hle
                  cases h
                  exact same fun ρ w hR => ⟨_, _, _, rfl, hle⟩
                · cases h
              · cases h
            · split at h
              · rename_i hcond
                obtain ⟨hsz, hzs, hby⟩ := hcond
                split at h
                · rename_i us m ob1 hsrc
                  obtain ⟨s1, s2, s3, s4⟩ := srcOf_ok (B := B) hsrc
                  have hone : ∀ ρ, ∀ u ∈ concL ρ us, u.oneCell' = true := fun ρ u hu' => by
                    rw [concL_map] at hu'
                    obtain ⟨y, hy, rfl⟩ := List.mem_map.1 hu'
                    exact (oneT_ok (List.all_eq_true.1 s3 y hy) ρ).1
                  split at h
                  · split at h
                    · rename_i hm
                      cases h
                      refine ⟨s1, Low.fresh rfl, fun xo ρ w hR hk hsc a ha K Q hK => ?_⟩
                      obtain ⟨g1, ad, c', g2, g3, g4⟩ := s4 xo ρ nx w hR hk
                      have hrun := run_append_nil (P := P) w t o.type el ie z hu hi hz ad m c' (concL ρ us) (by rw [concL_len]; exact s2) g4 hm.1 (by omega) (by have := Nat.mul_le_mul hm.2 hby; omega)
                      obtain ⟨hR2, hE2⟩ := grown_ok (el := el) hR hzs s2 (grownCap_ge w m 0 el) (grownCap_le_maxLen w m 0 el (by unfold maxLen; omega)) g1
                      refine Rk.wp_value (exec_append ho hc hty hargs ha (by rw [g2]; exact hrun)) ?_
                      have := hK _ _ hR2 hE2 (Nat.lt_succ_self nx)
                      rw [conc_slr, bind_at] at this
                      exact this
                    · cases h
                  · rename_i k n
                    split at h
                    · rename_i cs ty sz hk2
                      split at h
                      · rename_i hm
                        obtain ⟨rfl, hsz2, hcl, hnm⟩ := hm
                        subst hsz2
                        cases h
                        refine ⟨s1, fun j b hj hn hb => by rw [lk_cons, if_neg (by omega), lk_del, if_neg (by simp at hj; omega)]; exact hb, fun xo ρ w hR hk hsc a ha K Q hK => ?_⟩
                        obtain ⟨g1, ad, c', g2, g3, g4⟩ := s4 xo ρ nx w hR hk
                        obtain ⟨r1, ⟨rest, cnt, r2, r3, r4, r5, r6⟩, r7, r8⟩ := hR.mem k _ hk2
                        have hcnt : cnt = n := Nat.eq_of_mul_eq_mul_right hsz (by rw [← r4]; exact hcl)
                        subst hcnt
                        have hlen : (cs ++ us).length = (cnt + m) * ie.size := by rw [List.length_append, hcl, s2, Nat.add_mul]
                        by_cases hroom : cnt + m ≤ (ρ k).cap
                        · have hrl : (concL ρ us).length ≤ rest.length := by
                            rw [concL_len, s2]
                            rw [List.length_append, concL_len, hcl] at r3
                            have := Nat.mul_le_mul_right ie.size hroom
                            rw [Nat.add_mul] at this
                            omega
                          have hrun := run_append_room (P := P) w t o.type ty ie hu hi (ρ k).b cnt (ρ k).cap ⟨concL ρ cs ++ rest⟩ r2 ad m c' (concL ρ us) (by rw [concL_len]; exact s2) g4 (hone ρ) hroom (by
                            simp only [List.size_toArray, List.length_append, concL_len, hcl]
                            rw [concL_len] at hrl
                            omega)
                          have harr : ((⟨concL ρ cs ++ rest⟩ : Array Value).toList.take (cnt * ie.size) ++ concL ρ us ++ (⟨concL ρ cs ++ rest⟩ : Array Value).toList.drop (cnt * ie.size + (concL ρ us).length)) = concL ρ (cs ++ us) ++ rest.drop (concL ρ us).length := by
                            have e1 : (concL ρ cs).length = cnt * ie.size := by rw [concL_len, hcl]
                            simp only []
                            rw [← e1, List.take_left, List.drop_append, List.drop_eq_nil_of_le (by omega), List.nil_append]
                            simp [concL_map]
                          rw [harr] at hrun
                          have hne : ∀ j b, lk H j = some b → j ≠ k → b.mem = true → (ρ j).b ≠ (ρ k).b := fun j b hj hjk hb q2 => hjk (hR.inj j k b _ hj hk2 hb rfl q2)
                          have hsame := bind_same ρ nx ⟨(ρ k).b, (ρ k).cap, undef⟩
                          have hl' : ∀ j b, lk ((nx, .room (cs ++ us) ty ie.size) :: del H k) j = some b → (j = nx ∧ b = .room (cs ++ us) ty ie.size) ∨ (j ≠ nx ∧ j ≠ k ∧ lk H j = some b) := fun j b hj => by
                            rw [lk_cons] at hj
                            split at hj
                            · rename_i q2; cases hj; exact .inl ⟨q2.symm, rfl⟩
                            · rename_i q2
                              rw [lk_del] at hj
                              split at hj
                              · cases hj
                              · rename_i q3; exact .inr ⟨fun q4 => q2 q4.symm, fun q4 => q3 q4.symm, hj⟩
                          have hscs2 : scL nx (cs ++ us) := scL_app r7 g1
                          have hR2 : R B (bind ρ nx ⟨(ρ k).b, (ρ k).cap, undef⟩) ((nx, .room (cs ++ us) ty ie.size) :: del H k) (nx + 1) (w.setRow (ρ k).b (concL ρ (cs ++ us) ++ rest.drop (concL ρ us).length).toArray) := by
                            refine hR.step (by simp) hsame (Nat.le_succ _) nx (.room (cs ++ us) ty ie.size) (Nat.lt_succ_self _) ?_ (scL_mono (Nat.le_succ _) _ hscs2) (fun _ => by rw [bind_at]; exact r8 rfl) (fun j b hj => ?_) (fun j b hj hjn hb _ hj' => ?_) (fun j b hj hj' hjn hb => ?_)
                            · rw [bind_at]
                              refine ⟨rest.drop (concL ρ us).length, cnt + m, ?_, ?_, hlen, hroom, r6⟩
                              · rw [← concL_same hsame _ hscs2]
                                exact setRow_heap w _ _ _ _ _ r2
                              · rw [← concL_same hsame _ hscs2, ← r3]
                                simp only [List.length_append, concL_len, List.length_drop]
                                rw [concL_len] at hrl
                                omega
                            · rcases hl' j b hj with h1 | ⟨h1, _, h2⟩
                              · exact .inl h1
                              · exact .inr ⟨h1, h2⟩
                            · rcases hl' j b hj' with ⟨h1, _⟩ | ⟨h1, h2, h3⟩
                              · exact absurd h1 hjn
                              · rw [bind_at, ← hsame j (hR.mem j b hj).1]
                                exact hne j b hj h2 hb
                            · rcases hl' j b hj' with ⟨h1, _⟩ | ⟨h1, h2, h3⟩
                              · exact absurd h1 hjn
                              · exact setRow_other w _ _ _ (hne j b hj h2 hb)
                          have hE2 : Ext w ρ H nx (w.setRow (ρ k).b (concL ρ (cs ++ us) ++ rest.drop (concL ρ us).length).toArray) (bind ρ nx ⟨(ρ k).b, (ρ k).cap, undef⟩) ((nx, .room (cs ++ us) ty ie.size) :: del H k) (nx + 1) := by
                            refine ⟨hsame, Nat.le_succ _, fun j b hj hb => .inr ?_, fun y hy hn => setRow_other w _ _ _ (fun q2 => hn k _ hk2 rfl q2.symm), by simp, rfl, rfl, rfl⟩
                            rcases hl' j b hj with ⟨rfl, _⟩ | ⟨h1, h2, h3⟩
                            · exact ⟨k, _, hk2, rfl, by rw [bind_at]⟩
                            · exact ⟨j, b, h3, hb, by rw [hsame j (hR.mem j b h3).1]⟩
                          refine Rk.wp_value (exec_append ho hc hty hargs ha (by rw [conc_slr, g2]; exact hrun)) ?_
                          have := hK _ _ hR2 hE2 (Nat.lt_succ_self nx)
                          rw [conc_slr, bind_at] at this
                          exact this
                        · have hrun := run_append_grow (P := P) w t o.type ty ie z hu hi hz ⟨(ρ k).b, 0, none⟩ cnt (ρ k).cap (concL ρ cs) (by rw [concL_len]; exact hcl) (fun j u hj => by
                            rw [Rk.addr_add, Nat.zero_add, cell_at r2]
                            simp only [List.getElem?_toArray]
                            rw [List.getElem?_append_left (List.getElem?_eq_some_iff.1 hj).1]
                            exact hj) ad m c' (concL ρ us) (by rw [concL_len]; exact s2) g4 (by omega) (by omega) (growslice_fits (by omega) (by have := Nat.mul_le_mul hnm hby; omega))
                          obtain ⟨hR2, hE2⟩ := grown_ok (el := ty) hR hzs hlen (grownCap_ge w (cnt + m) (ρ k).cap ty) (grownCap_le_maxLen w (cnt + m) (ρ k).cap ty (by unfold maxLen; omega)) (scL_app r7 g1)
                          have hap : (concL ρ cs).toArray ++ (concL ρ us).toArray = (concL ρ (cs ++ us)).toArray := by simp [concL_map]
                          rw [hap] at hrun
                          have hsub : ∀ j b, lk ((nx, .room (cs ++ us) ty ie.size) :: del H k) j = some b → lk ((nx, .room (cs ++ us) ty ie.size) :: H) j = some b := fun j b hj => by
                            rw [lk_cons] at hj ⊢
                            split at hj
                            · rename_i q2; rw [if_pos q2]; exact hj
                            · rename_i q2
                              rw [if_neg q2]
                              rw [lk_del] at hj
                              split at hj
                              · cases hj
                              · exact hj
                          have hR3 := hR2.sub (H' := (nx, .room (cs ++ us) ty ie.size) :: del H k) (nx' := nx + 1) (fun j b hj => ⟨hsub j b hj, (hR2.mem j b (hsub j b hj)).1, (hR2.mem j b (hsub j b hj)).2.2.1⟩)
                          have hE3 : Ext w ρ H nx _ _ ((nx, .room (cs ++ us) ty ie.size) :: del H k) (nx + 1) := ⟨hE2.env, hE2.nxle, fun j b hj hb => hE2.own j b (hsub j b hj) hb, hE2.fr, hE2.size, hE2.os, hE2.tape, hE2.output⟩
                          refine Rk.wp_value (exec_append ho hc hty hargs ha (by rw [conc_slr, g2]; exact hrun)) ?_
                          have := hK _ _ hR3 hE3 (Nat.lt_succ_self nx)
                          rw [conc_slr, bind_at] at this
                          exact this
                      · cases h
                    · cases h
                  · rename_i k off n c'
                    split at h
                    · rename_i hm
                      split at h
                      · rename_i olds hol
                        cases h
                        obtain ⟨o1, o2⟩ := oldsOf_ok (B := B) hol
                        refine ⟨s1, Low.fresh rfl, fun xo ρ w hR hk hsc a ha K Q hK => ?_⟩
                        obtain ⟨g1, ad, c2, g2, g3, g4⟩ := s4 xo ρ nx w hR hk
                        obtain ⟨o3, o4⟩ := o2 ρ nx w hR
                        have hlen : (olds ++ us).length = (n + m) * ie.size := by rw [List.length_append, o1, s2, Nat.add_mul]
                        have hrun := run_append_grow (P := P) w t o.type el ie z hu hi hz ⟨(ρ k).b, off, none⟩ n c' (concL ρ olds) (by rw [concL_len]; exact o1) o4 ad m c2 (concL ρ us) (by rw [concL_len]; exact s2) g4 hm.1 (by omega) (growslice_fits hm.1 (by have := Nat.mul_le_mul hm.2 hby; omega))
                        obtain ⟨hR2, hE2⟩ := grown_ok (el := el) hR hzs hlen (grownCap_ge w (n + m) c' el) (grownCap_le_maxLen w (n + m) c' el (by unfold maxLen; omega)) (scL_app o3 g1)
                        have hap : (concL ρ olds).toArray ++ (concL ρ us).toArray = (concL ρ (olds ++ us)).toArray := by simp [concL_map]
                        rw [hap] at hrun
                        refine Rk.wp_value (exec_append ho hc hty hargs ha (by rw [conc_slc, g2]; exact hrun)) ?_
                        have := hK _ _ hR2 hE2 (Nat.lt_succ_self nx)
                        rw [conc_slr, bind_at] at this
                        exact this
                      · cases h
                    · cases h
                  · rename_i b2 o2 n c'
                    split at h
                    · rename_i hm
                      obtain ⟨rfl, hm1, hm2⟩ := hm
                      cases h
                      refine ⟨s1, Low.fresh rfl, fun xo ρ w hR hk hsc a ha K Q hK => ?_⟩
                      obtain ⟨g1, ad, c2, g2, g3, g4⟩ := s4 xo ρ nx w hR hk
                      have hrun := run_append_grow (P := P) w t o.type el ie z hu hi hz ⟨b2, o2, none⟩ 0 c' [] (by simp) (fun j u hj => by simp at hj) ad m c2 (concL ρ us) (by rw [concL_len]; exact s2) g4 (by omega) (by omega) (growslice_fits (by omega) (by have := Nat.mul_le_mul hm2 hby; simp only [Nat.zero_add]; omega))
                      rw [Nat.zero_add] at hrun
                      obtain ⟨hR2, hE2⟩ := grown_ok (el := el) hR hzs s2 (grownCap_ge w m c' el) (grownCap_le_maxLen w m c' el (by unfold maxLen; omega)) g1
                      have hap : (([] : List Value).toArray ++ (concL ρ us).toArray) = (concL ρ us).toArray := by simp
                      rw [hap] at hrun
                      refine Rk.wp_value (exec_append ho hc hty hargs ha (by rw [g2]; exact hrun)) ?_
                      have := hK _ _ hR2 hE2 (Nat.lt_succ_self nx)
                      rw [conc_slr, bind_at] at this
                      exact this
                    · cases h
                  · cases h
                · cases h
              · cases h
          · cases h
        · cases h
      · cases h
    · cases h
  · cases h
end
end Rm
end Go.Proofs.YtpophgfjdlkgiaaGreatDoor
