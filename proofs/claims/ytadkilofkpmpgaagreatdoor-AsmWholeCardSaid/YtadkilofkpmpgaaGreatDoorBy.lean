/- 'opcode.Byte': the opcode of a name, in a mode; at every name, every mode. -/
import Derived.Test.YtadkilofkpmpgaaGreatDoorAll
import Derived.RegionIn
namespace Go.Proofs.YtadkilofkpmpgaaGreatDoor
open Go Go.RowKit Go.Shelf Go.Proofs
attribute [local go_sem] Oper.semAt_some

def hit (name : ByteArray) (mode : Int) (x : Ent) : Bool := opName (x : Int) == name.data.toList && (opMode (x : Int) == mode)
def errOf (name : ByteArray) (pre : List Ent) : Int := if (pre.any fun x => opName (x : Int) == name.data.toList) = true then 15 else 14
theorem errOf_snoc (name : ByteArray) (pre : List Ent) (x : Ent) : errOf name (pre ++ [x]) = if ((pre.any fun x => opName (x : Int) == name.data.toList) || (opName (x : Int) == name.data.toList)) = true then 15 else 14 := by
  unfold errOf; rw [List.any_append]; simp
def byteR (name : ByteArray) (mode : Int) : Int × Int := match (upto 256).find? (hit name mode) with
  | some x => ((x : Int), 0)
  | none => (0, errOf name (upto 256))
theorem upto_split (k : Nat) (h : k ≤ 256) : ∃ r, upto 256 = upto k ++ r := by
  have e : List.range 256 = List.range k ++ (List.range (256 - k)).map (k + ·) := by
    rw [← List.range_add]; congr 1; omega
  unfold upto
  rw [e, List.filter_append]
  exact ⟨_, rfl⟩
theorem byteR_hit {name : ByteArray} {mode : Int} {k : Nat} {x : Ent} (h : k ≤ 256) (hf : (upto k).find? (hit name mode) = some x) : byteR name mode = ((x : Int), 0) := by
  obtain ⟨r, hr⟩ := upto_split k h
  unfold byteR
  rw [hr, List.find?_append, hf]
  rfl

set_option maxRecDepth 100000 in
set_option maxHeartbeats 4000000 in
theorem byte_calls (name : ByteArray) (mode : Int) (w : World) : Calls Tryz.prog 29 #[.string name, .int .i64 mode] w fun e w' => e = .returned (.tuple #[.int .u8 (byteR name mode).1, .int .i64 (byteR name mode).2]) ∧ Below w.heap.size w w' := by
  refine (callsIn_wide (n := 5)).1 ?_
  refine callsIn_of_wp_marks Tryz.func29 rfl trivial ?_ rfl
  simp only [Tryz.ntmps29, List.size_toArray, List.length_cons, List.length_nil, Nat.reduceAdd, Nat.reduceSub, Array.replicate_succ, Array.replicate_zero, List.push_toArray, List.append_toArray, List.nil_append, List.cons_append]
  gi_wp2_with (refine ⟨trivial, ?_⟩; gi_at_call 59; refine (callsIn_wide.2 (all_calls _)).mono ?_; rintro e w' ⟨rfl, hw'⟩)
  have b0 : Boxed w' w.heap.size 9 (.string name) := (hw'.block _ (by simp; omega)).trans (((((Boxed.new w _ _).alloc _).alloc _).alloc _).alloc _)
  have b1 : Boxed w' (w.heap.size + 1) 3 (.int .i64 mode) := (hw'.block _ (by simp)).trans (by have h := ((((Boxed.new (w.alloc (.cells #[Value.string name] 9)) 3 (.int .i64 mode)).alloc (.cells #[.int .u8 0] 5)).alloc (.cells #[.int .i64 0] 25)).alloc (.cells #[.int .i64 14] 25)); simp only [World.size_alloc] at h; exact h)
  have b2 : Boxed w' (w.heap.size + 1 + 1) 5 (.int .u8 0) := (hw'.block _ (by simp)).trans (by have h := (((Boxed.new ((w.alloc (.cells #[Value.string name] 9)).alloc (.cells #[.int .i64 mode] 3)) 5 (.int .u8 0)).alloc (.cells #[.int .i64 0] 25)).alloc (.cells #[.int .i64 14] 25)); simp only [World.size_alloc] at h; exact h)
  have b3 : Boxed w' (w.heap.size + 1 + 1 + 1) 25 (.int .i64 0) := (hw'.block _ (by simp)).trans (by have h := ((Boxed.new (((w.alloc (.cells #[Value.string name] 9)).alloc (.cells #[.int .i64 mode] 3)).alloc (.cells #[.int .u8 0] 5)) 25 (.int .i64 0)).alloc (.cells #[.int .i64 14] 25)); simp only [World.size_alloc] at h; exact h)
  have b4 : Boxed w' (w.heap.size + 1 + 1 + 1 + 1) 25 (.int .i64 14) := (hw'.block _ (by simp)).trans (by have h := (Boxed.new ((((w.alloc (.cells #[Value.string name] 9)).alloc (.cells #[.int .i64 mode] 3)).alloc (.cells #[.int .u8 0] 5)).alloc (.cells #[.int .i64 0] 25)) 25 (.int .i64 14)); simp only [World.size_alloc] at h; exact h)
  have hB0 : Below w.heap.size w w' := (((((((Below.refl _ w).alloc (Nat.le_refl _) _).alloc (by simp) _).alloc (by simp; omega) _).alloc (by simp; omega) _).alloc (by simp; omega) _)).trans (hw'.mono (by simp; omega))
  have hsz : w.heap.size + 5 ≤ w'.heap.size := by have := hw'.size; simp at this; omega
  clear hw'
  refine wpIn_rangeFunc_ownH rfl (by decide) (gf := 86) (lb := #[]) rfl trivial (enters_of Tryz.func86 (by kernel_rfl) rfl)
    (all_stops 4 (by decide) w.heap.size w') belowK_t (belowK_b hB0.size) (Below.refl _ _) (fun _ => rfl)
    (fun pre W => (((((pre.find? (hit name mode) = none ∧ Boxed W w.heap.size 9 (.string name)) ∧ Boxed W (w.heap.size + 1) 3 (.int .i64 mode)) ∧ Boxed W (w.heap.size + 1 + 1) 5 (.int .u8 0)) ∧ Boxed W (w.heap.size + 1 + 1 + 1) 25 (.int .i64 0)) ∧ Boxed W (w.heap.size + 1 + 1 + 1 + 1) 25 (.int .i64 (errOf name pre))) ∧ Below w.heap.size w W)
    (fun c pre W => (c = .ret ∧ ∃ x : Ent, pre.find? (hit name mode) = some x ∧ Boxed W (w.heap.size + 1 + 1) 5 (.int .u8 (x : Int)) ∧ Boxed W (w.heap.size + 1 + 1 + 1) 25 (.int .i64 0)) ∧ Below w.heap.size w W)
    (OwnFrom.and (Own.from (fun s A B row hs hg hr => ⟨⟨⟨⟨⟨hs.1.1.1.1.1, boxed_own _ _ (fun (_ : Unit) => _) () A B row hs.1.1.1.1.2 hg hr⟩, boxed_own _ _ (fun (_ : Unit) => _) () A B row hs.1.1.1.2 hg hr⟩, boxed_own _ _ (fun (_ : Unit) => _) () A B row hs.1.1.2 hg hr⟩, boxed_own _ _ (fun (_ : Unit) => _) () A B row hs.1.2 hg hr⟩, boxed_own _ _ (fun (_ : Unit) => _) () A B row hs.2 hg hr⟩) _) (ownFrom_below (Nat.le_refl _) hB0.size))
    (fun c => OwnFrom.and (Own.from (fun s A B row hs hg hr => by obtain ⟨h1, x, h2, h3, h4⟩ := hs; exact ⟨h1, x, h2, boxed_own _ _ (fun (_ : Unit) => _) () A B row h3 hg hr, boxed_own _ _ (fun (_ : Unit) => _) () A B row h4 hg hr⟩) _) (ownFrom_below (Nat.le_refl _) hB0.size))
    ⟨⟨⟨⟨⟨⟨rfl, b0⟩, b1⟩, b2⟩, b3⟩, b4⟩, hB0⟩
    (fun x a' W => ∃ Bx, w.heap.size + 1 + 1 + 1 + 1 < Bx ∧ W.heap[Bx]? = some (.cells #[.string ⟨⟨opName (x : Int)⟩⟩, .int .i64 (opMode (x : Int)), .int .i64 (opKind (x : Int))] 49 (0, 0)) ∧ a' = { tmps := #[.string name, .int .i64 mode, .pointer (some ⟨w.heap.size, 0, none⟩), .pointer (some ⟨w.heap.size + 1, 0, none⟩), .pointer (some ⟨w.heap.size + 1 + 1, 0, none⟩), .pointer (some ⟨w.heap.size + 1 + 1 + 1, 0, none⟩), .pointer (some ⟨w.heap.size + 1 + 1 + 1 + 1, 0, none⟩), .int .u8 (x : Int), .pointer (some ⟨Bx, 0, none⟩), .func (.func 86) #[] #[], .int .u8 (x : Int), rowV x, undef, undef, undef, undef, undef, undef, undef, undef, undef, undef, undef, undef], defers := [] })
    (fun x a' _ X Y row hs hg hr => by
      obtain ⟨Bx, h1, h2, h3⟩ := hs
      refine ⟨Bx, h1, (hg.block Bx (Array.getElem?_eq_some_iff.1 h2).1 (fun e => ?_)).trans h2, h3⟩
      obtain ⟨_, o, ho, hc⟩ := hr Bx e.symm
      rw [h2] at ho; cases ho; cases hc)
    ?assign ?body ?done ?stop
  case assign =>
    rintro l pre x W K ⟨⟨⟨⟨⟨⟨hf, c0⟩, c1⟩, c2⟩, c3⟩, c4⟩, hB⟩ hK
    gi_wp2
    exact hK _ _ ((KeepsOthers.alloc _ _).from _) ((Below.refl _ W).alloc hB.size _) ⟨⟨⟨⟨⟨⟨hf, c0.alloc _⟩, c1.alloc _⟩, c2.alloc _⟩, c3.alloc _⟩, c4.alloc _⟩, hB.alloc hB.size _⟩ ⟨W.heap.size, c4.lt, World.alloc_heap_new W _, rfl⟩
  case body =>
    rintro l pre x a' W hl ⟨r, hr⟩ ⟨⟨⟨⟨⟨⟨hf, c0⟩, c1⟩, c2⟩, c3⟩, c4⟩, hB⟩ ⟨Bx, hBx, hX, rfl⟩ hlt
    have k0 := c0.cell
    have k1 := c1.cell
    have k2 := c2.cell
    have k3 := c3.cell
    have k4 := c4.cell
    have f2 := c2.frozen
    have f3 := c3.frozen
    have f4 := c4.frozen
    have x0 : W.cell? ⟨Bx, 0, none⟩ = some (.string ⟨⟨opName (x : Int)⟩⟩) := by simp [World.cell?, hX]
    have x1 : W.cell? ⟨Bx, 1, none⟩ = some (.int .i64 (opMode (x : Int))) := by simp [World.cell?, hX]
    gi_wp2
    · rename_i hn
      rw [ByteArray.toList_eq] at hn
      have hn' : (opName (x : Int) == name.data.toList) = false := by simpa using hn
      refine ⟨KeepsFrom.refl _ _, Below.refl _ _, ⟨⟨⟨⟨⟨?_, c0⟩, c1⟩, c2⟩, c3⟩, ?_⟩, hB⟩
      · rw [List.find?_append, hf]; simp [hit, hn']
      · rw [errOf_snoc, hn', Bool.or_false]; exact c4
    · rename_i hn hm
      rw [ByteArray.toList_eq] at hn
      have hn' : (opName (x : Int) == name.data.toList) = true := by simpa using hn
      refine ⟨((KeepsOthers.setCell _ _ _).trans (KeepsOthers.setCell _ _ _)).from _, ⟨rfl, x, ?_, (c2.set _).other (by omega) _, (c3.other (by omega) _).set _⟩, (hB.setCell (p := ⟨w.heap.size + 1 + 1, 0, none⟩) (by simp; omega) _).setCell (p := ⟨w.heap.size + 1 + 1 + 1, 0, none⟩) (by simp; omega) _⟩
      rw [List.find?_append, hf]; simp [hit, hn', hm]
    · rename_i hn hm
      rw [ByteArray.toList_eq] at hn
      have hn' : (opName (x : Int) == name.data.toList) = true := by simpa using hn
      refine ⟨(KeepsOthers.setCell _ _ _).from _, (Below.refl _ _).setCell (p := ⟨w.heap.size + 1 + 1 + 1 + 1, 0, none⟩) (by simp; omega) _, ⟨⟨⟨⟨⟨?_, c0.other (by omega) _⟩, c1.other (by omega) _⟩, c2.other (by omega) _⟩, c3.other (by omega) _⟩, ?_⟩, hB.setCell (p := ⟨w.heap.size + 1 + 1 + 1 + 1, 0, none⟩) (by simp; omega) _⟩
      · rw [List.find?_append, hf]; simp [hit, hm]
      · rw [errOf_snoc, hn', Bool.or_true]; exact c4.set _
  case done =>
    rintro D zs W hD rfl ⟨⟨⟨⟨⟨⟨hf, c0⟩, c1⟩, c2⟩, c3⟩, c4⟩, hB⟩ hK
    have k2 := c2.cell
    have k3 := c3.cell
    have k4 := c4.cell
    have f2 := c2.frozen
    have f3 := c3.frozen
    have f4 := c4.frozen
    have hmx := mixed
    gi_wp2
    gi_region
    gi_wp2
    have hfull : byteR name mode = (0, errOf name (upto 256)) := by unfold byteR; rw [hf]
    have hK' := ((KeepsOthers.setCell W ⟨w.heap.size + 1 + 1, 0, none⟩ (.int .u8 0)).trans ((KeepsOthers.setCell _ ⟨w.heap.size + 1 + 1 + 1, 0, none⟩ (.int .i64 (errOf name (upto 256)))).trans (KeepsOthers.drew _))).same D _ hK rfl
    refine ⟨by simp, .inl ⟨_, _, rfl, run_takeDeferred hK', ?_⟩⟩
    have d2 : Boxed ((W.setCell ⟨w.heap.size + 1 + 1, 0, none⟩ (.int .u8 0)).setCell ⟨w.heap.size + 1 + 1 + 1, 0, none⟩ (.int .i64 (errOf name (upto 256)))).drew (w.heap.size + 1 + 1) 5 (.int .u8 0) := (c2.set _).other (by omega) _
    have d3 : Boxed ((W.setCell ⟨w.heap.size + 1 + 1, 0, none⟩ (.int .u8 0)).setCell ⟨w.heap.size + 1 + 1 + 1, 0, none⟩ (.int .i64 (errOf name (upto 256)))).drew (w.heap.size + 1 + 1 + 1) 25 (.int .i64 (errOf name (upto 256))) := (c3.other (by omega) _).set _
    have q2 := cell_kept d2.cell (grownBy_putObj' _ D (.deferred none)) (fun r e => by cases e; exact ⟨_, hK', rfl⟩)
    have q3 := cell_kept d3.cell (grownBy_putObj' _ D (.deferred none)) (fun r e => by cases e; exact ⟨_, hK', rfl⟩)
    refine ⟨.tuple #[.int .u8 0, .int .i64 (errOf name (upto 256))], ?_, by rw [hfull], ((hB.setCell (p := ⟨w.heap.size + 1 + 1, 0, none⟩) (by simp; omega) _).setCell (p := ⟨w.heap.size + 1 + 1 + 1, 0, none⟩) (by simp; omega) _).drew.trans (belowK_b (w := w) (Nat.le_refl _) _ D _ _ (by omega) hK' rfl rfl)⟩
    simp [results, Tryz.f29, go_sem, q2, q3]
  case stop =>
    rintro D c pre W hD ⟨k, hk, hop, rfl⟩ ⟨⟨rfl, x, hf, c2, c3⟩, hB⟩ hK
    have hfull := byteR_hit (by omega) hf
    gi_wp2
    refine ⟨by simp, .inl ⟨_, _, rfl, run_takeDeferred hK, ?_⟩⟩
    have q2 := cell_kept c2.cell (grownBy_putObj' _ D (.deferred none)) (fun r e => by cases e; exact ⟨_, hK, rfl⟩)
    have q3 := cell_kept c3.cell (grownBy_putObj' _ D (.deferred none)) (fun r e => by cases e; exact ⟨_, hK, rfl⟩)
    refine ⟨.tuple #[.int .u8 (x : Int), .int .i64 0], ?_, by rw [hfull], hB.trans (belowK_b (w := w) (Nat.le_refl _) W D _ _ (by omega) hK rfl rfl)⟩
    simp [results, Tryz.f29, go_sem, q2, q3]
end Go.Proofs.YtadkilofkpmpgaaGreatDoor
