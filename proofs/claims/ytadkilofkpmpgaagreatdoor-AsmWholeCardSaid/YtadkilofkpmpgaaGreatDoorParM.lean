/- 'asm.Parse': its walk where the name is written so. -/
import Derived.Test.YtadkilofkpmpgaaGreatDoorParW
import Derived.Deep.RegionHeld3
namespace Go.Proofs.YtadkilofkpmpgaaGreatDoor
open Go Go.RowKit
set_option maxRecDepth 100000
def shpD (m : Nat) : Nat := (shp (m : Int)).2.1.toNat
def shpV : Value := .agg ⟨shpCells⟩
/-- A mode's shape, as it is handed on. -/
abbrev shpM (m : Nat) : Value := .agg #[.string ⟨⟨(shp (m : Int)).1⟩⟩, .int .i64 (shpD m : Int), .string ⟨⟨(shp (m : Int)).2.2⟩⟩]
def ldOp : Op := .load 54 (.global 0)
theorem ld_run (d : Option Tmp) (T : TypeId) (ps : String) (af : Array _) (g : Option (Nat × Bool)) (a : Act) : Rk.run Tryz.prog kn5 (execOp a.eval ⟨d, ldOp, T, ps, af, g⟩) True = some (.value shpV, True) := by kernel_rfl
theorem ld_shapes (o : Oper) (ho : o.op = ldOp) (a : Act) (W : World) (hk : Rk.Knows kn5 W) : (execOp a.eval o).run Tryz.prog W = .ok (.value shpV) W :=
  by
  obtain ⟨d, op, T, ps, af, g⟩ := o
  simp only at ho
  subst ho
  exact (Rk.run_ok _ (ld_run d T ps af g a)).2 trivial W hk
theorem ix_all : (List.range 13).map (fun m => Rk.run Tryz.prog Rk.noKn (Instr.index 54 shpV (.int .i64 (Int.ofNat m))) True) = (List.range 13).map (fun m => some (shpM m, True)) := by kernel_rfl
theorem ix_shapes (m : Nat) (h : m < 13) (W : World) : (Instr.index 54 shpV (.int .i64 (m : Int))).run Tryz.prog W = .ok (shpM m) W :=
  (Rk.run_ok _ (List.map_inj_left.1 ix_all m (List.mem_range.2 h))).2 trivial W (Rk.noKn_knows W)
theorem wpList_val {P : Program} {ops : Array Oper} {Q : Exit → Act → World → Prop} {o : Oper} {rest : List Oper} {a : Act} {w : World} {v : Value} (hw : Region.wanted o (yielded ops a.tmps) = true)
    (h : (execOp a.eval o).run P w = .ok (.value v) w) (hK : wpList P ops Q rest (a.put o.dst v) w) : wpList P ops Q (o :: rest) a w := by
  unfold wpList
  rw [if_pos hw]
  exact .inl (Rk.wp_value h hK)
set_option maxHeartbeats 6400000 in
theorem par_main (s : ByteArray) (h : ¬ s.size < 3) (hs : s.size ≤ 65536) (haz : (s.data.toList.take 3).all isAZ = true) (w : World) (hk : Rk.Knows kn5 w) (he : ErrV w) :
    Calls Tryz.prog 11 #[.string s] w fun e w' => e = .returned (pv3 (parseW s.data.toList)) ∧ Below w.heap.size w w' := by
  have hR : parseW s.data.toList = prsA (s.data.toList.take 3) (s.data.toList.drop 3) 13 0 11 := by
    rw [parseW, if_neg]
    rintro (h2 | h2)
    · rw [← Lib.size_eq] at h2; exact h h2
    · rw [haz] at h2; cases h2
  have hB := (Below.refl w.heap.size w).alloc (Nat.le_refl _) (.cells #[.int .u8 0, .int .i64 0] 23)
  have hbx : boxAt (w.alloc (.cells #[.int .u8 0, .int .i64 0] 23)) w.heap.size [.int .u8 0, .int .i64 0] 23 := by
    unfold boxAt; rw [heap_alloc_new]
  have d1 : decide ((s.size : Int) < 3) = false := decide_eq_false (by omega)
  have c1 := fun W => trim3 s W h
  have hq : Lib.trimS (s.data.toList.take 3) azL = [] := (trimS_nil _).2 haz
  rw [hq] at c1
  have hsz : (3 : Int) ≤ s.size := by omega
  generalize parseW s.data.toList = R at hR ⊢
  clear h haz hq
  go_enter Tryz.func11, Tryz.ntmps11
  go_upto_region 4 with (go_at_call 27; refine (c1 _).mono ?_; rintro e w2 ⟨rfl, hw2⟩; replace hB := stepB' hB hw2; replace hbx := hbx.below hw2)
  have hk2 := hk.below hB
  refine wp_region_list ?_
  refine wpList_val (v := shpV) rfl (ld_shapes _ rfl _ _ hk2) ?_
  have hix := fun m h W => ix_shapes m h W
  generalize shpV = A at hix ⊢
  go_wp2
  clear hk2 c1 hw2
  have hnm : (s.extract 0 3).data.toList = s.data.toList.take 3 := by rw [ext_list]; rfl
  have hrest : (s.extract 3 s.size).data.toList = s.data.toList.drop 3 := by
    rw [ext_list, List.take_of_length_le]
    rw [List.length_drop, ← Lib.size_eq]; omega
  have hby := fun (m : Int) W => byte_callsW (s.extract 0 3) m W
  have hsr : ∀ (m : Nat), m < 13 → ∀ W, Below w.heap.size w W → Calls Tryz.prog 28 #[shpM m, .string (s.extract 3 s.size)] W fun e w' => e = .returned (shV (wrM m (s.data.toList.drop 3))) ∧ Below W.heap.size W w' := fun m hm W hW => by
    have hd4 : ((List.range 13).all fun m => decide ((shp (Int.ofNat m)).2.1.toNat ≤ 4)) = true := by decide
    have h := shr_calls ⟨⟨(shp (m : Int)).1⟩⟩ ⟨⟨(shp (m : Int)).2.2⟩⟩ (s.extract 3 s.size) (shpD m) (of_decide_eq_true (List.all_eq_true.1 hd4 m (List.mem_range.2 hm))) (by rw [ByteArray.size_extract]; omega) W (he.below hW)
    rw [hrest] at h
    exact h
  rw [hnm] at hby
  generalize s.data.toList.take 3 = nm at hby hR
  generalize s.data.toList.drop 3 = rest at hsr hR
  have HR : Hid (R = prsA nm rest 13 0 11) := hR
  have HS : Hid _ := hsr
  have HY : Hid _ := hby
  clear hR hsr hby hnm hrest
  go_loopw [4, 22] (fun v4 v22 wr => ∃ (m : Nat) (e : Int), m ≤ 13 ∧ v22 = .int .i64 m ∧ v4 = .int .i64 e ∧ Hid (R = prsA nm rest (13 - m) m e) ∧ boxAt wr w.heap.size [.int .u8 0, .int .i64 0] 23 ∧ Below w.heap.size w wr) (fun _ v22 _ => 13 - (intOf v22).toNat)
  case atStart => exact ⟨0, 11, by omega, rfl, rfl, HR, hbx, hB⟩
  case round =>
    clear HR hbx hB
    obtain ⟨m, e, hm, rfl, rfl, HR, hbx, hB⟩ := hrel
    by_cases hm13 : m = 13
    · subst hm13
      have hR : R = (0, 0, e) := HR.out
      subst hR
      have e3 := hbx.cell 0
      have e4 := hbx.cell 1
      have g3 := hbx.froz 0
      have g4 := hbx.froz 1
      clear HR
      go_wp2
      refine bodyPost_ret (v := .tuple #[.agg #[.int .u8 0, .int .i64 0], .int .i64 e]) (by simp [results, Tryz.results11, go_sem, e3, e4]) rfl ⟨rfl, ?_⟩
      exact (hB.setCell (Nat.le_refl _) _).setCell (Nat.le_refl _) _
    · have hm12 : m < 13 := by omega
      have hsr := HS.out m hm12
      unfold shpM at hsr
      have hby := HY.out (m : Int)
      have hR := HR.out
      rw [show 13 - m = (12 - m) + 1 by omega, prsA] at hR
      clear HR
      have d2 : decide ((m : Int) < 13) = true := decide_eq_true (by omega)
      have hix := hix m hm12
      clear HS HY
      by_cases hv : wrM m rest < 0
      · rw [if_pos hv] at hR
        rw [shV, if_pos hv] at hsr
        have HR : Hid _ := hR
        clear hR hv hby
        go_upto_region 7 with fail
        have hB3 := hB.alloc hB.size (.cells #[.string ⟨⟨(shp (m : Int)).1⟩⟩, .int .i64 (shpD m : Int), .string ⟨⟨(shp (m : Int)).2.2⟩⟩] 53)
        have hbx3 := hbx.alloc (.cells #[.string ⟨⟨(shp (m : Int)).1⟩⟩, .int .i64 (shpD m : Int), .string ⟨⟨(shp (m : Int)).2.2⟩⟩] 53)
        have hby3 : boxAt (wr.alloc (.cells #[.string ⟨⟨(shp (m : Int)).1⟩⟩, .int .i64 (shpD m : Int), .string ⟨⟨(shp (m : Int)).2.2⟩⟩] 53)) wr.heap.size [.string ⟨⟨(shp (m : Int)).1⟩⟩, .int .i64 (shpD m : Int), .string ⟨⟨(shp (m : Int)).2.2⟩⟩] 53 := by unfold boxAt; rw [heap_alloc_new]
        generalize wr.alloc (.cells #[.string ⟨⟨(shp (m : Int)).1⟩⟩, .int .i64 (shpD m : Int), .string ⟨⟨(shp (m : Int)).2.2⟩⟩] 53) = W3 at hB3 hbx3 hby3 ⊢
        generalize wr.heap.size = N at hby3 ⊢
        generalize hsa : (⟨⟨(shp (m : Int)).1⟩⟩ : ByteArray) = sa at hsr hby3
        generalize hsd : (shpD m : Int) = sd at hsr hby3
        generalize hsb : (⟨⟨(shp (m : Int)).2.2⟩⟩ : ByteArray) = sb at hsr hby3
        clear hix hsa hsd hsb hbx hB
        replace hB3 : Below w.heap.size w W3.drew := ⟨hB3.os, hB3.tape, hB3.output, hB3.size, hB3.block⟩
        replace hbx3 : boxAt W3.drew w.heap.size [.int .u8 0, .int .i64 0] 23 := hbx3
        replace hby3 : boxAt W3.drew N [.string sa, .int .i64 sd, .string sb] 53 := hby3
        have x0 : W3.drew.cell? ⟨N, 0, none⟩ = some (.string sa) := hby3.cell 0
        have x1 : W3.drew.cell? ⟨N, 1, none⟩ = some (.int .i64 sd) := hby3.cell 1
        have x2 : W3.drew.cell? ⟨N, 2, none⟩ = some (.string sb) := hby3.cell 2
        have sR := fun W' (k1 : Below w.heap.size w W') (k2 : boxAt W' w.heap.size [.int .u8 0, .int .i64 0] 23) (k3 : boxAt W' N [.string sa, .int .i64 sd, .string sb] 53) => (hsr W' k1).mono fun er w'' (q : _ ∧ _) => (⟨q.1, stepB' k1 q.2, k2.below q.2, k3.below q.2⟩ : _ ∧ Below w.heap.size w w'' ∧ boxAt w'' w.heap.size [.int .u8 0, .int .i64 0] 23 ∧ boxAt w'' N [.string sa, .int .i64 sd, .string sb] 53)
        go_region_held3 (fun w' => Below w.heap.size w w' ∧ boxAt w' w.heap.size [.int .u8 0, .int .i64 0] 23 ∧ boxAt w' N [.string sa, .int .i64 sd, .string sb] 53 ∧ w'.cell? ⟨N, 0, none⟩ = some (.string sa) ∧ w'.cell? ⟨N, 1, none⟩ = some (.int .i64 sd) ∧ w'.cell? ⟨N, 2, none⟩ = some (.string sb))
          (first | exact ⟨by assumption, by assumption, by assumption, by assumption, by assumption, by assumption⟩)
          (first | (go_at_call 28; refine (sR _ (by assumption) (by assumption) (by assumption)).mono ?_; rintro er w5 ⟨rfl, j1, j2, j3⟩; have t0 : w5.cell? ⟨N, 0, none⟩ = some (.string sa) := j3.cell 0; have t1 : w5.cell? ⟨N, 1, none⟩ = some (.int .i64 sd) := j3.cell 1; have t2 : w5.cell? ⟨N, 2, none⟩ = some (.string sb) := j3.cell 2))
        all_goals clear sR hsr hB3 hbx3 hby3 x0 x1 x2 t0 t1 t2 j3
        have hB3 := j1
        have hbx3 := j2
        clear j1 j2
        go_wp2
        exact ⟨⟨m + 1, e, by omega, by go_num, rfl, by rw [show 13 - (m + 1) = 12 - m by omega]; exact HR, hbx3, hB3⟩, by simp [intOf]; omega⟩
      · rw [if_neg hv] at hR
        rw [shV, if_neg hv] at hsr
        generalize wrM m rest = v at hR hsr
        generalize byteW nm (m : Int) opTab 0 14 = by2 at hR hby
        obtain ⟨b, eb⟩ := by2
        simp only at hR hby
        by_cases hb : eb = 0
        · rw [if_pos hb] at hR
          subst hb
          subst hR
          clear hv
          go_upto_region 7 with fail
          have hB3 := hB.alloc hB.size (.cells #[.string ⟨⟨(shp (m : Int)).1⟩⟩, .int .i64 (shpD m : Int), .string ⟨⟨(shp (m : Int)).2.2⟩⟩] 53)
          have hbx3 := hbx.alloc (.cells #[.string ⟨⟨(shp (m : Int)).1⟩⟩, .int .i64 (shpD m : Int), .string ⟨⟨(shp (m : Int)).2.2⟩⟩] 53)
          have hby3 : boxAt (wr.alloc (.cells #[.string ⟨⟨(shp (m : Int)).1⟩⟩, .int .i64 (shpD m : Int), .string ⟨⟨(shp (m : Int)).2.2⟩⟩] 53)) wr.heap.size [.string ⟨⟨(shp (m : Int)).1⟩⟩, .int .i64 (shpD m : Int), .string ⟨⟨(shp (m : Int)).2.2⟩⟩] 53 := by unfold boxAt; rw [heap_alloc_new]
          generalize wr.alloc (.cells #[.string ⟨⟨(shp (m : Int)).1⟩⟩, .int .i64 (shpD m : Int), .string ⟨⟨(shp (m : Int)).2.2⟩⟩] 53) = W3 at hB3 hbx3 hby3 ⊢
          generalize wr.heap.size = N at hby3 ⊢
          generalize hsa : (⟨⟨(shp (m : Int)).1⟩⟩ : ByteArray) = sa at hsr hby3
          generalize hsd : (shpD m : Int) = sd at hsr hby3
          generalize hsb : (⟨⟨(shp (m : Int)).2.2⟩⟩ : ByteArray) = sb at hsr hby3
          clear hix hsa hsd hsb hbx hB
          replace hB3 : Below w.heap.size w W3.drew := ⟨hB3.os, hB3.tape, hB3.output, hB3.size, hB3.block⟩
          replace hbx3 : boxAt W3.drew w.heap.size [.int .u8 0, .int .i64 0] 23 := hbx3
          replace hby3 : boxAt W3.drew N [.string sa, .int .i64 sd, .string sb] 53 := hby3
          have x0 : W3.drew.cell? ⟨N, 0, none⟩ = some (.string sa) := hby3.cell 0
          have x1 : W3.drew.cell? ⟨N, 1, none⟩ = some (.int .i64 sd) := hby3.cell 1
          have x2 : W3.drew.cell? ⟨N, 2, none⟩ = some (.string sb) := hby3.cell 2
          have sR := fun W' (k1 : Below w.heap.size w W') (k2 : boxAt W' w.heap.size [.int .u8 0, .int .i64 0] 23) (k3 : boxAt W' N [.string sa, .int .i64 sd, .string sb] 53) => (hsr W' k1).mono fun er w'' (q : _ ∧ _) => (⟨q.1, stepB' k1 q.2, k2.below q.2, k3.below q.2⟩ : _ ∧ Below w.heap.size w w'' ∧ boxAt w'' w.heap.size [.int .u8 0, .int .i64 0] 23 ∧ boxAt w'' N [.string sa, .int .i64 sd, .string sb] 53)
          go_region_held3 (fun w' => Below w.heap.size w w' ∧ boxAt w' w.heap.size [.int .u8 0, .int .i64 0] 23 ∧ boxAt w' N [.string sa, .int .i64 sd, .string sb] 53 ∧ w'.cell? ⟨N, 0, none⟩ = some (.string sa) ∧ w'.cell? ⟨N, 1, none⟩ = some (.int .i64 sd) ∧ w'.cell? ⟨N, 2, none⟩ = some (.string sb))
            (first | exact ⟨by assumption, by assumption, by assumption, by assumption, by assumption, by assumption⟩)
            (first | (go_at_call 28; refine (sR _ (by assumption) (by assumption) (by assumption)).mono ?_; rintro er w5 ⟨rfl, j1, j2, j3⟩; have t0 : w5.cell? ⟨N, 0, none⟩ = some (.string sa) := j3.cell 0; have t1 : w5.cell? ⟨N, 1, none⟩ = some (.int .i64 sd) := j3.cell 1; have t2 : w5.cell? ⟨N, 2, none⟩ = some (.string sb) := j3.cell 2))
          all_goals clear sR hsr hB3 hbx3 hby3 x0 x1 x2 t0 t1 t2 j3
          have hB3 := j1
          have hbx3 := j2
          clear j1 j2
          go_wp2_with (go_at_call 29; refine (hby _).mono ?_; rintro er w6 ⟨rfl, hw6⟩; replace hB3 := stepB' hB3 hw6; replace hbx3 := hbx3.below hw6; have e3 := hbx3.cell 0; have e4 := hbx3.cell 1; have g3 := hbx3.froz 0; have g4 := hbx3.froz 1)
          refine bodyPost_ret (v := .tuple #[.agg #[.int .u8 b, .int .i64 v], .int .i64 0]) (by simp [results, Tryz.results11, go_sem, e3, e4]) rfl ⟨rfl, ?_⟩
          exact (hB3.setCell (Nat.le_refl _) _).setCell (Nat.le_refl _) _
        · rw [if_neg hb] at hR
          have d3 : (eb == 0) = false := beq_eq_false_iff_ne.2 hb
          have HR : Hid _ := hR
          clear hR hv hb
          go_upto_region 7 with fail
          have hB3 := hB.alloc hB.size (.cells #[.string ⟨⟨(shp (m : Int)).1⟩⟩, .int .i64 (shpD m : Int), .string ⟨⟨(shp (m : Int)).2.2⟩⟩] 53)
          have hbx3 := hbx.alloc (.cells #[.string ⟨⟨(shp (m : Int)).1⟩⟩, .int .i64 (shpD m : Int), .string ⟨⟨(shp (m : Int)).2.2⟩⟩] 53)
          have hby3 : boxAt (wr.alloc (.cells #[.string ⟨⟨(shp (m : Int)).1⟩⟩, .int .i64 (shpD m : Int), .string ⟨⟨(shp (m : Int)).2.2⟩⟩] 53)) wr.heap.size [.string ⟨⟨(shp (m : Int)).1⟩⟩, .int .i64 (shpD m : Int), .string ⟨⟨(shp (m : Int)).2.2⟩⟩] 53 := by unfold boxAt; rw [heap_alloc_new]
          generalize wr.alloc (.cells #[.string ⟨⟨(shp (m : Int)).1⟩⟩, .int .i64 (shpD m : Int), .string ⟨⟨(shp (m : Int)).2.2⟩⟩] 53) = W3 at hB3 hbx3 hby3 ⊢
          generalize wr.heap.size = N at hby3 ⊢
          generalize hsa : (⟨⟨(shp (m : Int)).1⟩⟩ : ByteArray) = sa at hsr hby3
          generalize hsd : (shpD m : Int) = sd at hsr hby3
          generalize hsb : (⟨⟨(shp (m : Int)).2.2⟩⟩ : ByteArray) = sb at hsr hby3
          clear hix hsa hsd hsb hbx hB
          replace hB3 : Below w.heap.size w W3.drew := ⟨hB3.os, hB3.tape, hB3.output, hB3.size, hB3.block⟩
          replace hbx3 : boxAt W3.drew w.heap.size [.int .u8 0, .int .i64 0] 23 := hbx3
          replace hby3 : boxAt W3.drew N [.string sa, .int .i64 sd, .string sb] 53 := hby3
          have x0 : W3.drew.cell? ⟨N, 0, none⟩ = some (.string sa) := hby3.cell 0
          have x1 : W3.drew.cell? ⟨N, 1, none⟩ = some (.int .i64 sd) := hby3.cell 1
          have x2 : W3.drew.cell? ⟨N, 2, none⟩ = some (.string sb) := hby3.cell 2
          have sR := fun W' (k1 : Below w.heap.size w W') (k2 : boxAt W' w.heap.size [.int .u8 0, .int .i64 0] 23) (k3 : boxAt W' N [.string sa, .int .i64 sd, .string sb] 53) => (hsr W' k1).mono fun er w'' (q : _ ∧ _) => (⟨q.1, stepB' k1 q.2, k2.below q.2, k3.below q.2⟩ : _ ∧ Below w.heap.size w w'' ∧ boxAt w'' w.heap.size [.int .u8 0, .int .i64 0] 23 ∧ boxAt w'' N [.string sa, .int .i64 sd, .string sb] 53)
          go_region_held3 (fun w' => Below w.heap.size w w' ∧ boxAt w' w.heap.size [.int .u8 0, .int .i64 0] 23 ∧ boxAt w' N [.string sa, .int .i64 sd, .string sb] 53 ∧ w'.cell? ⟨N, 0, none⟩ = some (.string sa) ∧ w'.cell? ⟨N, 1, none⟩ = some (.int .i64 sd) ∧ w'.cell? ⟨N, 2, none⟩ = some (.string sb))
            (first | exact ⟨by assumption, by assumption, by assumption, by assumption, by assumption, by assumption⟩)
            (first | (go_at_call 28; refine (sR _ (by assumption) (by assumption) (by assumption)).mono ?_; rintro er w5 ⟨rfl, j1, j2, j3⟩; have t0 : w5.cell? ⟨N, 0, none⟩ = some (.string sa) := j3.cell 0; have t1 : w5.cell? ⟨N, 1, none⟩ = some (.int .i64 sd) := j3.cell 1; have t2 : w5.cell? ⟨N, 2, none⟩ = some (.string sb) := j3.cell 2))
          all_goals clear sR hsr hB3 hbx3 hby3 x0 x1 x2 t0 t1 t2 j3
          have hB3 := j1
          have hbx3 := j2
          clear j1 j2
          go_wp2_with (go_at_call 29; refine (hby _).mono ?_; rintro er w6 ⟨rfl, hw6⟩; replace hB3 := stepB' hB3 hw6; replace hbx3 := hbx3.below hw6; have e3 := hbx3.cell 0; have e4 := hbx3.cell 1; have g3 := hbx3.froz 0; have g4 := hbx3.froz 1)
          exact ⟨⟨m + 1, eb, by omega, by go_num, rfl, by rw [show 13 - (m + 1) = 12 - m by omega]; exact HR, hbx3, hB3⟩, by simp [intOf]; omega⟩
end Go.Proofs.YtadkilofkpmpgaaGreatDoor
